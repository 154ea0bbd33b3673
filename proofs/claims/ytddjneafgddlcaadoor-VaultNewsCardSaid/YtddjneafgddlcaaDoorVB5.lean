/- The texts VW1, VW2, VW3, YI, Y1a, YF, V3f, VY1, one behind the other: each bears its own sentence. Conditions: as each says. -/
import Derived.Test.YtddjneafgddlcaaDoorVB1
import Derived.Test.YtddjneafgddlcaaDoorVB2
import Derived.Test.YtddjneafgddlcaaDoorVB3
import Derived.Test.YtddjneafgddlcaaDoorVB4

/- Plain functions of the references and the laws, printed from the loaded program, and the walks that show that the program computes them. Condition: the plain function yields. -/
namespace Go.Proofs.YtddjneafgddlcaaDoor
open Go
variable {K : Nat → Prop} {w0 : World} {H : List Chunk}

def f_ref07_Zeros (p0 : Int) : Option (List UInt8) :=
  (mkI 1 p0 0).bind fun l1 =>
  some l1
set_option maxRecDepth 100000 in
theorem c_ref07_Zeros {p0 : Int} {r : List UInt8} (h : f_ref07_Zeros p0 = some r)  : Con Tryd.prog K w0 47 [vI p0] [] H (fun u M => u = vS r ∧ M = []) := by
  unfold f_ref07_Zeros at h
  refine Con.enter Tryd.func47 rfl rfl ?_
  refine SX.sr ?_
  refine SL.asg ⟨rfl, rfl, rfl, rfl⟩ rfl ?_
  refine SL.nx ?_
  refine SX.sr ?_
  obtain ⟨l1, hl1, h⟩ := bnd h
  refine SL.mv ⟨rfl, rfl, rfl, rfl⟩ rfl ?_
  refine SL.mkN hl1 eU8 ⟨rfl, rfl, rfl, rfl⟩ ty51 sz5 by5 ze5 rfl rfl rfl rfl (fun _ => trivial) fun v1 => ?_
  refine SL.btsT 0 ⟨rfl, rfl, rfl, rfl⟩ ty51 ty5 ty9 rfl rfl ?_
  refine SL.asg ⟨rfl, rfl, rfl, rfl⟩ rfl ?_
  refine SL.nx ?_
  refine SX.ret ?_
  obtain rfl := Option.some.inj h
  exact SQ.fret (res1 rfl rfl) (ret_of (M := []) ⟨rfl, rfl⟩ fun _ hw => HpOk.pick (H := [_]) hw [] 1 rfl)

def f_ref07_New_j1 (y1 : List UInt8) (l1 : List (List UInt8)) (l2 : List (List UInt8)) (l3 : List Bool) : Option (Option RDevA × Int) :=
  some (some ({ blk := l1, pnd := l2, bads := l3, rcnt := 0, rtag := y1, rboots := 0, left := (-1), off := false } : RDevA), 0)
def f_ref07_New_l1_b (p0 : Int) (y1 : List UInt8) (nx_f_ref07_New_l1 : List (List UInt8) × List (List UInt8) × List Bool × Int → Option (Option RDevA × Int)) (l4 : List (List UInt8)) (l5 : List (List UInt8)) (l6 : List Bool) (a1 : Int) : Option (Option RDevA × Int) :=
  cond (decide (a1 < p0))
  (
    (f_ref07_Zeros 256).bind fun y2 =>
    (appL 16 l4 [y2]).bind fun l7 =>
    (appL 16 l5 [[]]).bind fun l8 =>
    (appL 1 l6 [false]).bind fun l9 =>
    ret (wI (a1 + 1)) fun i_1 =>
    nx_f_ref07_New_l1 (l7, l8, l9, i_1))
  (
    f_ref07_New_j1 y1 l4 l5 l6)
def f_ref07_New_l1 (p0 : Int) (y1 : List UInt8) : Nat → (List (List UInt8) × List (List UInt8) × List Bool × Int) → Option (Option RDevA × Int) := loopN fun nx x => f_ref07_New_l1_b p0 y1 nx x.1 x.2.1 x.2.2.1 x.2.2.2
def f_ref07_New (n : Nat) (p0 : Int) : Option (Option RDevA × Int) :=
  cond ((decide (p0 < 4)) || (decide (4096 < p0)))
  (
    some (none, 2))
  (
    (f_ref07_Zeros 32).bind fun y1 =>
    f_ref07_New_l1 p0 y1 n ([], [], [], 0))
set_option maxRecDepth 100000 in
theorem c_ref07_New {n : Nat} {p0 : Int} {r : Option RDevA × Int} (h : f_ref07_New n p0 = some r)  : Con Tryd.prog K w0 30 [vI p0] [] H (fun u M => (r.1 = none ∧ u = .tuple #[.pointer none, vI r.2] ∧ M = []) ∨ (∃ (d : RDevA) (bn0 : Nat) (vn0x0 : Value) (vn0x1 : Value) (vn0x2 : Value), r.1 = some d ∧ u = .tuple #[vP bn0 0, vI r.2] ∧ M = [own bn0 (.cells #[vn0x0, vn0x1, vn0x2, vU64 d.rcnt, vS d.rtag, vU32 d.rboots, vI d.left, vB d.off] 108), rowT 9 1 vn0x0 eS d.blk, rowT 9 1 vn0x1 eS d.pnd, rowT 4 1 vn0x2 eB d.bads])) := by
  unfold f_ref07_New at h
  refine Con.enter Tryd.func30 rfl rfl ?_
  refine SX.sr ?_
  refine SL.asg ⟨rfl, rfl, rfl, rfl⟩ rfl ?_
  refine SL.asg ⟨rfl, rfl, rfl, rfl⟩ rfl ?_
  refine SL.nx ?_
  refine SX.seq ?_
  refine SX.sr ?_
  refine SL.mv ⟨rfl, rfl, rfl, rfl⟩ rfl ?_
  refine SL.bin ⟨rfl, rfl, rfl, rfl⟩ rfl rfl Bin.ltI ?_
  refine SL.mv ⟨rfl, rfl, rfl, rfl⟩ rfl ?_
  refine SL.or (c := decide (4096 < p0)) 8 3 11 rfl (fun hb k => ?_) (fun hb k => ?_) ?_
  · skip
    refine SL.pass rfl rfl rfl ?_
    refine SL.pass rfl rfl rfl ?_
    refine SL.pk ⟨rfl, rfl, rfl, rfl⟩ rfl rfl ?_
    exact k.mono (by repeat' (first | exact trivial | refine And.intro rfl ?_))
  · skip
    refine SL.mv ⟨rfl, rfl, rfl, rfl⟩ rfl ?_
    refine SL.bin ⟨rfl, rfl, rfl, rfl⟩ rfl rfl Bin.gtI ?_
    refine SL.pk ⟨rfl, rfl, rfl, rfl⟩ rfl rfl ?_
    exact k.mono (by repeat' (first | exact trivial | refine And.intro rfl ?_))
  refine SL.nx ?_
  refine SX.cond rfl (fun hc1 => ?_) (fun hc1 => ?_)
  · skip
    replace h := cT hc1 h
    refine SX.sr ?_
    refine SL.asg ⟨rfl, rfl, rfl, rfl⟩ rfl ?_
    refine SL.asg ⟨rfl, rfl, rfl, rfl⟩ rfl ?_
    refine SL.nx ?_
    refine SX.ret ?_
    refine SQ.thnR ?_
    obtain rfl := Option.some.inj h
    exact SQ.fret (res2 rfl rfl rfl) (ret_of (M := []) (.inl ⟨rfl, rfl, rfl⟩) fun _ hw => HpOk.pick (H := []) hw [] 0 rfl)
  · skip
    replace h := cF hc1 h
    refine SX.skip ?_
    refine SQ.thn ?_
    refine SX.sr ?_
    obtain ⟨y1, hy1, h⟩ := bnd h
    refine SL.call (vs := [_]) (Hin := []) (Hr := _) ⟨rfl, rfl, rfl, rfl⟩ rfl ⟨rfl, trivial⟩ cal47 rfl rfl (c_ref07_Zeros hy1) ?_
    rintro _ _ ⟨rfl, rfl⟩
    refine ⟨trivial, ?_⟩
    refine SL.bld [_] ⟨rfl, rfl, rfl, rfl⟩ pl64 pk64 ze64 ⟨rfl, trivial⟩ rfl ?_
    refine SL.bld [_, _] ⟨rfl, rfl, rfl, rfl⟩ pl108 pk108 ze108 ⟨rfl, rfl, trivial⟩ rfl ?_
    refine SL.box ⟨rfl, rfl, rfl, rfl⟩ rfl (fun _ => trivial) fun b1 => ?_
    refine SL.nilT 9 1 eS ?_
    refine SL.nilT 9 1 eS ?_
    refine SL.nilT 4 1 eB ?_
    refine SL.asg ⟨rfl, rfl, rfl, rfl⟩ rfl ?_
    refine SL.nx ?_
    refine SX.meetD (α := List (List UInt8) × Value × List (List UInt8) × Value × List Bool × Value) (fun x => f_ref07_New_j1 y1 x.1 x.2.2.1 x.2.2.2.2.1 = some r) (fun x => [(4, vP b1 0)]) (fun x => own b1 (.cells #[x.2.1, x.2.2.2.1, x.2.2.2.2.2, vU64 0, vS y1, vU32 0, vI (-1), vB false] 108) :: rowT 9 1 x.2.1 eS x.1 :: rowT 9 1 x.2.2.2.1 eS x.2.2.1 :: rowT 4 1 x.2.2.2.2.2 eB x.2.2.2.2.1 :: H) ?_ (fun x D h => ?_)
    · skip
      refine SX.sr ?_
      refine SL.asg ⟨rfl, rfl, rfl, rfl⟩ rfl ?_
      refine SL.nx ?_
      refine SX.block ?_
      refine SX.heap (SX.mono (SX.loop (α := Nat × List (List UInt8) × Value × List (List UInt8) × Value × List Bool × Value × Int) (fun x => f_ref07_New_l1 p0 y1 x.1 (x.2.1, x.2.2.2.1, x.2.2.2.2.2.1, x.2.2.2.2.2.2.2) = some r) (fun x => [(0, vI p0), (4, vP b1 0), (5, vI x.2.2.2.2.2.2.2)]) (fun x => own b1 (.cells #[x.2.2.1, x.2.2.2.2.1, x.2.2.2.2.2.2.1, vU64 0, vS y1, vU32 0, vI (-1), vB false] 108) :: rowT 9 1 x.2.2.1 eS x.2.1 :: rowT 9 1 x.2.2.2.2.1 eS x.2.2.2.1 :: rowT 4 1 x.2.2.2.2.2.2.1 eB x.2.2.2.2.2.1 :: H) (fun x => x.1) (fun x D h => ?_) (n, [], .slice none 0 0, [], .slice none 0 0, [], .slice none 0 0, 0) h) (by repeat' (first | exact trivial | refine And.intro rfl ?_))) (fun _ hw => HpOk.pick (H := [_, _, _, _]) hw [3, 2, 1, 0] 4 rfl)
      obtain ⟨m1, l4, v4, l5, v5, l6, v6, a1⟩ := x
      dsimp only at h
      rcases m1 with _ | m1
      · cases (show (none : Option _) = some r from h)
      replace h : f_ref07_New_l1_b p0 y1 (f_ref07_New_l1 p0 y1 m1) l4 l5 l6 a1 = some r := h
      unfold f_ref07_New_l1_b at h
      refine SX.re [(0, vI p0), (4, vP b1 0), (5, vI a1)] (own b1 (.cells #[v4, v5, v6, vU64 0, vS y1, vU32 0, vI (-1), vB false] 108) :: rowT 9 1 v4 eS l4 :: rowT 9 1 v5 eS l5 :: rowT 4 1 v6 eB l6 :: H) ?_ (by repeat' (first | exact trivial | refine And.intro rfl ?_))
      refine SX.seq ?_
      refine SX.sr ?_
      refine SL.mv ⟨rfl, rfl, rfl, rfl⟩ rfl ?_
      refine SL.mv ⟨rfl, rfl, rfl, rfl⟩ rfl ?_
      refine SL.bin ⟨rfl, rfl, rfl, rfl⟩ rfl rfl Bin.ltI ?_
      refine SL.nx ?_
      refine SX.cond rfl (fun hc2 => ?_) (fun hc2 => ?_)
      · skip
        replace h := cT hc2 h
        refine SX.skip ?_
        refine SQ.thn ?_
        refine SX.seq ?_
        refine SX.block ?_
        refine SX.seq ?_
        obtain ⟨y2, hy2, h⟩ := bnd h
        obtain ⟨l7, hl7, h⟩ := bnd h
        refine SX.drawI mix [0] (Pl.ap [(true, 0), (true, 1), (true, 2), (true, 3), (true, 4), (false, 5), (false, 6), (false, 7), (true, 8), (true, 9)] (.last 10 .nil)) (by kernel_rfl) ?_
        refine SL.mv ⟨rfl, rfl, rfl, rfl⟩ rfl ?_
        refine SL.mv ⟨rfl, rfl, rfl, rfl⟩ rfl ?_
        refine SL.nchk ⟨rfl, rfl, rfl, rfl⟩ rfl ?_
        refine SL.fa ⟨rfl, rfl, rfl, rfl⟩ rfl fo108_0 ?_
        refine SL.ld ⟨rfl, rfl, rfl, rfl⟩ sc49 rfl (cell_own 0 rfl rfl) ?_
        refine SL.call (vs := [_]) (Hin := []) (Hr := _ :: _ :: _ :: _ :: _) ⟨rfl, rfl, rfl, rfl⟩ rfl ⟨rfl, trivial⟩ cal47 rfl rfl (c_ref07_Zeros hy2) ?_
        rintro _ _ ⟨rfl, rfl⟩
        refine ⟨⟨⟨0, rfl⟩, trivial⟩, ?_⟩
        refine SL.bsl [_] ⟨rfl, rfl, rfl, rfl⟩ ty49 sz9 ze9 ⟨rfl, trivial⟩ rfl rfl rfl (by first | (simp [Value.cells]; done) | (intro v hv; simp only [List.mem_cons, List.not_mem_nil, or_false] at hv; rcases hv with rfl <;> rfl)) rfl rfl (fun _ => ⟨⟨1, rfl⟩, trivial⟩) fun b2 => ?_
        refine SL.ownT eS 1 ([y2] : List (List UInt8)) rfl (fun _ => rfl) rfl ?_
        refine SL.appT 2 hl7 (sz := 1) (enc := eS) (fun _ => rfl) ⟨rfl, rfl, rfl, rfl⟩ ty49 sz9 by9 ze9 rfl (by decide) rfl rfl rfl rfl (cells_rowA (sz := 1) (enc := eS) 0 (fun _ => rfl) rfl) (by simp [eS, Value.oneCell']) (fun _ => ⟨⟨1, rfl⟩, trivial⟩) fun v7 => ?_
        refine SL.nchk ⟨rfl, rfl, rfl, rfl⟩ rfl ?_
        refine SL.fa ⟨rfl, rfl, rfl, rfl⟩ rfl fo108_0 ?_
        refine SL.last ?_
        refine SL.rowV 2 rfl fun hv1 ho1 => ?_
        refine SL.stR 1 ⟨rfl, rfl, rfl⟩ rfl rfl rfl sz49 hv1 ho1 rfl trivial ?_
        refine SL.nx ?_
        refine SX.sr ?_
        obtain ⟨l8, hl8, h⟩ := bnd h
        refine SL.mv ⟨rfl, rfl, rfl, rfl⟩ rfl ?_
        refine SL.mv ⟨rfl, rfl, rfl, rfl⟩ rfl ?_
        refine SL.nchk ⟨rfl, rfl, rfl, rfl⟩ rfl ?_
        refine SL.fa ⟨rfl, rfl, rfl, rfl⟩ rfl fo108_1 ?_
        refine SL.ld ⟨rfl, rfl, rfl, rfl⟩ sc49 rfl (cell_own 1 rfl rfl) ?_
        refine SL.bsl [_] ⟨rfl, rfl, rfl, rfl⟩ ty49 sz9 ze9 ⟨rfl, trivial⟩ rfl rfl rfl (by first | (simp [Value.cells]; done) | (intro v hv; simp only [List.mem_cons, List.not_mem_nil, or_false] at hv; rcases hv with rfl <;> rfl)) rfl rfl (fun _ => trivial) fun b3 => ?_
        refine SL.ownT eS 1 ([[]] : List (List UInt8)) rfl (fun _ => rfl) rfl ?_
        refine SL.appT 4 hl8 (sz := 1) (enc := eS) (fun _ => rfl) ⟨rfl, rfl, rfl, rfl⟩ ty49 sz9 by9 ze9 rfl (by decide) rfl rfl rfl rfl (cells_rowA (sz := 1) (enc := eS) 0 (fun _ => rfl) rfl) (by simp [eS, Value.oneCell']) (fun _ => trivial) fun v8 => ?_
        refine SL.nchk ⟨rfl, rfl, rfl, rfl⟩ rfl ?_
        refine SL.fa ⟨rfl, rfl, rfl, rfl⟩ rfl fo108_1 ?_
        refine SL.rowV 4 rfl fun hv2 ho2 => ?_
        refine SL.stR 2 ⟨rfl, rfl, rfl⟩ rfl rfl rfl sz49 hv2 ho2 rfl trivial ?_
        refine SL.nx ?_
        refine SX.region ?_
        obtain ⟨l9, hl9, h⟩ := bnd h
        refine SL.mv ⟨rfl, rfl, rfl, rfl⟩ rfl ?_
        refine SL.mv ⟨rfl, rfl, rfl, rfl⟩ rfl ?_
        refine SL.nchk ⟨rfl, rfl, rfl, rfl⟩ rfl ?_
        refine SL.fa ⟨rfl, rfl, rfl, rfl⟩ rfl fo108_2 ?_
        refine SL.ld ⟨rfl, rfl, rfl, rfl⟩ sc106 rfl (cell_own 2 rfl rfl) ?_
        refine SL.bsl [_] ⟨rfl, rfl, rfl, rfl⟩ ty106 sz4 ze4 ⟨rfl, trivial⟩ rfl rfl rfl (by first | (simp [Value.cells]; done) | (intro v hv; simp only [List.mem_cons, List.not_mem_nil, or_false] at hv; rcases hv with rfl <;> rfl)) rfl rfl (fun _ => trivial) fun b4 => ?_
        refine SL.ownT eB 1 ([false] : List Bool) rfl (fun _ => rfl) rfl ?_
        refine SL.appT 6 hl9 (sz := 1) (enc := eB) (fun _ => rfl) ⟨rfl, rfl, rfl, rfl⟩ ty106 sz4 by4 ze4 rfl (by decide) rfl rfl rfl rfl (cells_rowA (sz := 1) (enc := eB) 0 (fun _ => rfl) rfl) (by simp [eB, Value.oneCell']) (fun _ => trivial) fun v9 => ?_
        refine SL.nchk ⟨rfl, rfl, rfl, rfl⟩ rfl ?_
        refine SL.fa ⟨rfl, rfl, rfl, rfl⟩ rfl fo108_2 ?_
        refine SL.rowV 6 rfl fun hv3 ho3 => ?_
        refine SL.stR 3 ⟨rfl, rfl, rfl⟩ rfl rfl rfl sz106 hv3 ho3 rfl trivial ?_
        refine SL.nil ?_
        refine SQ.blk ?_
        refine SQ.thn ?_
        refine SX.region ?_
        obtain ⟨i_1, ei_1, h⟩ := retE h
        refine SL.mv ⟨rfl, rfl, rfl, rfl⟩ rfl ?_
        refine SL.bin ⟨rfl, rfl, rfl, rfl⟩ rfl rfl Bin.addW ?_
        refine SL.asgX (u := vI i_1) ⟨rfl, rfl, rfl, rfl⟩ rfl (congrArg vI ei_1) ?_
        refine SL.nil ?_
        exact SQ.again (m1, l7, v7, l8, v8, l9, v9, i_1) h (Nat.lt_succ_self _) (by repeat' (first | exact trivial | refine And.intro rfl ?_)) (fun _ hw => HpOk.pick (H := [_, _, _, _, _, _, _]) hw [3, 4, 5, 6] 7 rfl)
      · skip
        replace h := cF hc2 h
        refine SX.exit ?_
        refine SQ.thnE ?_
        refine SQ.lpE ?_
        refine SQ.blkE ?_
        exact SQ.midD (l4, v4, l5, v5, l6, v6) h (by repeat' (first | exact trivial | refine And.intro rfl ?_)) (fun _ hw => HpOk.pick (H := [_, _, _, _]) hw [0, 1, 2, 3] 4 rfl)
    · skip
      obtain ⟨l1, v1, l2, v2, l3, v3⟩ := x
      dsimp only at h
      unfold f_ref07_New_j1 at h
      refine SX.re [(4, vP b1 0)] (own b1 (.cells #[v1, v2, v3, vU64 0, vS y1, vU32 0, vI (-1), vB false] 108) :: rowT 9 1 v1 eS l1 :: rowT 9 1 v2 eS l2 :: rowT 4 1 v3 eB l3 :: H) ?_ (by repeat' (first | exact trivial | refine And.intro rfl ?_))
      refine SX.sr ?_
      refine SL.mv ⟨rfl, rfl, rfl, rfl⟩ rfl ?_
      refine SL.asg ⟨rfl, rfl, rfl, rfl⟩ rfl ?_
      refine SL.asg ⟨rfl, rfl, rfl, rfl⟩ rfl ?_
      refine SL.nx ?_
      refine SX.ret ?_
      obtain rfl := Option.some.inj h
      exact SQ.fret (res2 rfl rfl rfl) (ret_of (M := [_, _, _, _]) (.inr ⟨_, b1, v1, v2, v3, rfl, rfl, rfl⟩) fun _ hw => HpOk.pick (H := [_, _, _, _]) hw [0, 1, 2, 3] 4 rfl)

def f_ref04_Right_j1 : Option Bool :=
  some true
def f_ref04_Right_l1_b (p0 : List KeyA) (nx_f_ref04_Right_l1 : UInt32 × Int → Option Bool) (a1 : UInt32) (a2 : Int) : Option Bool :=
  cond (decide (a2 < (p0.length : Int)))
  (
    (nthI p0 a2).bind fun x1 =>
    (orO (decide (x1.gen ≤ a1)) ((nthI p0 a2).bind fun x2 => some (!decide ((x2.secret.length : Int) = 32)))).bind fun y1 =>
    cond y1
    (
      some false)
    (
      (nthI p0 a2).bind fun x3 =>
      ret (wI (a2 + 1)) fun i_1 =>
      nx_f_ref04_Right_l1 (x3.gen, i_1)))
  (
    f_ref04_Right_j1)
def f_ref04_Right_l1 (p0 : List KeyA) : Nat → (UInt32 × Int) → Option Bool := loopN fun nx x => f_ref04_Right_l1_b p0 nx x.1 x.2
def f_ref04_Right (n : Nat) (p0 : List KeyA) : Option Bool :=
  cond (decide (16 < (p0.length : Int)))
  (
    some false)
  (
    f_ref04_Right_l1 p0 n (0, 0))
set_option maxRecDepth 100000 in
theorem c_ref04_Right {n : Nat} {v0_ : Value} {p0 : List KeyA} {r : Bool} (h : f_ref04_Right n p0 = some r) (hs0_ : SlOf K w0 encKey 2 v0_ p0) : Con Tryd.prog K w0 62 [v0_] [] H (fun u M => u = vB r ∧ M = []) := by
  unfold f_ref04_Right at h
  refine Con.enter Tryd.func62 rfl rfl ?_
  refine SX.sr ?_
  refine SL.asg ⟨rfl, rfl, rfl, rfl⟩ rfl ?_
  refine SL.nx ?_
  refine SX.seq ?_
  refine SX.sr ?_
  refine SL.mv ⟨rfl, rfl, rfl, rfl⟩ rfl ?_
  refine SL.lenV hs0_ ⟨rfl, rfl, rfl, rfl⟩ ty31 rfl ?_
  refine SL.bin ⟨rfl, rfl, rfl, rfl⟩ rfl rfl Bin.gtI ?_
  refine SL.nx ?_
  refine SX.cond rfl (fun hc1 => ?_) (fun hc1 => ?_)
  · skip
    replace h := cT hc1 h
    refine SX.sr ?_
    refine SL.asg ⟨rfl, rfl, rfl, rfl⟩ rfl ?_
    refine SL.nx ?_
    refine SX.ret ?_
    refine SQ.thnR ?_
    obtain rfl := Option.some.inj h
    exact SQ.fret (res1 rfl rfl) (ret_of (M := []) ⟨rfl, rfl⟩ fun _ hw => HpOk.pick (H := []) hw [] 0 rfl)
  · skip
    replace h := cF hc1 h
    refine SX.skip ?_
    refine SQ.thn ?_
    refine SX.sr ?_
    refine SL.asg ⟨rfl, rfl, rfl, rfl⟩ rfl ?_
    refine SL.nx ?_
    refine SX.meetD (α := Unit) (fun x => f_ref04_Right_j1 = some r) (fun x => []) (fun x => H) ?_ (fun x D h => ?_)
    · skip
      refine SX.sr ?_
      refine SL.asg ⟨rfl, rfl, rfl, rfl⟩ rfl ?_
      refine SL.nx ?_
      refine SX.block ?_
      refine SX.heap (SX.mono (SX.loop (α := Nat × UInt32 × Int) (fun x => f_ref04_Right_l1 p0 x.1 (x.2.1, x.2.2) = some r) (fun x => [(0, v0_), (3, vU32 x.2.1), (4, vI x.2.2)]) (fun x => H) (fun x => x.1) (fun x D h => ?_) (n, 0, 0) h) (by repeat' (first | exact trivial | refine And.intro rfl ?_))) (fun _ hw => HpOk.pick (H := []) hw [] 0 rfl)
      obtain ⟨m1, a1, a2⟩ := x
      dsimp only at h
      rcases m1 with _ | m1
      · cases (show (none : Option _) = some r from h)
      replace h : f_ref04_Right_l1_b p0 (f_ref04_Right_l1 p0 m1) a1 a2 = some r := h
      unfold f_ref04_Right_l1_b at h
      refine SX.re [(0, v0_), (3, vU32 a1), (4, vI a2)] (H) ?_ (by repeat' (first | exact trivial | refine And.intro rfl ?_))
      refine SX.seq ?_
      refine SX.sr ?_
      refine SL.mv ⟨rfl, rfl, rfl, rfl⟩ rfl ?_
      refine SL.mv ⟨rfl, rfl, rfl, rfl⟩ rfl ?_
      refine SL.lenV hs0_ ⟨rfl, rfl, rfl, rfl⟩ ty31 rfl ?_
      refine SL.bin ⟨rfl, rfl, rfl, rfl⟩ rfl rfl Bin.ltI ?_
      refine SL.nx ?_
      refine SX.cond rfl (fun hc2 => ?_) (fun hc2 => ?_)
      · skip
        replace h := cT hc2 h
        refine SX.skip ?_
        refine SQ.thn ?_
        refine SX.seq ?_
        refine SX.block ?_
        refine SX.seq ?_
        refine SX.sr ?_
        obtain ⟨x1, hx1, h⟩ := bnd h
        obtain ⟨y1, hy1, h⟩ := bnd h
        refine SL.mv ⟨rfl, rfl, rfl, rfl⟩ rfl ?_
        refine SL.mv ⟨rfl, rfl, rfl, rfl⟩ rfl ?_
        refine SL.iaN hx1 hs0_ ⟨rfl, rfl, rfl, rfl⟩ ty31 sz70 rfl rfl fun be1 of1 hc3 => ?_
        refine SL.fa ⟨rfl, rfl, rfl, rfl⟩ rfl fo70_0 ?_
        refine SL.ld ⟨rfl, rfl, rfl, rfl⟩ sc22 rfl (cell_kept (j := 0) hc3 rfl) ?_
        refine SL.mv ⟨rfl, rfl, rfl, rfl⟩ rfl ?_
        refine SL.bin ⟨rfl, rfl, rfl, rfl⟩ rfl rfl Bin.le32 ?_
        refine SL.mv ⟨rfl, rfl, rfl, rfl⟩ rfl ?_
        refine SL.orN 21 8 29 hy1 rfl (fun hb k => ?_) (fun hb hg1 k => ?_) ?_
        · skip
          refine SL.pass rfl rfl rfl ?_
          refine SL.pass rfl rfl rfl ?_
          refine SL.pass rfl rfl rfl ?_
          refine SL.pass rfl rfl rfl ?_
          refine SL.pass rfl rfl rfl ?_
          refine SL.pass rfl rfl rfl ?_
          refine SL.pass rfl rfl rfl ?_
          refine SL.pk ⟨rfl, rfl, rfl, rfl⟩ rfl rfl ?_
          exact k.mono (by repeat' (first | exact trivial | refine And.intro rfl ?_))
        · skip
          obtain ⟨x2, hx2, hg1⟩ := bnd hg1
          obtain rfl := Option.some.inj hg1
          refine SL.mv ⟨rfl, rfl, rfl, rfl⟩ rfl ?_
          refine SL.mv ⟨rfl, rfl, rfl, rfl⟩ rfl ?_
          refine SL.iaN hx2 hs0_ ⟨rfl, rfl, rfl, rfl⟩ ty31 sz70 rfl rfl fun be2 of2 hc4 => ?_
          refine SL.fa ⟨rfl, rfl, rfl, rfl⟩ rfl fo70_1 ?_
          refine SL.ld ⟨rfl, rfl, rfl, rfl⟩ sc9 rfl (cell_kept (j := 1) hc4 rfl) ?_
          refine SL.lenS ⟨rfl, rfl, rfl, rfl⟩ ty9 rfl ?_
          refine SL.bin ⟨rfl, rfl, rfl, rfl⟩ rfl rfl Bin.neI ?_
          refine SL.pk ⟨rfl, rfl, rfl, rfl⟩ rfl rfl ?_
          exact k.mono (by repeat' (first | exact trivial | refine And.intro rfl ?_))
        refine SL.nx ?_
        refine SX.cond rfl (fun hc5 => ?_) (fun hc5 => ?_)
        · skip
          replace h := cT hc5 h
          refine SX.sr ?_
          refine SL.asg ⟨rfl, rfl, rfl, rfl⟩ rfl ?_
          refine SL.nx ?_
          refine SX.ret ?_
          refine SQ.thnR ?_
          refine SQ.blkR ?_
          refine SQ.thnR ?_
          refine SQ.lpR ?_
          refine SQ.blkR ?_
          refine SQ.midDR ?_
          obtain rfl := Option.some.inj h
          exact SQ.fret (res1 rfl rfl) (ret_of (M := []) ⟨rfl, rfl⟩ fun _ hw => HpOk.pick (H := []) hw [] 0 rfl)
        · skip
          replace h := cF hc5 h
          refine SX.skip ?_
          refine SQ.thn ?_
          refine SX.region ?_
          obtain ⟨x3, hx3, h⟩ := bnd h
          refine SL.mv ⟨rfl, rfl, rfl, rfl⟩ rfl ?_
          refine SL.mv ⟨rfl, rfl, rfl, rfl⟩ rfl ?_
          refine SL.iaN hx3 hs0_ ⟨rfl, rfl, rfl, rfl⟩ ty31 sz70 rfl rfl fun be3 of3 hc6 => ?_
          refine SL.fa ⟨rfl, rfl, rfl, rfl⟩ rfl fo70_0 ?_
          refine SL.ld ⟨rfl, rfl, rfl, rfl⟩ sc22 rfl (cell_kept (j := 0) hc6 rfl) ?_
          refine SL.asg ⟨rfl, rfl, rfl, rfl⟩ rfl ?_
          refine SL.nil ?_
          refine SQ.blk ?_
          refine SQ.thn ?_
          refine SX.region ?_
          obtain ⟨i_1, ei_1, h⟩ := retE h
          refine SL.mv ⟨rfl, rfl, rfl, rfl⟩ rfl ?_
          refine SL.bin ⟨rfl, rfl, rfl, rfl⟩ rfl rfl Bin.addW ?_
          refine SL.asgX (u := vI i_1) ⟨rfl, rfl, rfl, rfl⟩ rfl (congrArg vI ei_1) ?_
          refine SL.nil ?_
          exact SQ.again (m1, x3.gen, i_1) h (Nat.lt_succ_self _) (by repeat' (first | exact trivial | refine And.intro rfl ?_)) (fun _ hw => HpOk.pick (H := []) hw [] 0 rfl)
      · skip
        replace h := cF hc2 h
        refine SX.exit ?_
        refine SQ.thnE ?_
        refine SQ.lpE ?_
        refine SQ.blkE ?_
        exact SQ.midD () h (by repeat' (first | exact trivial | refine And.intro rfl ?_)) (fun _ hw => HpOk.pick (H := []) hw [] 0 rfl)
    · skip
      unfold f_ref04_Right_j1 at h
      refine SX.re [] (H) ?_ (by repeat' (first | exact trivial | refine And.intro rfl ?_))
      refine SX.sr ?_
      refine SL.asg ⟨rfl, rfl, rfl, rfl⟩ rfl ?_
      refine SL.nx ?_
      refine SX.ret ?_
      obtain rfl := Option.some.inj h
      exact SQ.fret (res1 rfl rfl) (ret_of (M := []) ⟨rfl, rfl⟩ fun _ hw => HpOk.pick (H := []) hw [] 0 rfl)

def f_ref04_Find_j1 (y2 : UInt32) (y3 : List UInt8) : Option (KeyA × Int) :=
  some ((⟨0, []⟩ : KeyA), 41)
def f_ref04_Find_l1_b (p0 : List KeyA) (p1 : UInt32) (nx_f_ref04_Find_l1 : UInt32 × List UInt8 × Int → Option (KeyA × Int)) (y4 : UInt32) (y5 : List UInt8) (a1 : Int) : Option (KeyA × Int) :=
  cond (decide (a1 < (p0.length : Int)))
  (
    (nthI p0 a1).bind fun x1 =>
    cond (decide (x1.gen = p1))
    (
      (nthI p0 a1).bind fun x2 =>
      some (x2, 0))
    (
      ret (wI (a1 + 1)) fun i_1 =>
      nx_f_ref04_Find_l1 (y4, y5, i_1)))
  (
    f_ref04_Find_j1 y4 y5)
def f_ref04_Find_l1 (p0 : List KeyA) (p1 : UInt32) : Nat → (UInt32 × List UInt8 × Int) → Option (KeyA × Int) := loopN fun nx x => f_ref04_Find_l1_b p0 p1 nx x.1 x.2.1 x.2.2
def f_ref04_Find (n : Nat) (p0 : List KeyA) (p1 : UInt32) : Option (KeyA × Int) :=
  (f_ref04_Right n p0).bind fun y1 =>
  cond (!y1)
  (
    some ((⟨0, []⟩ : KeyA), 40))
  (
    f_ref04_Find_l1 p0 p1 n (0, [], 0))
set_option maxRecDepth 100000 in
theorem c_ref04_Find {n : Nat} {v0_ : Value} {p0 : List KeyA} {p1 : UInt32} {r : KeyA × Int} (h : f_ref04_Find n p0 p1 = some r) (hs0_ : SlOf K w0 encKey 2 v0_ p0) : Con Tryd.prog K w0 48 [v0_, vU32 p1] [] H (fun u M => u = .tuple #[.agg (encKey r.1).toArray, vI r.2] ∧ M = []) := by
  unfold f_ref04_Find at h
  refine Con.enter Tryd.func48 rfl rfl ?_
  refine SX.sr ?_
  refine SL.alloc ⟨rfl, rfl, rfl, rfl⟩ ze70 (fun _ => trivial) fun b1 => ?_
  refine SL.asg ⟨rfl, rfl, rfl, rfl⟩ rfl ?_
  refine SL.nx ?_
  refine SX.sr ?_
  obtain ⟨y1, hy1, h⟩ := bnd h
  refine SL.mv ⟨rfl, rfl, rfl, rfl⟩ rfl ?_
  refine SL.call (vs := [_]) (Hin := []) (Hr := _ :: _) ⟨rfl, rfl, rfl, rfl⟩ rfl ⟨rfl, trivial⟩ cal62 rfl rfl (c_ref04_Right hy1 hs0_) ?_
  rintro _ _ ⟨rfl, rfl⟩
  refine ⟨trivial, ?_⟩
  refine SL.asg ⟨rfl, rfl, rfl, rfl⟩ rfl ?_
  refine SL.nx ?_
  refine SX.seq ?_
  refine SX.sr ?_
  refine SL.mv ⟨rfl, rfl, rfl, rfl⟩ rfl ?_
  refine SL.not ⟨rfl, rfl, rfl, rfl⟩ rfl ?_
  refine SL.nx ?_
  refine SX.cond rfl (fun hc1 => ?_) (fun hc1 => ?_)
  · skip
    replace h := cT hc1 h
    refine SX.sr ?_
    refine SL.bld [] ⟨rfl, rfl, rfl, rfl⟩ pl70 pk70 ze70 trivial rfl ?_
    refine SL.st 0 ⟨rfl, rfl, rfl⟩ rfl rfl rfl sz70 rfl rfl rfl trivial ?_
    refine SL.asg ⟨rfl, rfl, rfl, rfl⟩ rfl ?_
    refine SL.nx ?_
    refine SX.ret ?_
    refine SQ.thnR ?_
    obtain rfl := Option.some.inj h
    exact SQ.fret (resv2 rfl (resv.ag 0 (encKey (⟨0, []⟩ : KeyA)) ag70 rfl rfl rfl rfl) rfl) (ret_of (M := []) ⟨rfl, rfl⟩ fun _ hw => HpOk.pick (H := [_]) hw [] 1 rfl)
  · skip
    replace h := cF hc1 h
    refine SX.skip ?_
    refine SQ.thn ?_
    refine SX.meetD (α := UInt32 × List UInt8) (fun x => f_ref04_Find_j1 x.1 x.2 = some r) (fun x => [(4, vP b1 0)]) (fun x => own b1 (.cells #[vU32 x.1, vS x.2] 70) :: H) ?_ (fun x D h => ?_)
    · skip
      refine SX.sr ?_
      refine SL.asg ⟨rfl, rfl, rfl, rfl⟩ rfl ?_
      refine SL.nx ?_
      refine SX.block ?_
      refine SX.heap (SX.mono (SX.loop (α := Nat × UInt32 × List UInt8 × Int) (fun x => f_ref04_Find_l1 p0 p1 x.1 (x.2.1, x.2.2.1, x.2.2.2) = some r) (fun x => [(0, v0_), (1, vU32 p1), (4, vP b1 0), (7, vI x.2.2.2)]) (fun x => own b1 (.cells #[vU32 x.2.1, vS x.2.2.1] 70) :: H) (fun x => x.1) (fun x D h => ?_) (n, 0, [], 0) h) (by repeat' (first | exact trivial | refine And.intro rfl ?_))) (fun _ hw => HpOk.pick (H := [_]) hw [0] 1 rfl)
      obtain ⟨m1, y4, y5, a1⟩ := x
      dsimp only at h
      rcases m1 with _ | m1
      · cases (show (none : Option _) = some r from h)
      replace h : f_ref04_Find_l1_b p0 p1 (f_ref04_Find_l1 p0 p1 m1) y4 y5 a1 = some r := h
      unfold f_ref04_Find_l1_b at h
      refine SX.re [(0, v0_), (1, vU32 p1), (4, vP b1 0), (7, vI a1)] (own b1 (.cells #[vU32 y4, vS y5] 70) :: H) ?_ (by repeat' (first | exact trivial | refine And.intro rfl ?_))
      refine SX.seq ?_
      refine SX.sr ?_
      refine SL.mv ⟨rfl, rfl, rfl, rfl⟩ rfl ?_
      refine SL.mv ⟨rfl, rfl, rfl, rfl⟩ rfl ?_
      refine SL.lenV hs0_ ⟨rfl, rfl, rfl, rfl⟩ ty31 rfl ?_
      refine SL.bin ⟨rfl, rfl, rfl, rfl⟩ rfl rfl Bin.ltI ?_
      refine SL.nx ?_
      refine SX.cond rfl (fun hc2 => ?_) (fun hc2 => ?_)
      · skip
        replace h := cT hc2 h
        refine SX.skip ?_
        refine SQ.thn ?_
        refine SX.seq ?_
        refine SX.block ?_
        refine SX.sr ?_
        obtain ⟨x1, hx1, h⟩ := bnd h
        refine SL.mv ⟨rfl, rfl, rfl, rfl⟩ rfl ?_
        refine SL.mv ⟨rfl, rfl, rfl, rfl⟩ rfl ?_
        refine SL.iaN hx1 hs0_ ⟨rfl, rfl, rfl, rfl⟩ ty31 sz70 rfl rfl fun be1 of1 hc3 => ?_
        refine SL.fa ⟨rfl, rfl, rfl, rfl⟩ rfl fo70_0 ?_
        refine SL.ld ⟨rfl, rfl, rfl, rfl⟩ sc22 rfl (cell_kept (j := 0) hc3 rfl) ?_
        refine SL.mv ⟨rfl, rfl, rfl, rfl⟩ rfl ?_
        refine SL.bin ⟨rfl, rfl, rfl, rfl⟩ rfl rfl Bin.eq32 ?_
        refine SL.nx ?_
        refine SX.cond rfl (fun hc4 => ?_) (fun hc4 => ?_)
        · skip
          replace h := cT hc4 h
          refine SX.sr ?_
          obtain ⟨x2, hx2, h⟩ := bnd h
          refine SL.mv ⟨rfl, rfl, rfl, rfl⟩ rfl ?_
          refine SL.mv ⟨rfl, rfl, rfl, rfl⟩ rfl ?_
          refine SL.iaN hx2 hs0_ ⟨rfl, rfl, rfl, rfl⟩ ty31 sz70 rfl rfl fun be2 of2 hc5 => ?_
          refine SL.ldA (encKey x2) ⟨rfl, rfl, rfl, rfl⟩ ag70 rfl rfl (cells_kept hc5) ?_
          refine SL.st 0 ⟨rfl, rfl, rfl⟩ rfl rfl rfl sz70 rfl rfl rfl trivial ?_
          refine SL.asg ⟨rfl, rfl, rfl, rfl⟩ rfl ?_
          refine SL.nx ?_
          refine SX.ret ?_
          refine SQ.blkR ?_
          refine SQ.thnR ?_
          refine SQ.lpR ?_
          refine SQ.blkR ?_
          refine SQ.midDR ?_
          obtain rfl := Option.some.inj h
          exact SQ.fret (resv2 rfl (resv.ag 0 (encKey x2) ag70 rfl rfl rfl rfl) rfl) (ret_of (M := []) ⟨rfl, rfl⟩ fun _ hw => HpOk.pick (H := [_]) hw [] 1 rfl)
        · skip
          replace h := cF hc4 h
          refine SX.skip ?_
          refine SQ.blk ?_
          refine SQ.thn ?_
          refine SX.region ?_
          obtain ⟨i_1, ei_1, h⟩ := retE h
          refine SL.mv ⟨rfl, rfl, rfl, rfl⟩ rfl ?_
          refine SL.bin ⟨rfl, rfl, rfl, rfl⟩ rfl rfl Bin.addW ?_
          refine SL.asgX (u := vI i_1) ⟨rfl, rfl, rfl, rfl⟩ rfl (congrArg vI ei_1) ?_
          refine SL.nil ?_
          exact SQ.again (m1, y4, y5, i_1) h (Nat.lt_succ_self _) (by repeat' (first | exact trivial | refine And.intro rfl ?_)) (fun _ hw => HpOk.pick (H := [_]) hw [0] 1 rfl)
      · skip
        replace h := cF hc2 h
        refine SX.exit ?_
        refine SQ.thnE ?_
        refine SQ.lpE ?_
        refine SQ.blkE ?_
        exact SQ.midD (y4, y5) h (by repeat' (first | exact trivial | refine And.intro rfl ?_)) (fun _ hw => HpOk.pick (H := [_]) hw [0] 1 rfl)
    · skip
      obtain ⟨y2, y3⟩ := x
      dsimp only at h
      unfold f_ref04_Find_j1 at h
      refine SX.re [(4, vP b1 0)] (own b1 (.cells #[vU32 y2, vS y3] 70) :: H) ?_ (by repeat' (first | exact trivial | refine And.intro rfl ?_))
      refine SX.sr ?_
      refine SL.bld [] ⟨rfl, rfl, rfl, rfl⟩ pl70 pk70 ze70 trivial rfl ?_
      refine SL.st 0 ⟨rfl, rfl, rfl⟩ rfl rfl rfl sz70 rfl rfl rfl trivial ?_
      refine SL.asg ⟨rfl, rfl, rfl, rfl⟩ rfl ?_
      refine SL.nx ?_
      refine SX.ret ?_
      obtain rfl := Option.some.inj h
      exact SQ.fret (resv2 rfl (resv.ag 0 (encKey (⟨0, []⟩ : KeyA)) ag70 rfl rfl rfl rfl) rfl) (ret_of (M := []) ⟨rfl, rfl⟩ fun _ hw => HpOk.pick (H := [_]) hw [] 1 rfl)

def f_device_power_spend_j2 (p0 : DevA) (y1 : Bool) (y2 : Int) : Option (Int × DevA) :=
  some (0, { p0 with off := y1, lasts := y2, counts := wI (p0.counts + 1) })
def f_device_power_spend_j1 (p0 : DevA) (y1 : Bool) : Option (Int × DevA) :=
  cond y1
  (
    some (71, { p0 with off := y1 }))
  (
    cond p0.isCut
    (
      f_device_power_spend_j2 p0 y1 (wI (p0.lasts - 1)))
    (
      f_device_power_spend_j2 p0 y1 p0.lasts))
def f_device_power_spend (p0 : DevA) : Option (Int × DevA) :=
  cond (p0.isCut && (decide (p0.lasts = 0)))
  (
    f_device_power_spend_j1 p0 true)
  (
    f_device_power_spend_j1 p0 p0.off)
set_option maxRecDepth 100000 in
theorem c_device_power_spend {b0_ : Nat} {v0x4_ : Value} {m0x5_ : Nat} {m0x6_ : Nat} {p0 : DevA} {r : Int × DevA} (h : f_device_power_spend p0 = some r)  : Con Tryd.prog K w0 69 [vP b0_ 0] [own b0_ (.cells #[vB p0.off, vB p0.isCut, vI p0.lasts, vI p0.counts, v0x4_, .map (some m0x5_), .map (some m0x6_), vU64 p0.rcnt, vS p0.rtag, vU32 p0.rboots] 66), rowT 9 1 v0x4_ eS p0.blocks, mapC m0x5_ vU32 vS p0.pend, mapC m0x6_ vU32 vB p0.bad] H (fun u M => u = vI r.1 ∧ M = [own b0_ (.cells #[vB r.2.off, vB r.2.isCut, vI r.2.lasts, vI r.2.counts, v0x4_, .map (some m0x5_), .map (some m0x6_), vU64 r.2.rcnt, vS r.2.rtag, vU32 r.2.rboots] 66), rowT 9 1 v0x4_ eS r.2.blocks, mapC m0x5_ vU32 vS r.2.pend, mapC m0x6_ vU32 vB r.2.bad]) := by
  unfold f_device_power_spend at h
  refine Con.enter Tryd.func69 rfl rfl ?_
  refine SX.sr ?_
  refine SL.asg ⟨rfl, rfl, rfl, rfl⟩ rfl ?_
  refine SL.nx ?_
  refine SX.meetD (α := Bool) (fun x => f_device_power_spend_j1 p0 x = some r) (fun x => [(0, vP b0_ 0)]) (fun x => own b0_ (.cells #[vB x, vB p0.isCut, vI p0.lasts, vI p0.counts, v0x4_, .map (some m0x5_), .map (some m0x6_), vU64 p0.rcnt, vS p0.rtag, vU32 p0.rboots] 66) :: rowT 9 1 v0x4_ eS p0.blocks :: mapC m0x5_ vU32 vS p0.pend :: mapC m0x6_ vU32 vB p0.bad :: H) ?_ (fun y1 D h => ?_)
  · skip
    refine SX.sr ?_
    refine SL.mv ⟨rfl, rfl, rfl, rfl⟩ rfl ?_
    refine SL.nchk ⟨rfl, rfl, rfl, rfl⟩ rfl ?_
    refine SL.fa ⟨rfl, rfl, rfl, rfl⟩ rfl fo62_1 ?_
    refine SL.ld ⟨rfl, rfl, rfl, rfl⟩ sc4 rfl (cell_own 0 rfl rfl) ?_
    refine SL.mv ⟨rfl, rfl, rfl, rfl⟩ rfl ?_
    refine SL.and (c := decide (p0.lasts = 0)) 7 6 13 rfl (fun hb k => ?_) (fun hb k => ?_) ?_
    · skip
      refine SL.mv ⟨rfl, rfl, rfl, rfl⟩ rfl ?_
      refine SL.nchk ⟨rfl, rfl, rfl, rfl⟩ rfl ?_
      refine SL.fa ⟨rfl, rfl, rfl, rfl⟩ rfl fo62_2 ?_
      refine SL.ld ⟨rfl, rfl, rfl, rfl⟩ sc3 rfl (cell_own 0 rfl rfl) ?_
      refine SL.bin ⟨rfl, rfl, rfl, rfl⟩ rfl rfl Bin.eqI ?_
      refine SL.pk ⟨rfl, rfl, rfl, rfl⟩ rfl rfl ?_
      exact k.mono (by repeat' (first | exact trivial | refine And.intro rfl ?_))
    · skip
      refine SL.pass rfl rfl rfl ?_
      refine SL.pass rfl rfl rfl ?_
      refine SL.pass rfl rfl rfl ?_
      refine SL.pass rfl rfl rfl ?_
      refine SL.pass rfl rfl rfl ?_
      refine SL.pk ⟨rfl, rfl, rfl, rfl⟩ rfl rfl ?_
      exact k.mono (by repeat' (first | exact trivial | refine And.intro rfl ?_))
    refine SL.nx ?_
    refine SX.cond rfl (fun hc1 => ?_) (fun hc1 => ?_)
    · skip
      replace h := cT hc1 h
      refine SX.region ?_
      refine SL.mv ⟨rfl, rfl, rfl, rfl⟩ rfl ?_
      refine SL.nchk ⟨rfl, rfl, rfl, rfl⟩ rfl ?_
      refine SL.fa ⟨rfl, rfl, rfl, rfl⟩ rfl fo62_0 ?_
      refine SL.st 0 ⟨rfl, rfl, rfl⟩ rfl rfl rfl sz4 rfl rfl rfl trivial ?_
      refine SL.nil ?_
      exact SQ.midD true h (by repeat' (first | exact trivial | refine And.intro rfl ?_)) (fun _ hw => HpOk.pick (H := [_, _, _, _]) hw [0, 1, 2, 3] 4 rfl)
    · skip
      replace h := cF hc1 h
      refine SX.skip ?_
      exact SQ.midD p0.off h (by repeat' (first | exact trivial | refine And.intro rfl ?_)) (fun _ hw => HpOk.pick (H := [_, _, _, _]) hw [0, 1, 2, 3] 4 rfl)
  · skip
    unfold f_device_power_spend_j1 at h
    refine SX.re [(0, vP b0_ 0)] (own b0_ (.cells #[vB y1, vB p0.isCut, vI p0.lasts, vI p0.counts, v0x4_, .map (some m0x5_), .map (some m0x6_), vU64 p0.rcnt, vS p0.rtag, vU32 p0.rboots] 66) :: rowT 9 1 v0x4_ eS p0.blocks :: mapC m0x5_ vU32 vS p0.pend :: mapC m0x6_ vU32 vB p0.bad :: H) ?_ (by repeat' (first | exact trivial | refine And.intro rfl ?_))
    refine SX.seq ?_
    refine SX.sr ?_
    refine SL.mv ⟨rfl, rfl, rfl, rfl⟩ rfl ?_
    refine SL.nchk ⟨rfl, rfl, rfl, rfl⟩ rfl ?_
    refine SL.fa ⟨rfl, rfl, rfl, rfl⟩ rfl fo62_0 ?_
    refine SL.ld ⟨rfl, rfl, rfl, rfl⟩ sc4 rfl (cell_own 0 rfl rfl) ?_
    refine SL.nx ?_
    refine SX.cond rfl (fun hc2 => ?_) (fun hc2 => ?_)
    · skip
      replace h := cT hc2 h
      refine SX.sr ?_
      refine SL.asg ⟨rfl, rfl, rfl, rfl⟩ rfl ?_
      refine SL.nx ?_
      refine SX.ret ?_
      refine SQ.thnR ?_
      obtain rfl := Option.some.inj h
      exact SQ.fret (res1 rfl rfl) (ret_of (M := [_, _, _, _]) ⟨rfl, rfl⟩ fun _ hw => HpOk.pick (H := [_, _, _, _]) hw [0, 1, 2, 3] 4 rfl)
    · skip
      replace h := cF hc2 h
      refine SX.skip ?_
      refine SQ.thn ?_
      refine SX.meetD (α := Int) (fun x => f_device_power_spend_j2 p0 y1 x = some r) (fun x => [(0, vP b0_ 0)]) (fun x => own b0_ (.cells #[vB y1, vB p0.isCut, vI x, vI p0.counts, v0x4_, .map (some m0x5_), .map (some m0x6_), vU64 p0.rcnt, vS p0.rtag, vU32 p0.rboots] 66) :: rowT 9 1 v0x4_ eS p0.blocks :: mapC m0x5_ vU32 vS p0.pend :: mapC m0x6_ vU32 vB p0.bad :: H) ?_ (fun y2 D h => ?_)
      · skip
        refine SX.sr ?_
        refine SL.mv ⟨rfl, rfl, rfl, rfl⟩ rfl ?_
        refine SL.nchk ⟨rfl, rfl, rfl, rfl⟩ rfl ?_
        refine SL.fa ⟨rfl, rfl, rfl, rfl⟩ rfl fo62_1 ?_
        refine SL.ld ⟨rfl, rfl, rfl, rfl⟩ sc4 rfl (cell_own 0 rfl rfl) ?_
        refine SL.nx ?_
        refine SX.cond rfl (fun hc3 => ?_) (fun hc3 => ?_)
        · skip
          replace h := cT hc3 h
          refine SX.region ?_
          refine SL.mv ⟨rfl, rfl, rfl, rfl⟩ rfl ?_
          refine SL.nchk ⟨rfl, rfl, rfl, rfl⟩ rfl ?_
          refine SL.fa ⟨rfl, rfl, rfl, rfl⟩ rfl fo62_2 ?_
          refine SL.ld ⟨rfl, rfl, rfl, rfl⟩ sc3 rfl (cell_own 0 rfl rfl) ?_
          refine SL.bin ⟨rfl, rfl, rfl, rfl⟩ rfl rfl Bin.subW ?_
          refine SL.nchk ⟨rfl, rfl, rfl, rfl⟩ rfl ?_
          refine SL.fa ⟨rfl, rfl, rfl, rfl⟩ rfl fo62_2 ?_
          refine SL.st 0 ⟨rfl, rfl, rfl⟩ rfl rfl rfl sz3 rfl rfl rfl trivial ?_
          refine SL.nil ?_
          exact SQ.midD (wI (p0.lasts - 1)) h (by repeat' (first | exact trivial | refine And.intro rfl ?_)) (fun _ hw => HpOk.pick (H := [_, _, _, _]) hw [0, 1, 2, 3] 4 rfl)
        · skip
          replace h := cF hc3 h
          refine SX.skip ?_
          exact SQ.midD p0.lasts h (by repeat' (first | exact trivial | refine And.intro rfl ?_)) (fun _ hw => HpOk.pick (H := [_, _, _, _]) hw [0, 1, 2, 3] 4 rfl)
      · skip
        unfold f_device_power_spend_j2 at h
        refine SX.re [(0, vP b0_ 0)] (own b0_ (.cells #[vB y1, vB p0.isCut, vI y2, vI p0.counts, v0x4_, .map (some m0x5_), .map (some m0x6_), vU64 p0.rcnt, vS p0.rtag, vU32 p0.rboots] 66) :: rowT 9 1 v0x4_ eS p0.blocks :: mapC m0x5_ vU32 vS p0.pend :: mapC m0x6_ vU32 vB p0.bad :: H) ?_ (by repeat' (first | exact trivial | refine And.intro rfl ?_))
        refine SX.sr ?_
        refine SL.mv ⟨rfl, rfl, rfl, rfl⟩ rfl ?_
        refine SL.nchk ⟨rfl, rfl, rfl, rfl⟩ rfl ?_
        refine SL.fa ⟨rfl, rfl, rfl, rfl⟩ rfl fo62_3 ?_
        refine SL.ld ⟨rfl, rfl, rfl, rfl⟩ sc3 rfl (cell_own 0 rfl rfl) ?_
        refine SL.bin ⟨rfl, rfl, rfl, rfl⟩ rfl rfl Bin.addW ?_
        refine SL.nchk ⟨rfl, rfl, rfl, rfl⟩ rfl ?_
        refine SL.fa ⟨rfl, rfl, rfl, rfl⟩ rfl fo62_3 ?_
        refine SL.st 0 ⟨rfl, rfl, rfl⟩ rfl rfl rfl sz3 rfl rfl rfl trivial ?_
        refine SL.nx ?_
        refine SX.sr ?_
        refine SL.asg ⟨rfl, rfl, rfl, rfl⟩ rfl ?_
        refine SL.nx ?_
        refine SX.ret ?_
        obtain rfl := Option.some.inj h
        exact SQ.fret (res1 rfl rfl) (ret_of (M := [_, _, _, _]) ⟨rfl, rfl⟩ fun _ hw => HpOk.pick (H := [_, _, _, _]) hw [0, 1, 2, 3] 4 rfl)

def f_device_Device_has (p0 : DevA) (p1 : UInt32) : Option Bool :=
  ret (decide ((p1.toNat : Int) < (p0.blocks.length : Int))) fun x1 =>
  some x1
set_option maxRecDepth 100000 in
theorem c_device_Device_has {b0_ : Nat} {v0x4_ : Value} {m0x5_ : Nat} {m0x6_ : Nat} {p0 : DevA} {p1 : UInt32} {r : Bool} (h : f_device_Device_has p0 p1 = some r)  : Con Tryd.prog K w0 34 [vP b0_ 0, vU32 p1] [own b0_ (.cells #[vB p0.off, vB p0.isCut, vI p0.lasts, vI p0.counts, v0x4_, .map (some m0x5_), .map (some m0x6_), vU64 p0.rcnt, vS p0.rtag, vU32 p0.rboots] 66), rowT 9 1 v0x4_ eS p0.blocks, mapC m0x5_ vU32 vS p0.pend, mapC m0x6_ vU32 vB p0.bad] H (fun u M => u = vB r ∧ M = [own b0_ (.cells #[vB p0.off, vB p0.isCut, vI p0.lasts, vI p0.counts, v0x4_, .map (some m0x5_), .map (some m0x6_), vU64 p0.rcnt, vS p0.rtag, vU32 p0.rboots] 66), rowT 9 1 v0x4_ eS p0.blocks, mapC m0x5_ vU32 vS p0.pend, mapC m0x6_ vU32 vB p0.bad]) := by
  unfold f_device_Device_has at h
  refine Con.enter Tryd.func34 rfl rfl ?_
  refine SX.sr ?_
  refine SL.asg ⟨rfl, rfl, rfl, rfl⟩ rfl ?_
  refine SL.nx ?_
  refine SX.sr ?_
  obtain ⟨x1, ex1, h⟩ := retE h
  refine SL.mv ⟨rfl, rfl, rfl, rfl⟩ rfl ?_
  refine SL.cv ⟨rfl, rfl, rfl, rfl⟩ rfl (Cv.u32_I ty22 ty2) ?_
  refine SL.mv ⟨rfl, rfl, rfl, rfl⟩ rfl ?_
  refine SL.nchk ⟨rfl, rfl, rfl, rfl⟩ rfl ?_
  refine SL.fa ⟨rfl, rfl, rfl, rfl⟩ rfl fo66_1 ?_
  refine SL.ld ⟨rfl, rfl, rfl, rfl⟩ sc49 rfl (cell_own 0 rfl rfl) ?_
  refine SL.lenT 1 ⟨rfl, rfl, rfl, rfl⟩ ty49 rfl rfl ?_
  refine SL.bin ⟨rfl, rfl, rfl, rfl⟩ rfl rfl Bin.ltI ?_
  refine SL.asgX (u := vB x1) ⟨rfl, rfl, rfl, rfl⟩ rfl (congrArg vB ex1) ?_
  refine SL.nx ?_
  refine SX.ret ?_
  obtain rfl := Option.some.inj h
  exact SQ.fret (res1 rfl rfl) (ret_of (M := [_, _, _, _]) ⟨rfl, rfl⟩ fun _ hw => HpOk.pick (H := [_, _, _, _]) hw [0, 1, 2, 3] 4 rfl)

def f_device_Device_holds (p0 : DevA) (p1 : UInt32) : Option (List UInt8) :=
  ret ((mget p0.pend p1).getD []) fun x1 =>
  ret ((mget p0.pend p1).isSome) fun ok_1 =>
  cond ok_1
  (
    some x1)
  (
    (nthI p0.blocks (p1.toNat : Int)).bind fun x2 =>
    some x2)
set_option maxRecDepth 100000 in
theorem c_device_Device_holds {b0_ : Nat} {v0x4_ : Value} {m0x5_ : Nat} {m0x6_ : Nat} {p0 : DevA} {p1 : UInt32} {r : List UInt8} (h : f_device_Device_holds p0 p1 = some r)  : Con Tryd.prog K w0 35 [vP b0_ 0, vU32 p1] [own b0_ (.cells #[vB p0.off, vB p0.isCut, vI p0.lasts, vI p0.counts, v0x4_, .map (some m0x5_), .map (some m0x6_), vU64 p0.rcnt, vS p0.rtag, vU32 p0.rboots] 66), rowT 9 1 v0x4_ eS p0.blocks, mapC m0x5_ vU32 vS p0.pend, mapC m0x6_ vU32 vB p0.bad] H (fun u M => u = vS r ∧ M = [own b0_ (.cells #[vB p0.off, vB p0.isCut, vI p0.lasts, vI p0.counts, v0x4_, .map (some m0x5_), .map (some m0x6_), vU64 p0.rcnt, vS p0.rtag, vU32 p0.rboots] 66), rowT 9 1 v0x4_ eS p0.blocks, mapC m0x5_ vU32 vS p0.pend, mapC m0x6_ vU32 vB p0.bad]) := by
  unfold f_device_Device_holds at h
  refine Con.enter Tryd.func35 rfl rfl ?_
  refine SX.sr ?_
  refine SL.asg ⟨rfl, rfl, rfl, rfl⟩ rfl ?_
  refine SL.nx ?_
  refine SX.seq ?_
  refine SX.sr ?_
  obtain ⟨x1, ex1, h⟩ := retE h
  obtain ⟨ok_1, eok_1, h⟩ := retE h
  refine SL.mv ⟨rfl, rfl, rfl, rfl⟩ rfl ?_
  refine SL.nchk ⟨rfl, rfl, rfl, rfl⟩ rfl ?_
  refine SL.fa ⟨rfl, rfl, rfl, rfl⟩ rfl fo66_2 ?_
  refine SL.ld ⟨rfl, rfl, rfl, rfl⟩ sc59 rfl (cell_own 0 rfl rfl) ?_
  refine SL.mv ⟨rfl, rfl, rfl, rfl⟩ rfl ?_
  refine SL.lkpOk (zv := []) 2 (MapE.u32S ty22) ⟨rfl, rfl, rfl, rfl⟩ ty59 ze9 rfl rfl rfl ?_
  refine SL.mv ⟨rfl, rfl, rfl, rfl⟩ rfl ?_
  refine SL.ext ⟨rfl, rfl, rfl, rfl⟩ rfl rfl ?_
  refine SL.ext ⟨rfl, rfl, rfl, rfl⟩ rfl rfl ?_
  refine SL.asgX (u := vS x1) ⟨rfl, rfl, rfl, rfl⟩ rfl (congrArg vS ex1) ?_
  refine SL.asgX (u := vB ok_1) ⟨rfl, rfl, rfl, rfl⟩ rfl (congrArg vB eok_1) ?_
  refine SL.nx ?_
  refine SX.sr ?_
  refine SL.mv ⟨rfl, rfl, rfl, rfl⟩ rfl ?_
  refine SL.nx ?_
  refine SX.cond rfl (fun hc1 => ?_) (fun hc1 => ?_)
  · skip
    replace h := cT hc1 h
    refine SX.sr ?_
    refine SL.mv ⟨rfl, rfl, rfl, rfl⟩ rfl ?_
    refine SL.asg ⟨rfl, rfl, rfl, rfl⟩ rfl ?_
    refine SL.nx ?_
    refine SX.ret ?_
    refine SQ.thnR ?_
    obtain rfl := Option.some.inj h
    exact SQ.fret (res1 rfl rfl) (ret_of (M := [_, _, _, _]) ⟨rfl, rfl⟩ fun _ hw => HpOk.pick (H := [_, _, _, _]) hw [0, 1, 2, 3] 4 rfl)
  · skip
    replace h := cF hc1 h
    refine SX.skip ?_
    refine SQ.thn ?_
    refine SX.sr ?_
    obtain ⟨x2, hx2, h⟩ := bnd h
    refine SL.mv ⟨rfl, rfl, rfl, rfl⟩ rfl ?_
    refine SL.nchk ⟨rfl, rfl, rfl, rfl⟩ rfl ?_
    refine SL.fa ⟨rfl, rfl, rfl, rfl⟩ rfl fo66_1 ?_
    refine SL.ld ⟨rfl, rfl, rfl, rfl⟩ sc49 rfl (cell_own 0 rfl rfl) ?_
    refine SL.mv ⟨rfl, rfl, rfl, rfl⟩ rfl ?_
    refine SL.iaT 1 hx2 ⟨rfl, rfl, rfl, rfl⟩ ty49 sz9 rfl rfl rfl fun g1 m1 cp1 hv1 => ?_
    refine SL.ld ⟨rfl, rfl, rfl, rfl⟩ sc9 rfl (cell_rowT (sz := 1) (enc := eS) 1 0 (fun _ => rfl) rfl hv1 hx2 rfl) ?_
    refine SL.asg ⟨rfl, rfl, rfl, rfl⟩ rfl ?_
    refine SL.nx ?_
    refine SX.ret ?_
    obtain rfl := Option.some.inj h
    exact SQ.fret (res1 rfl rfl) (ret_of (M := [_, _, _, _]) ⟨rfl, rfl⟩ fun _ hw => HpOk.pick (H := [_, _, _, _]) hw [0, 1, 2, 3] 4 rfl)

def f_device_Device_Blocks (p0 : DevA) : Option Int :=
  some (p0.blocks.length : Int)
set_option maxRecDepth 100000 in
theorem c_device_Device_Blocks {b0_ : Nat} {v0x4_ : Value} {m0x5_ : Nat} {m0x6_ : Nat} {p0 : DevA} {r : Int} (h : f_device_Device_Blocks p0 = some r)  : Con Tryd.prog K w0 29 [vP b0_ 0] [own b0_ (.cells #[vB p0.off, vB p0.isCut, vI p0.lasts, vI p0.counts, v0x4_, .map (some m0x5_), .map (some m0x6_), vU64 p0.rcnt, vS p0.rtag, vU32 p0.rboots] 66), rowT 9 1 v0x4_ eS p0.blocks, mapC m0x5_ vU32 vS p0.pend, mapC m0x6_ vU32 vB p0.bad] H (fun u M => u = vI r ∧ M = [own b0_ (.cells #[vB p0.off, vB p0.isCut, vI p0.lasts, vI p0.counts, v0x4_, .map (some m0x5_), .map (some m0x6_), vU64 p0.rcnt, vS p0.rtag, vU32 p0.rboots] 66), rowT 9 1 v0x4_ eS p0.blocks, mapC m0x5_ vU32 vS p0.pend, mapC m0x6_ vU32 vB p0.bad]) := by
  unfold f_device_Device_Blocks at h
  refine Con.enter Tryd.func29 rfl rfl ?_
  refine SX.sr ?_
  refine SL.asg ⟨rfl, rfl, rfl, rfl⟩ rfl ?_
  refine SL.nx ?_
  refine SX.seq ?_
  refine SX.sr ?_
  refine SL.mv ⟨rfl, rfl, rfl, rfl⟩ rfl ?_
  refine SL.eqPN ⟨rfl, rfl, rfl, rfl⟩ ty24 rfl rfl ?_
  refine SL.nx ?_
  refine SX.condF rfl ?_
  refine SX.skip ?_
  refine SQ.thn ?_
  refine SX.sr ?_
  refine SL.mv ⟨rfl, rfl, rfl, rfl⟩ rfl ?_
  refine SL.nchk ⟨rfl, rfl, rfl, rfl⟩ rfl ?_
  refine SL.fa ⟨rfl, rfl, rfl, rfl⟩ rfl fo66_1 ?_
  refine SL.ld ⟨rfl, rfl, rfl, rfl⟩ sc49 rfl (cell_own 0 rfl rfl) ?_
  refine SL.lenT 1 ⟨rfl, rfl, rfl, rfl⟩ ty49 rfl rfl ?_
  refine SL.asg ⟨rfl, rfl, rfl, rfl⟩ rfl ?_
  refine SL.nx ?_
  refine SX.ret ?_
  obtain rfl := Option.some.inj h
  exact SQ.fret (res1 rfl rfl) (ret_of (M := [_, _, _, _]) ⟨rfl, rfl⟩ fun _ hw => HpOk.pick (H := [_, _, _, _]) hw [0, 1, 2, 3] 4 rfl)

def f_device_Device_Read (p0 : DevA) (p1 : UInt32) : Option (List UInt8 × Int) :=
  (f_device_Device_has p0 p1).bind fun y1 =>
  ret (!y1) fun x1 =>
  cond x1
  (
    some ([], 2))
  (
    cond p0.off
    (
      some ([], 71))
    (
      ret ((mget p0.bad p1).getD false) fun x2 =>
      cond x2
      (
        some ([], 70))
      (
        (f_device_Device_holds p0 p1).bind fun y2 =>
        some (y2, 0))))
set_option maxRecDepth 100000 in
theorem c_device_Device_Read {b0_ : Nat} {v0x4_ : Value} {m0x5_ : Nat} {m0x6_ : Nat} {p0 : DevA} {p1 : UInt32} {r : List UInt8 × Int} (h : f_device_Device_Read p0 p1 = some r)  : Con Tryd.prog K w0 17 [vP b0_ 0, vU32 p1] [own b0_ (.cells #[vB p0.off, vB p0.isCut, vI p0.lasts, vI p0.counts, v0x4_, .map (some m0x5_), .map (some m0x6_), vU64 p0.rcnt, vS p0.rtag, vU32 p0.rboots] 66), rowT 9 1 v0x4_ eS p0.blocks, mapC m0x5_ vU32 vS p0.pend, mapC m0x6_ vU32 vB p0.bad] H (fun u M => u = .tuple #[vS r.1, vI r.2] ∧ M = [own b0_ (.cells #[vB p0.off, vB p0.isCut, vI p0.lasts, vI p0.counts, v0x4_, .map (some m0x5_), .map (some m0x6_), vU64 p0.rcnt, vS p0.rtag, vU32 p0.rboots] 66), rowT 9 1 v0x4_ eS p0.blocks, mapC m0x5_ vU32 vS p0.pend, mapC m0x6_ vU32 vB p0.bad]) := by
  unfold f_device_Device_Read at h
  refine Con.enter Tryd.func17 rfl rfl ?_
  refine SX.sr ?_
  refine SL.asg ⟨rfl, rfl, rfl, rfl⟩ rfl ?_
  refine SL.asg ⟨rfl, rfl, rfl, rfl⟩ rfl ?_
  refine SL.nx ?_
  refine SX.seq ?_
  refine SX.block ?_
  refine SX.sr ?_
  refine SL.mv ⟨rfl, rfl, rfl, rfl⟩ rfl ?_
  refine SL.eqPN ⟨rfl, rfl, rfl, rfl⟩ ty24 rfl rfl ?_
  refine SL.asg ⟨rfl, rfl, rfl, rfl⟩ rfl ?_
  refine SL.nx ?_
  refine SX.condF rfl ?_
  refine SX.sr ?_
  obtain ⟨y1, hy1, h⟩ := bnd h
  obtain ⟨x1, ex1, h⟩ := retE h
  refine SL.mv ⟨rfl, rfl, rfl, rfl⟩ rfl ?_
  refine SL.mv ⟨rfl, rfl, rfl, rfl⟩ rfl ?_
  refine SL.call (vs := [_, _]) (Hin := [_, _, _, _]) (Hr := _) ⟨rfl, rfl, rfl, rfl⟩ rfl ⟨rfl, rfl, trivial⟩ cal34 rfl rfl (c_device_Device_has hy1) ?_
  rintro _ _ ⟨rfl, rfl⟩
  refine ⟨trivial, ?_⟩
  refine SL.not ⟨rfl, rfl, rfl, rfl⟩ rfl ?_
  refine SL.asgX (u := vB x1) ⟨rfl, rfl, rfl, rfl⟩ rfl (congrArg vB ex1) ?_
  refine SL.nx ?_
  refine SX.cond rfl (fun hc2 => ?_) (fun hc2 => ?_)
  · skip
    replace h := cT hc2 h
    refine SX.sr ?_
    refine SL.asg ⟨rfl, rfl, rfl, rfl⟩ rfl ?_
    refine SL.asg ⟨rfl, rfl, rfl, rfl⟩ rfl ?_
    refine SL.nx ?_
    refine SX.ret ?_
    refine SQ.blkR ?_
    refine SQ.thnR ?_
    obtain rfl := Option.some.inj h
    exact SQ.fret (res2 rfl rfl rfl) (ret_of (M := [_, _, _, _]) ⟨rfl, rfl⟩ fun _ hw => HpOk.pick (H := [_, _, _, _]) hw [0, 1, 2, 3] 4 rfl)
  · skip
    replace h := cF hc2 h
    refine SX.sr ?_
    refine SL.mv ⟨rfl, rfl, rfl, rfl⟩ rfl ?_
    refine SL.nchk ⟨rfl, rfl, rfl, rfl⟩ rfl ?_
    refine SL.fa ⟨rfl, rfl, rfl, rfl⟩ rfl fo66_0 ?_
    refine SL.fa ⟨rfl, rfl, rfl, rfl⟩ rfl fo62_0 ?_
    refine SL.ld ⟨rfl, rfl, rfl, rfl⟩ sc4 rfl (cell_own 0 rfl rfl) ?_
    refine SL.asg ⟨rfl, rfl, rfl, rfl⟩ rfl ?_
    refine SL.nx ?_
    refine SX.cond rfl (fun hc3 => ?_) (fun hc3 => ?_)
    · skip
      replace h := cT hc3 h
      refine SX.sr ?_
      refine SL.asg ⟨rfl, rfl, rfl, rfl⟩ rfl ?_
      refine SL.asg ⟨rfl, rfl, rfl, rfl⟩ rfl ?_
      refine SL.nx ?_
      refine SX.ret ?_
      refine SQ.blkR ?_
      refine SQ.thnR ?_
      obtain rfl := Option.some.inj h
      exact SQ.fret (res2 rfl rfl rfl) (ret_of (M := [_, _, _, _]) ⟨rfl, rfl⟩ fun _ hw => HpOk.pick (H := [_, _, _, _]) hw [0, 1, 2, 3] 4 rfl)
    · skip
      replace h := cF hc3 h
      refine SX.sr ?_
      obtain ⟨x2, ex2, h⟩ := retE h
      refine SL.mv ⟨rfl, rfl, rfl, rfl⟩ rfl ?_
      refine SL.nchk ⟨rfl, rfl, rfl, rfl⟩ rfl ?_
      refine SL.fa ⟨rfl, rfl, rfl, rfl⟩ rfl fo66_3 ?_
      refine SL.ld ⟨rfl, rfl, rfl, rfl⟩ sc60 rfl (cell_own 0 rfl rfl) ?_
      refine SL.mv ⟨rfl, rfl, rfl, rfl⟩ rfl ?_
      refine SL.lkp (zv := false) 3 (MapE.u32B ty22) ⟨rfl, rfl, rfl, rfl⟩ ty60 ze4 rfl rfl rfl ?_
      refine SL.asgX (u := vB x2) ⟨rfl, rfl, rfl, rfl⟩ rfl (congrArg vB ex2) ?_
      refine SL.nx ?_
      refine SX.cond rfl (fun hc4 => ?_) (fun hc4 => ?_)
      · skip
        replace h := cT hc4 h
        refine SX.sr ?_
        refine SL.asg ⟨rfl, rfl, rfl, rfl⟩ rfl ?_
        refine SL.asg ⟨rfl, rfl, rfl, rfl⟩ rfl ?_
        refine SL.nx ?_
        refine SX.ret ?_
        refine SQ.blkR ?_
        refine SQ.thnR ?_
        obtain rfl := Option.some.inj h
        exact SQ.fret (res2 rfl rfl rfl) (ret_of (M := [_, _, _, _]) ⟨rfl, rfl⟩ fun _ hw => HpOk.pick (H := [_, _, _, _]) hw [0, 1, 2, 3] 4 rfl)
      · skip
        replace h := cF hc4 h
        refine SX.skip ?_
        refine SQ.blk ?_
        refine SQ.thn ?_
        refine SX.sr ?_
        obtain ⟨y2, hy2, h⟩ := bnd h
        refine SL.mv ⟨rfl, rfl, rfl, rfl⟩ rfl ?_
        refine SL.mv ⟨rfl, rfl, rfl, rfl⟩ rfl ?_
        refine SL.call (vs := [_, _]) (Hin := [_, _, _, _]) (Hr := _) ⟨rfl, rfl, rfl, rfl⟩ rfl ⟨rfl, rfl, trivial⟩ cal35 rfl rfl (c_device_Device_holds hy2) ?_
        rintro _ _ ⟨rfl, rfl⟩
        refine ⟨trivial, ?_⟩
        refine SL.asg ⟨rfl, rfl, rfl, rfl⟩ rfl ?_
        refine SL.asg ⟨rfl, rfl, rfl, rfl⟩ rfl ?_
        refine SL.nx ?_
        refine SX.ret ?_
        obtain rfl := Option.some.inj h
        exact SQ.fret (res2 rfl rfl rfl) (ret_of (M := [_, _, _, _]) ⟨rfl, rfl⟩ fun _ hw => HpOk.pick (H := [_, _, _, _]) hw [0, 1, 2, 3] 4 rfl)

def f_device_Device_Put (p0 : DevA) (p1 : UInt32) (p2 : List UInt8) : Option (Int × DevA) :=
  (f_device_Device_has p0 p1).bind fun y1 =>
  ret ((!y1) || (!decide ((p2.length : Int) = 256))) fun x1 =>
  cond x1
  (
    some (2, p0))
  (
    (nthI p0.blocks (p1.toNat : Int)).bind fun x2 =>
    (setI p0.blocks (p1.toNat : Int) p2).bind fun l1 =>
    some (0, { p0 with blocks := l1, pend := mdel p0.pend p1 }))
set_option maxRecDepth 100000 in
theorem c_device_Device_Put {b0_ : Nat} {v0x4_ : Value} {m0x5_ : Nat} {m0x6_ : Nat} {p0 : DevA} {p1 : UInt32} {p2 : List UInt8} {r : Int × DevA} (h : f_device_Device_Put p0 p1 p2 = some r)  : Con Tryd.prog K w0 18 [vP b0_ 0, vU32 p1, vS p2] [own b0_ (.cells #[vB p0.off, vB p0.isCut, vI p0.lasts, vI p0.counts, v0x4_, .map (some m0x5_), .map (some m0x6_), vU64 p0.rcnt, vS p0.rtag, vU32 p0.rboots] 66), rowT 9 1 v0x4_ eS p0.blocks, mapC m0x5_ vU32 vS p0.pend, mapC m0x6_ vU32 vB p0.bad] H (fun u M => u = vI r.1 ∧ M = [own b0_ (.cells #[vB r.2.off, vB r.2.isCut, vI r.2.lasts, vI r.2.counts, v0x4_, .map (some m0x5_), .map (some m0x6_), vU64 r.2.rcnt, vS r.2.rtag, vU32 r.2.rboots] 66), rowT 9 1 v0x4_ eS r.2.blocks, mapC m0x5_ vU32 vS r.2.pend, mapC m0x6_ vU32 vB r.2.bad]) := by
  unfold f_device_Device_Put at h
  refine Con.enter Tryd.func18 rfl rfl ?_
  refine SX.sr ?_
  refine SL.asg ⟨rfl, rfl, rfl, rfl⟩ rfl ?_
  refine SL.nx ?_
  refine SX.seq ?_
  refine SX.block ?_
  refine SX.sr ?_
  refine SL.mv ⟨rfl, rfl, rfl, rfl⟩ rfl ?_
  refine SL.eqPN ⟨rfl, rfl, rfl, rfl⟩ ty24 rfl rfl ?_
  refine SL.asg ⟨rfl, rfl, rfl, rfl⟩ rfl ?_
  refine SL.nx ?_
  refine SX.condF rfl ?_
  refine SX.sr ?_
  obtain ⟨y1, hy1, h⟩ := bnd h
  obtain ⟨x1, ex1, h⟩ := retE h
  refine SL.mv ⟨rfl, rfl, rfl, rfl⟩ rfl ?_
  refine SL.mv ⟨rfl, rfl, rfl, rfl⟩ rfl ?_
  refine SL.call (vs := [_, _]) (Hin := [_, _, _, _]) (Hr := _) ⟨rfl, rfl, rfl, rfl⟩ rfl ⟨rfl, rfl, trivial⟩ cal34 rfl rfl (c_device_Device_has hy1) ?_
  rintro _ _ ⟨rfl, rfl⟩
  refine ⟨trivial, ?_⟩
  refine SL.not ⟨rfl, rfl, rfl, rfl⟩ rfl ?_
  refine SL.mv ⟨rfl, rfl, rfl, rfl⟩ rfl ?_
  refine SL.or (c := !decide ((p2.length : Int) = 256)) 15 4 19 rfl (fun hb k => ?_) (fun hb k => ?_) ?_
  · skip
    refine SL.pass rfl rfl rfl ?_
    refine SL.pass rfl rfl rfl ?_
    refine SL.pass rfl rfl rfl ?_
    refine SL.pk ⟨rfl, rfl, rfl, rfl⟩ rfl rfl ?_
    exact k.mono (by repeat' (first | exact trivial | refine And.intro rfl ?_))
  · skip
    refine SL.mv ⟨rfl, rfl, rfl, rfl⟩ rfl ?_
    refine SL.lenS ⟨rfl, rfl, rfl, rfl⟩ ty9 rfl ?_
    refine SL.bin ⟨rfl, rfl, rfl, rfl⟩ rfl rfl Bin.neI ?_
    refine SL.pk ⟨rfl, rfl, rfl, rfl⟩ rfl rfl ?_
    exact k.mono (by repeat' (first | exact trivial | refine And.intro rfl ?_))
  refine SL.asgX (u := vB x1) ⟨rfl, rfl, rfl, rfl⟩ rfl (congrArg vB ex1) ?_
  refine SL.nx ?_
  refine SX.cond rfl (fun hc2 => ?_) (fun hc2 => ?_)
  · skip
    replace h := cT hc2 h
    refine SX.sr ?_
    refine SL.asg ⟨rfl, rfl, rfl, rfl⟩ rfl ?_
    refine SL.nx ?_
    refine SX.ret ?_
    refine SQ.blkR ?_
    refine SQ.thnR ?_
    obtain rfl := Option.some.inj h
    exact SQ.fret (res1 rfl rfl) (ret_of (M := [_, _, _, _]) ⟨rfl, rfl⟩ fun _ hw => HpOk.pick (H := [_, _, _, _]) hw [0, 1, 2, 3] 4 rfl)
  · skip
    replace h := cF hc2 h
    refine SX.skip ?_
    refine SQ.blk ?_
    refine SQ.thn ?_
    refine SX.sr ?_
    obtain ⟨x2, hx2, h⟩ := bnd h
    obtain ⟨l1, hl1, h⟩ := bnd h
    refine SL.mv ⟨rfl, rfl, rfl, rfl⟩ rfl ?_
    refine SL.nchk ⟨rfl, rfl, rfl, rfl⟩ rfl ?_
    refine SL.fa ⟨rfl, rfl, rfl, rfl⟩ rfl fo66_1 ?_
    refine SL.ld ⟨rfl, rfl, rfl, rfl⟩ sc49 rfl (cell_own 0 rfl rfl) ?_
    refine SL.mv ⟨rfl, rfl, rfl, rfl⟩ rfl ?_
    refine SL.mv ⟨rfl, rfl, rfl, rfl⟩ rfl ?_
    refine SL.iaT 1 hx2 ⟨rfl, rfl, rfl, rfl⟩ ty49 sz9 rfl rfl rfl fun g1 m1 cp1 hv1 => ?_
    refine SL.stTN (sz := 1) (enc := eS) 1 hl1 (fun _ => rfl) ⟨rfl, rfl, rfl⟩ rfl rfl rfl rfl hv1 sz9 (by simp [Value.oneCell']) trivial ?_
    refine SL.nx ?_
    refine SX.sr ?_
    refine SL.mv ⟨rfl, rfl, rfl, rfl⟩ rfl ?_
    refine SL.nchk ⟨rfl, rfl, rfl, rfl⟩ rfl ?_
    refine SL.fa ⟨rfl, rfl, rfl, rfl⟩ rfl fo66_2 ?_
    refine SL.ld ⟨rfl, rfl, rfl, rfl⟩ sc59 rfl (cell_own 0 rfl rfl) ?_
    refine SL.mv ⟨rfl, rfl, rfl, rfl⟩ rfl ?_
    refine SL.mdl 2 (MapE.u32S ty22) rfl rfl rfl rfl ty59 rfl rfl rfl trivial ?_
    refine SL.nx ?_
    refine SX.sr ?_
    refine SL.asg ⟨rfl, rfl, rfl, rfl⟩ rfl ?_
    refine SL.nx ?_
    refine SX.ret ?_
    obtain rfl := Option.some.inj h
    exact SQ.fret (res1 rfl rfl) (ret_of (M := [_, _, _, _]) ⟨rfl, rfl⟩ fun _ hw => HpOk.pick (H := [_, _, _, _]) hw [0, 1, 2, 3] 4 rfl)

def f_device_Device_Write_j1 (y2 : Int × DevA) (l1 : List (UInt32 × List UInt8)) : Option (Int × DevA) :=
  some (y2.1, { y2.2 with pend := l1 })
def f_device_Device_Write (p0 : DevA) (p1 : UInt32) (p2 : List UInt8) : Option (Int × DevA) :=
  (f_device_Device_has p0 p1).bind fun y1 =>
  ret ((!y1) || (!decide ((p2.length : Int) = 256))) fun x1 =>
  cond x1
  (
    some (2, p0))
  (
    (f_device_power_spend p0).bind fun y2 =>
    cond (decide (y2.1 = 0))
    (
      (mputI y2.2.pend p1 p2).bind fun l2 =>
      f_device_Device_Write_j1 y2 l2)
    (
      f_device_Device_Write_j1 y2 y2.2.pend))
set_option maxRecDepth 100000 in
theorem c_device_Device_Write {b0_ : Nat} {v0x4_ : Value} {m0x5_ : Nat} {m0x6_ : Nat} {p0 : DevA} {p1 : UInt32} {p2 : List UInt8} {r : Int × DevA} (h : f_device_Device_Write p0 p1 p2 = some r)  : Con Tryd.prog K w0 51 [vP b0_ 0, vU32 p1, vS p2] [own b0_ (.cells #[vB p0.off, vB p0.isCut, vI p0.lasts, vI p0.counts, v0x4_, .map (some m0x5_), .map (some m0x6_), vU64 p0.rcnt, vS p0.rtag, vU32 p0.rboots] 66), rowT 9 1 v0x4_ eS p0.blocks, mapC m0x5_ vU32 vS p0.pend, mapC m0x6_ vU32 vB p0.bad] H (fun u M => u = vI r.1 ∧ M = [own b0_ (.cells #[vB r.2.off, vB r.2.isCut, vI r.2.lasts, vI r.2.counts, v0x4_, .map (some m0x5_), .map (some m0x6_), vU64 r.2.rcnt, vS r.2.rtag, vU32 r.2.rboots] 66), rowT 9 1 v0x4_ eS r.2.blocks, mapC m0x5_ vU32 vS r.2.pend, mapC m0x6_ vU32 vB r.2.bad]) := by
  unfold f_device_Device_Write at h
  refine Con.enter Tryd.func51 rfl rfl ?_
  refine SX.sr ?_
  refine SL.asg ⟨rfl, rfl, rfl, rfl⟩ rfl ?_
  refine SL.nx ?_
  refine SX.seq ?_
  refine SX.block ?_
  refine SX.sr ?_
  refine SL.mv ⟨rfl, rfl, rfl, rfl⟩ rfl ?_
  refine SL.eqPN ⟨rfl, rfl, rfl, rfl⟩ ty24 rfl rfl ?_
  refine SL.asg ⟨rfl, rfl, rfl, rfl⟩ rfl ?_
  refine SL.nx ?_
  refine SX.condF rfl ?_
  refine SX.sr ?_
  obtain ⟨y1, hy1, h⟩ := bnd h
  obtain ⟨x1, ex1, h⟩ := retE h
  refine SL.mv ⟨rfl, rfl, rfl, rfl⟩ rfl ?_
  refine SL.mv ⟨rfl, rfl, rfl, rfl⟩ rfl ?_
  refine SL.call (vs := [_, _]) (Hin := [_, _, _, _]) (Hr := _) ⟨rfl, rfl, rfl, rfl⟩ rfl ⟨rfl, rfl, trivial⟩ cal34 rfl rfl (c_device_Device_has hy1) ?_
  rintro _ _ ⟨rfl, rfl⟩
  refine ⟨trivial, ?_⟩
  refine SL.not ⟨rfl, rfl, rfl, rfl⟩ rfl ?_
  refine SL.mv ⟨rfl, rfl, rfl, rfl⟩ rfl ?_
  refine SL.or (c := !decide ((p2.length : Int) = 256)) 16 4 20 rfl (fun hb k => ?_) (fun hb k => ?_) ?_
  · skip
    refine SL.pass rfl rfl rfl ?_
    refine SL.pass rfl rfl rfl ?_
    refine SL.pass rfl rfl rfl ?_
    refine SL.pk ⟨rfl, rfl, rfl, rfl⟩ rfl rfl ?_
    exact k.mono (by repeat' (first | exact trivial | refine And.intro rfl ?_))
  · skip
    refine SL.mv ⟨rfl, rfl, rfl, rfl⟩ rfl ?_
    refine SL.lenS ⟨rfl, rfl, rfl, rfl⟩ ty9 rfl ?_
    refine SL.bin ⟨rfl, rfl, rfl, rfl⟩ rfl rfl Bin.neI ?_
    refine SL.pk ⟨rfl, rfl, rfl, rfl⟩ rfl rfl ?_
    exact k.mono (by repeat' (first | exact trivial | refine And.intro rfl ?_))
  refine SL.asgX (u := vB x1) ⟨rfl, rfl, rfl, rfl⟩ rfl (congrArg vB ex1) ?_
  refine SL.nx ?_
  refine SX.cond rfl (fun hc2 => ?_) (fun hc2 => ?_)
  · skip
    replace h := cT hc2 h
    refine SX.sr ?_
    refine SL.asg ⟨rfl, rfl, rfl, rfl⟩ rfl ?_
    refine SL.nx ?_
    refine SX.ret ?_
    refine SQ.blkR ?_
    refine SQ.thnR ?_
    obtain rfl := Option.some.inj h
    exact SQ.fret (res1 rfl rfl) (ret_of (M := [_, _, _, _]) ⟨rfl, rfl⟩ fun _ hw => HpOk.pick (H := [_, _, _, _]) hw [0, 1, 2, 3] 4 rfl)
  · skip
    replace h := cF hc2 h
    refine SX.skip ?_
    refine SQ.blk ?_
    refine SQ.thn ?_
    refine SX.sr ?_
    obtain ⟨y2, hy2, h⟩ := bnd h
    refine SL.mv ⟨rfl, rfl, rfl, rfl⟩ rfl ?_
    refine SL.nchk ⟨rfl, rfl, rfl, rfl⟩ rfl ?_
    refine SL.fa ⟨rfl, rfl, rfl, rfl⟩ rfl fo66_0 ?_
    refine SL.call (vs := [_]) (Hin := [_, _, _, _]) (Hr := _) ⟨rfl, rfl, rfl, rfl⟩ rfl ⟨rfl, trivial⟩ cal69 rfl rfl ((c_device_power_spend hy2 :)) ?_
    rintro _ _ ⟨rfl, rfl⟩
    refine ⟨trivial, ?_⟩
    refine SL.asg ⟨rfl, rfl, rfl, rfl⟩ rfl ?_
    refine SL.nx ?_
    refine SX.meetD (α := List (UInt32 × List UInt8)) (fun x => f_device_Device_Write_j1 y2 x = some r) (fun x => [(0, vP b0_ 0), (7, vI y2.1)]) (fun x => own b0_ (.cells #[vB y2.2.off, vB y2.2.isCut, vI y2.2.lasts, vI y2.2.counts, v0x4_, .map (some m0x5_), .map (some m0x6_), vU64 y2.2.rcnt, vS y2.2.rtag, vU32 y2.2.rboots] 66) :: rowT 9 1 v0x4_ eS y2.2.blocks :: mapC m0x5_ vU32 vS x :: mapC m0x6_ vU32 vB y2.2.bad :: H) ?_ (fun l1 D h => ?_)
    · skip
      refine SX.sr ?_
      refine SL.mv ⟨rfl, rfl, rfl, rfl⟩ rfl ?_
      refine SL.bin ⟨rfl, rfl, rfl, rfl⟩ rfl rfl Bin.eqI ?_
      refine SL.nx ?_
      refine SX.cond rfl (fun hc3 => ?_) (fun hc3 => ?_)
      · skip
        replace h := cT hc3 h
        refine SX.region ?_
        obtain ⟨l2, hl2, h⟩ := bnd h
        refine SL.mv ⟨rfl, rfl, rfl, rfl⟩ rfl ?_
        refine SL.nchk ⟨rfl, rfl, rfl, rfl⟩ rfl ?_
        refine SL.fa ⟨rfl, rfl, rfl, rfl⟩ rfl fo66_2 ?_
        refine SL.ld ⟨rfl, rfl, rfl, rfl⟩ sc59 rfl (cell_own 0 rfl rfl) ?_
        refine SL.mv ⟨rfl, rfl, rfl, rfl⟩ rfl ?_
        refine SL.mv ⟨rfl, rfl, rfl, rfl⟩ rfl ?_
        refine SL.mupN 2 hl2 (MapE.u32S ty22) ⟨rfl, rfl, rfl⟩ ty59 rfl rfl rfl rfl trivial ?_
        refine SL.nil ?_
        exact SQ.midD l2 h (by repeat' (first | exact trivial | refine And.intro rfl ?_)) (fun _ hw => HpOk.pick (H := [_, _, _, _]) hw [0, 1, 2, 3] 4 rfl)
      · skip
        replace h := cF hc3 h
        refine SX.skip ?_
        exact SQ.midD y2.2.pend h (by repeat' (first | exact trivial | refine And.intro rfl ?_)) (fun _ hw => HpOk.pick (H := [_, _, _, _]) hw [0, 1, 2, 3] 4 rfl)
    · skip
      unfold f_device_Device_Write_j1 at h
      refine SX.re [(0, vP b0_ 0), (7, vI y2.1)] (own b0_ (.cells #[vB y2.2.off, vB y2.2.isCut, vI y2.2.lasts, vI y2.2.counts, v0x4_, .map (some m0x5_), .map (some m0x6_), vU64 y2.2.rcnt, vS y2.2.rtag, vU32 y2.2.rboots] 66) :: rowT 9 1 v0x4_ eS y2.2.blocks :: mapC m0x5_ vU32 vS l1 :: mapC m0x6_ vU32 vB y2.2.bad :: H) ?_ (by repeat' (first | exact trivial | refine And.intro rfl ?_))
      refine SX.sr ?_
      refine SL.mv ⟨rfl, rfl, rfl, rfl⟩ rfl ?_
      refine SL.asg ⟨rfl, rfl, rfl, rfl⟩ rfl ?_
      refine SL.nx ?_
      refine SX.ret ?_
      obtain rfl := Option.some.inj h
      exact SQ.fret (res1 rfl rfl) (ret_of (M := [_, _, _, _]) ⟨rfl, rfl⟩ fun _ hw => HpOk.pick (H := [_, _, _, _]) hw [0, 1, 2, 3] 4 rfl)

def f_device_New (p0 : Int) : Option (Option DevA × Int) :=
  cond ((decide (p0 < 4)) || (decide (4096 < p0)))
  (
    some (none, 2))
  (
    (rep0O [0] 32).bind fun y1 =>
    (rep0O [0] 256).bind fun y2 =>
    (srepO [y2] p0).bind fun y3 =>
    some (some ({ off := false, isCut := false, lasts := 0, counts := 0, blocks := y3, pend := [], bad := [], rcnt := 0, rtag := y1, rboots := 0 } : DevA), 0))
set_option maxRecDepth 100000 in
theorem c_device_New {p0 : Int} {r : Option DevA × Int} (h : f_device_New p0 = some r)  : Con Tryd.prog K w0 10 [vI p0] [] H (fun u M => (r.1 = none ∧ u = .tuple #[.pointer none, vI r.2] ∧ M = []) ∨ (∃ (d : DevA) (bn0 : Nat) (vn0x4 : Value) (mn0x5 : Nat) (mn0x6 : Nat), r.1 = some d ∧ u = .tuple #[vP bn0 0, vI r.2] ∧ M = [own bn0 (.cells #[vB d.off, vB d.isCut, vI d.lasts, vI d.counts, vn0x4, .map (some mn0x5), .map (some mn0x6), vU64 d.rcnt, vS d.rtag, vU32 d.rboots] 66), rowT 9 1 vn0x4 eS d.blocks, mapC mn0x5 vU32 vS d.pend, mapC mn0x6 vU32 vB d.bad])) := by
  unfold f_device_New at h
  refine Con.enter Tryd.func10 rfl rfl ?_
  refine SX.sr ?_
  refine SL.asg ⟨rfl, rfl, rfl, rfl⟩ rfl ?_
  refine SL.asg ⟨rfl, rfl, rfl, rfl⟩ rfl ?_
  refine SL.nx ?_
  refine SX.seq ?_
  refine SX.sr ?_
  refine SL.mv ⟨rfl, rfl, rfl, rfl⟩ rfl ?_
  refine SL.bin ⟨rfl, rfl, rfl, rfl⟩ rfl rfl Bin.ltI ?_
  refine SL.mv ⟨rfl, rfl, rfl, rfl⟩ rfl ?_
  refine SL.or (c := decide (4096 < p0)) 7 3 10 rfl (fun hb k => ?_) (fun hb k => ?_) ?_
  · skip
    refine SL.pass rfl rfl rfl ?_
    refine SL.pass rfl rfl rfl ?_
    refine SL.pk ⟨rfl, rfl, rfl, rfl⟩ rfl rfl ?_
    exact k.mono (by repeat' (first | exact trivial | refine And.intro rfl ?_))
  · skip
    refine SL.mv ⟨rfl, rfl, rfl, rfl⟩ rfl ?_
    refine SL.bin ⟨rfl, rfl, rfl, rfl⟩ rfl rfl Bin.gtI ?_
    refine SL.pk ⟨rfl, rfl, rfl, rfl⟩ rfl rfl ?_
    exact k.mono (by repeat' (first | exact trivial | refine And.intro rfl ?_))
  refine SL.nx ?_
  refine SX.cond rfl (fun hc1 => ?_) (fun hc1 => ?_)
  · skip
    replace h := cT hc1 h
    refine SX.sr ?_
    refine SL.asg ⟨rfl, rfl, rfl, rfl⟩ rfl ?_
    refine SL.asg ⟨rfl, rfl, rfl, rfl⟩ rfl ?_
    refine SL.nx ?_
    refine SX.ret ?_
    refine SQ.thnR ?_
    obtain rfl := Option.some.inj h
    exact SQ.fret (res2 rfl rfl rfl) (ret_of (M := []) (.inl ⟨rfl, rfl, rfl⟩) fun _ hw => HpOk.pick (H := []) hw [] 0 rfl)
  · skip
    replace h := cF hc1 h
    refine SX.skip ?_
    refine SQ.thn ?_
    refine SX.sr ?_
    refine SL.mkM vU32 vS ⟨rfl, rfl, rfl, rfl⟩ (fun _ => trivial) fun b1 => ?_
    refine SL.mkM vU32 vB ⟨rfl, rfl, rfl, rfl⟩ (fun _ => trivial) fun b2 => ?_
    refine SL.bld [_, _] ⟨rfl, rfl, rfl, rfl⟩ pl66 pk66 ze66 ⟨rfl, rfl, trivial⟩ rfl ?_
    refine SL.box ⟨rfl, rfl, rfl, rfl⟩ rfl (fun _ => trivial) fun b3 => ?_
    refine SL.nilT 9 1 eS ?_
    refine SL.asg ⟨rfl, rfl, rfl, rfl⟩ rfl ?_
    refine SL.nx ?_
    refine SX.sr ?_
    obtain ⟨y1, hy1, h⟩ := bnd h
    refine SL.mv ⟨rfl, rfl, rfl, rfl⟩ rfl ?_
    refine SL.call (vs := [_, _]) (Hin := []) (Hr := _ :: _ :: _ :: _ :: _) ⟨rfl, rfl, rfl, rfl⟩ rfl ⟨rfl, rfl, trivial⟩ cal26 rfl rfl (w_rep0 hy1) ?_
    rintro _ _ ⟨rfl, rfl⟩
    refine ⟨trivial, ?_⟩
    refine SL.nchk ⟨rfl, rfl, rfl, rfl⟩ rfl ?_
    refine SL.fa ⟨rfl, rfl, rfl, rfl⟩ rfl fo66_4 ?_
    refine SL.fa ⟨rfl, rfl, rfl, rfl⟩ rfl fo64_1 ?_
    refine SL.st 1 ⟨rfl, rfl, rfl⟩ rfl rfl rfl sz9 rfl rfl rfl trivial ?_
    refine SL.nx ?_
    refine SX.sr ?_
    obtain ⟨y2, hy2, h⟩ := bnd h
    obtain ⟨y3, hy3, h⟩ := bnd h
    refine SL.mv ⟨rfl, rfl, rfl, rfl⟩ rfl ?_
    refine SL.call (vs := [_, _]) (Hin := []) (Hr := _ :: _ :: _ :: _ :: _) ⟨rfl, rfl, rfl, rfl⟩ rfl ⟨rfl, rfl, trivial⟩ cal26 rfl rfl (w_rep0 hy2) ?_
    rintro _ _ ⟨rfl, rfl⟩
    refine ⟨trivial, ?_⟩
    refine SL.bsl [_] ⟨rfl, rfl, rfl, rfl⟩ ty49 sz9 ze9 ⟨rfl, trivial⟩ rfl rfl rfl (by first | (simp [Value.cells]; done) | (intro v hv; simp only [List.mem_cons, List.not_mem_nil, or_false] at hv; rcases hv with rfl <;> rfl)) rfl rfl (fun _ => trivial) fun b4 => ?_
    refine SL.ownT eS 1 ([y2] : List (List UInt8)) rfl (fun _ => rfl) rfl ?_
    refine SL.mv ⟨rfl, rfl, rfl, rfl⟩ rfl ?_
    refine SL.call (vs := [_, _]) (Hin := [_]) (Hr := _ :: _ :: _ :: _ :: _) ⟨rfl, rfl, rfl, rfl⟩ rfl ⟨rfl, rfl, trivial⟩ cal27 rfl rfl (Con.lend (B := [_]) (Hin := []) fun K' w1 hk hB => w_srep hy3 (SlOf.lentT (e := 9) (v := .slice (some ⟨b4, 0, none⟩) 1 1) (fun _ => rfl) (hB _ (by simp)))) ?_
    rintro v1 _ ⟨_, rfl, _, rfl, rfl⟩
    refine ⟨trivial, ?_⟩
    refine SL.nchk ⟨rfl, rfl, rfl, rfl⟩ rfl ?_
    refine SL.fa ⟨rfl, rfl, rfl, rfl⟩ rfl fo66_1 ?_
    refine SL.rowV 1 rfl fun hv1 ho1 => ?_
    refine SL.stR 3 ⟨rfl, rfl, rfl⟩ rfl rfl rfl sz49 hv1 ho1 rfl trivial ?_
    refine SL.nx ?_
    refine SX.sr ?_
    refine SL.mv ⟨rfl, rfl, rfl, rfl⟩ rfl ?_
    refine SL.asg ⟨rfl, rfl, rfl, rfl⟩ rfl ?_
    refine SL.asg ⟨rfl, rfl, rfl, rfl⟩ rfl ?_
    refine SL.nx ?_
    refine SX.ret ?_
    obtain rfl := Option.some.inj h
    exact SQ.fret (res2 rfl rfl rfl) (ret_of (M := [_, _, _, _]) (.inr ⟨_, b3, v1, b1, b2, rfl, rfl, rfl⟩) fun _ hw => HpOk.pick (H := [_, _, _, _, _, _]) hw [3, 1, 5, 4] 6 rfl)

def f_ref13_New (n : Nat) (p0 : RDevA) (p1 : List KeyA) (p2 : UInt32) (p3 : UInt32) : Option (Option RVltA × Int) :=
  (f_ref04_Find n p1 p2).bind fun y1 =>
  cond (!decide (y1.2 = 0))
  (
    some (none, y1.2))
  (
    (mkI 1 (p0.blk.length : Int) false).bind fun l1 =>
    (nthI l1 0).bind fun x1 =>
    (setI l1 0 true).bind fun l2 =>
    (nthI l2 1).bind fun x2 =>
    (setI l2 1 true).bind fun l3 =>
    some (some ({ ring := p1, gen := p2, boot := p3, num := 0, taken := l3 } : RVltA), 0))
set_option maxRecDepth 100000 in
theorem c_ref13_New {n : Nat} {b0_ : Nat} {v0x0_ : Value} {v0x1_ : Value} {v0x2_ : Value} {p0 : RDevA} {v1_ : Value} {p1 : List KeyA} {p2 : UInt32} {p3 : UInt32} {r : Option RVltA × Int} (h : f_ref13_New n p0 p1 p2 p3 = some r)  : Con Tryd.prog K w0 31 [vP b0_ 0, v1_, vU32 p2, vU32 p3] [own b0_ (.cells #[v0x0_, v0x1_, v0x2_, vU64 p0.rcnt, vS p0.rtag, vU32 p0.rboots, vI p0.left, vB p0.off] 108), rowT 9 1 v0x0_ eS p0.blk, rowT 9 1 v0x1_ eS p0.pnd, rowT 4 1 v0x2_ eB p0.bads, rowT 70 2 v1_ encKey p1] H (fun u M => (r.1 = none ∧ u = .tuple #[.pointer none, vI r.2] ∧ M = [own b0_ (.cells #[v0x0_, v0x1_, v0x2_, vU64 p0.rcnt, vS p0.rtag, vU32 p0.rboots, vI p0.left, vB p0.off] 108), rowT 9 1 v0x0_ eS p0.blk, rowT 9 1 v0x1_ eS p0.pnd, rowT 4 1 v0x2_ eB p0.bads]) ∨ (∃ (d : RVltA) (bn0 : Nat) (vn0x1 : Value) (vn0x5 : Value), r.1 = some d ∧ u = .tuple #[vP bn0 0, vI r.2] ∧ M = [own bn0 (.cells #[vP b0_ 0, vn0x1, vU32 d.gen, vU32 d.boot, vU64 d.num, vn0x5] 110), rowT 70 2 vn0x1 encKey d.ring, rowT 4 1 vn0x5 eB d.taken, own b0_ (.cells #[v0x0_, v0x1_, v0x2_, vU64 p0.rcnt, vS p0.rtag, vU32 p0.rboots, vI p0.left, vB p0.off] 108), rowT 9 1 v0x0_ eS p0.blk, rowT 9 1 v0x1_ eS p0.pnd, rowT 4 1 v0x2_ eB p0.bads])) := by
  unfold f_ref13_New at h
  refine Con.enter Tryd.func31 rfl rfl ?_
  refine SX.sr ?_
  refine SL.asg ⟨rfl, rfl, rfl, rfl⟩ rfl ?_
  refine SL.asg ⟨rfl, rfl, rfl, rfl⟩ rfl ?_
  refine SL.nx ?_
  refine SX.sr ?_
  obtain ⟨y1, hy1, h⟩ := bnd h
  refine SL.mv ⟨rfl, rfl, rfl, rfl⟩ rfl ?_
  refine SL.mv ⟨rfl, rfl, rfl, rfl⟩ rfl ?_
  refine SL.pick [4, 0, 1, 2, 3] 5 ?_
  refine SL.call (vs := [_, _]) (Hin := [_]) (Hr := _ :: _ :: _ :: _ :: _) ⟨rfl, rfl, rfl, rfl⟩ rfl ⟨rfl, rfl, trivial⟩ cal48 rfl rfl (Con.lend (B := [_]) (Hin := []) fun K' w1 hk hB => c_ref04_Find hy1 (SlOf.lentT (e := 70) (v := v1_) (fun _ => rfl) (hB _ (by simp)))) ?_
  rintro _ _ ⟨_, rfl, rfl, rfl⟩
  refine ⟨trivial, ?_⟩
  refine SL.mv ⟨rfl, rfl, rfl, rfl⟩ rfl ?_
  refine SL.ext ⟨rfl, rfl, rfl, rfl⟩ rfl rfl ?_
  refine SL.ext ⟨rfl, rfl, rfl, rfl⟩ rfl rfl ?_
  refine SL.alloc ⟨rfl, rfl, rfl, rfl⟩ ze70 (fun _ => trivial) fun b1 => ?_
  refine SL.st 0 ⟨rfl, rfl, rfl⟩ rfl rfl rfl sz70 rfl rfl rfl trivial ?_
  refine SL.asg ⟨rfl, rfl, rfl, rfl⟩ rfl ?_
  refine SL.nx ?_
  refine SX.seq ?_
  refine SX.sr ?_
  refine SL.mv ⟨rfl, rfl, rfl, rfl⟩ rfl ?_
  refine SL.bin ⟨rfl, rfl, rfl, rfl⟩ rfl rfl Bin.neI ?_
  refine SL.nx ?_
  refine SX.cond rfl (fun hc1 => ?_) (fun hc1 => ?_)
  · skip
    replace h := cT hc1 h
    refine SX.sr ?_
    refine SL.mv ⟨rfl, rfl, rfl, rfl⟩ rfl ?_
    refine SL.asg ⟨rfl, rfl, rfl, rfl⟩ rfl ?_
    refine SL.asg ⟨rfl, rfl, rfl, rfl⟩ rfl ?_
    refine SL.nx ?_
    refine SX.ret ?_
    refine SQ.thnR ?_
    obtain rfl := Option.some.inj h
    exact SQ.fret (res2 rfl rfl rfl) (ret_of (M := [_, _, _, _]) (.inl ⟨rfl, rfl, rfl⟩) fun _ hw => HpOk.pick (H := [_, _, _, _, _, _]) hw [2, 3, 4, 5] 6 rfl)
  · skip
    replace h := cF hc1 h
    refine SX.skip ?_
    refine SQ.thn ?_
    refine SX.sr ?_
    obtain ⟨l1, hl1, h⟩ := bnd h
    refine SL.mv ⟨rfl, rfl, rfl, rfl⟩ rfl ?_
    refine SL.mv ⟨rfl, rfl, rfl, rfl⟩ rfl ?_
    refine SL.mv ⟨rfl, rfl, rfl, rfl⟩ rfl ?_
    refine SL.mv ⟨rfl, rfl, rfl, rfl⟩ rfl ?_
    refine SL.mv ⟨rfl, rfl, rfl, rfl⟩ rfl ?_
    refine SL.nchk ⟨rfl, rfl, rfl, rfl⟩ rfl ?_
    refine SL.fa ⟨rfl, rfl, rfl, rfl⟩ rfl fo108_0 ?_
    refine SL.ld ⟨rfl, rfl, rfl, rfl⟩ sc49 rfl (cell_own 2 rfl rfl) ?_
    refine SL.lenT 3 ⟨rfl, rfl, rfl, rfl⟩ ty49 rfl rfl ?_
    refine SL.mkN hl1 eB ⟨rfl, rfl, rfl, rfl⟩ ty106 sz4 by4 ze4 rfl rfl rfl rfl (fun _ => trivial) fun v1 => ?_
    refine SL.rowV 2 rfl fun hv1 ho1 => ?_
    refine SL.rowV 0 rfl fun hv2 ho2 => ?_
    refine SL.bldC [vP b0_ 0, v1_, vU32 p2, vU32 p3, v1] [#[vP b0_ 0], #[v1_], #[vU32 p2], #[vU32 p3], #[v1]] (by simp only [List.map_cons, List.map_nil, hv1, hv2]; rfl) ⟨rfl, rfl, rfl, rfl⟩ pl110 pk110 ze110 ⟨rfl, rfl, rfl, rfl, rfl, trivial⟩ rfl ?_
    refine SL.box ⟨rfl, rfl, rfl, rfl⟩ rfl (fun _ => trivial) fun b2 => ?_
    refine SL.asg ⟨rfl, rfl, rfl, rfl⟩ rfl ?_
    refine SL.nx ?_
    refine SX.sr ?_
    obtain ⟨x1, hx1, h⟩ := bnd h
    obtain ⟨l2, hl2, h⟩ := bnd h
    refine SL.mv ⟨rfl, rfl, rfl, rfl⟩ rfl ?_
    refine SL.nchk ⟨rfl, rfl, rfl, rfl⟩ rfl ?_
    refine SL.fa ⟨rfl, rfl, rfl, rfl⟩ rfl fo110_5 ?_
    refine SL.ld ⟨rfl, rfl, rfl, rfl⟩ sc106 rfl (cell_own 0 rfl rfl) ?_
    refine SL.iaT 1 hx1 ⟨rfl, rfl, rfl, rfl⟩ ty106 sz4 rfl rfl rfl fun g1 m1 cp1 hv3 => ?_
    refine SL.stTN (sz := 1) (enc := eB) 1 hl2 (fun _ => rfl) ⟨rfl, rfl, rfl⟩ rfl rfl rfl rfl hv3 sz4 (by simp [Value.oneCell']) trivial ?_
    refine SL.nx ?_
    refine SX.sr ?_
    obtain ⟨x2, hx2, h⟩ := bnd h
    obtain ⟨l3, hl3, h⟩ := bnd h
    refine SL.mv ⟨rfl, rfl, rfl, rfl⟩ rfl ?_
    refine SL.nchk ⟨rfl, rfl, rfl, rfl⟩ rfl ?_
    refine SL.fa ⟨rfl, rfl, rfl, rfl⟩ rfl fo110_5 ?_
    refine SL.ld ⟨rfl, rfl, rfl, rfl⟩ sc106 rfl (cell_own 0 rfl rfl) ?_
    refine SL.iaT 1 hx2 ⟨rfl, rfl, rfl, rfl⟩ ty106 sz4 rfl rfl rfl fun g2 m2 cp2 hv4 => ?_
    refine SL.stTN (sz := 1) (enc := eB) 1 hl3 (fun _ => rfl) ⟨rfl, rfl, rfl⟩ rfl rfl rfl rfl hv4 sz4 (by simp [Value.oneCell']) trivial ?_
    refine SL.nx ?_
    refine SX.sr ?_
    refine SL.mv ⟨rfl, rfl, rfl, rfl⟩ rfl ?_
    refine SL.asg ⟨rfl, rfl, rfl, rfl⟩ rfl ?_
    refine SL.asg ⟨rfl, rfl, rfl, rfl⟩ rfl ?_
    refine SL.nx ?_
    refine SX.ret ?_
    obtain rfl := Option.some.inj h
    exact SQ.fret (res2 rfl rfl rfl) (ret_of (M := [_, _, _, _, _, _, _]) (.inr ⟨_, b2, v1_, v1, rfl, rfl, rfl⟩) fun _ hw => HpOk.pick (H := [_, _, _, _, _, _, _, _]) hw [0, 3, 1, 4, 5, 6, 7] 8 rfl)

def f_vault_New (p0 : DevA) (p1 : List KeyA) (p2 : UInt32) (p3 : UInt32) : Option (Option VltA × Int) :=
  (findO p1 p2).bind fun y1 =>
  cond (!decide (y1.2 = 0))
  (
    some (none, y1.2))
  (
    (appL 24 [] p1).bind fun l1 =>
    some (some ({ ring := l1, gen := p2, boot := p3, seals := 0, taken := [] } : VltA), 0))
set_option maxRecDepth 100000 in
theorem c_vault_New {b0_ : Nat} {v0x4_ : Value} {m0x5_ : Nat} {m0x6_ : Nat} {p0 : DevA} {v1_ : Value} {p1 : List KeyA} {p2 : UInt32} {p3 : UInt32} {r : Option VltA × Int} (h : f_vault_New p0 p1 p2 p3 = some r) (hs1_ : SlOf K w0 encKey 2 v1_ p1) : Con Tryd.prog K w0 11 [vP b0_ 0, v1_, vU32 p2, vU32 p3] [own b0_ (.cells #[vB p0.off, vB p0.isCut, vI p0.lasts, vI p0.counts, v0x4_, .map (some m0x5_), .map (some m0x6_), vU64 p0.rcnt, vS p0.rtag, vU32 p0.rboots] 66), rowT 9 1 v0x4_ eS p0.blocks, mapC m0x5_ vU32 vS p0.pend, mapC m0x6_ vU32 vB p0.bad] H (fun u M => (r.1 = none ∧ u = .tuple #[.pointer none, vI r.2] ∧ M = [own b0_ (.cells #[vB p0.off, vB p0.isCut, vI p0.lasts, vI p0.counts, v0x4_, .map (some m0x5_), .map (some m0x6_), vU64 p0.rcnt, vS p0.rtag, vU32 p0.rboots] 66), rowT 9 1 v0x4_ eS p0.blocks, mapC m0x5_ vU32 vS p0.pend, mapC m0x6_ vU32 vB p0.bad]) ∨ (∃ (d : VltA) (bn0 : Nat) (vn0x1 : Value) (mn0x5 : Nat), r.1 = some d ∧ u = .tuple #[vP bn0 0, vI r.2] ∧ M = [own bn0 (.cells #[vP b0_ 0, vn0x1, vU32 d.gen, vU32 d.boot, vU64 d.seals, .map (some mn0x5)] 74), rowT 70 2 vn0x1 encKey d.ring, mapC mn0x5 vU32 vB d.taken, own b0_ (.cells #[vB p0.off, vB p0.isCut, vI p0.lasts, vI p0.counts, v0x4_, .map (some m0x5_), .map (some m0x6_), vU64 p0.rcnt, vS p0.rtag, vU32 p0.rboots] 66), rowT 9 1 v0x4_ eS p0.blocks, mapC m0x5_ vU32 vS p0.pend, mapC m0x6_ vU32 vB p0.bad])) := by
  unfold f_vault_New at h
  refine Con.enter Tryd.func11 rfl rfl ?_
  refine SX.sr ?_
  refine SL.asg ⟨rfl, rfl, rfl, rfl⟩ rfl ?_
  refine SL.asg ⟨rfl, rfl, rfl, rfl⟩ rfl ?_
  refine SL.nx ?_
  refine SX.seq ?_
  refine SX.sr ?_
  refine SL.mv ⟨rfl, rfl, rfl, rfl⟩ rfl ?_
  refine SL.eqPN ⟨rfl, rfl, rfl, rfl⟩ ty24 rfl rfl ?_
  refine SL.nx ?_
  refine SX.condF rfl ?_
  refine SX.skip ?_
  refine SQ.thn ?_
  refine SX.seq ?_
  refine SX.sr ?_
  obtain ⟨y1, hy1, h⟩ := bnd h
  refine SL.mv ⟨rfl, rfl, rfl, rfl⟩ rfl ?_
  refine SL.mv ⟨rfl, rfl, rfl, rfl⟩ rfl ?_
  refine SL.call (vs := [_, _]) (Hin := []) (Hr := _ :: _ :: _ :: _ :: _) ⟨rfl, rfl, rfl, rfl⟩ rfl ⟨rfl, rfl, trivial⟩ cal28 rfl rfl (w_find hy1 hs1_) ?_
  rintro _ _ ⟨rfl, rfl⟩
  refine ⟨trivial, ?_⟩
  refine SL.mv ⟨rfl, rfl, rfl, rfl⟩ rfl ?_
  refine SL.ext ⟨rfl, rfl, rfl, rfl⟩ rfl rfl ?_
  refine SL.ext ⟨rfl, rfl, rfl, rfl⟩ rfl rfl ?_
  refine SL.alloc ⟨rfl, rfl, rfl, rfl⟩ ze70 (fun _ => trivial) fun b1 => ?_
  refine SL.st 0 ⟨rfl, rfl, rfl⟩ rfl rfl rfl sz70 rfl rfl rfl trivial ?_
  refine SL.asg ⟨rfl, rfl, rfl, rfl⟩ rfl ?_
  refine SL.nx ?_
  refine SX.sr ?_
  refine SL.mv ⟨rfl, rfl, rfl, rfl⟩ rfl ?_
  refine SL.bin ⟨rfl, rfl, rfl, rfl⟩ rfl rfl Bin.neI ?_
  refine SL.nx ?_
  refine SX.cond rfl (fun hc2 => ?_) (fun hc2 => ?_)
  · skip
    replace h := cT hc2 h
    refine SX.sr ?_
    refine SL.mv ⟨rfl, rfl, rfl, rfl⟩ rfl ?_
    refine SL.asg ⟨rfl, rfl, rfl, rfl⟩ rfl ?_
    refine SL.asg ⟨rfl, rfl, rfl, rfl⟩ rfl ?_
    refine SL.nx ?_
    refine SX.ret ?_
    refine SQ.thnR ?_
    obtain rfl := Option.some.inj h
    exact SQ.fret (res2 rfl rfl rfl) (ret_of (M := [_, _, _, _]) (.inl ⟨rfl, rfl, rfl⟩) fun _ hw => HpOk.pick (H := [_, _, _, _, _]) hw [1, 2, 3, 4] 5 rfl)
  · skip
    replace h := cF hc2 h
    refine SX.skip ?_
    refine SQ.thn ?_
    refine SX.sr ?_
    obtain ⟨l1, hl1, h⟩ := bnd h
    refine SL.mv ⟨rfl, rfl, rfl, rfl⟩ rfl ?_
    refine SL.bsl0 ⟨rfl, rfl, rfl, rfl⟩ ty31 sz70 (fun _ => trivial) fun b2 => ?_
    refine SL.ownT encKey 2 ([] : List KeyA) rfl (fun _ => rfl) rfl ?_
    refine SL.mv ⟨rfl, rfl, rfl, rfl⟩ rfl ?_
    refine SL.appV 0 hl1 hs1_ (sz := 2) (enc := encKey) (fun _ => rfl) ⟨rfl, rfl, rfl, rfl⟩ ty31 sz70 by70 ze70 rfl (by decide) rfl rfl rfl (by simp [encKey, Value.oneCell']) (fun _ => trivial) fun v1 => ?_
    refine SL.mv ⟨rfl, rfl, rfl, rfl⟩ rfl ?_
    refine SL.mv ⟨rfl, rfl, rfl, rfl⟩ rfl ?_
    refine SL.mkM vU32 vB ⟨rfl, rfl, rfl, rfl⟩ (fun _ => trivial) fun b3 => ?_
    refine SL.rowV 1 rfl fun hv1 ho1 => ?_
    refine SL.bldC [vP b0_ 0, v1, vU32 p2, vU32 p3, .map (some b3)] [#[vP b0_ 0], #[v1], #[vU32 p2], #[vU32 p3], #[.map (some b3)]] (by simp only [List.map_cons, List.map_nil, hv1]; rfl) ⟨rfl, rfl, rfl, rfl⟩ pl74 pk74 ze74 ⟨rfl, rfl, rfl, rfl, rfl, trivial⟩ rfl ?_
    refine SL.box ⟨rfl, rfl, rfl, rfl⟩ rfl (fun _ => trivial) fun b4 => ?_
    refine SL.asg ⟨rfl, rfl, rfl, rfl⟩ rfl ?_
    refine SL.asg ⟨rfl, rfl, rfl, rfl⟩ rfl ?_
    refine SL.nx ?_
    refine SX.ret ?_
    obtain rfl := Option.some.inj h
    exact SQ.fret (res2 rfl rfl rfl) (ret_of (M := [_, _, _, _, _, _, _]) (.inr ⟨_, b4, v1, b3, rfl, rfl, rfl⟩) fun _ hw => HpOk.pick (H := [_, _, _, _, _, _, _, _]) hw [0, 2, 1, 4, 5, 6, 7] 8 rfl)

def f_vault_New_nil (p1 : List KeyA) (p2 : UInt32) (p3 : UInt32) : Option Int :=
  some 1
set_option maxRecDepth 100000 in
theorem c_vault_New_nil {v1_ : Value} {p1 : List KeyA} {p2 : UInt32} {p3 : UInt32} {r : Int} (h : f_vault_New_nil p1 p2 p3 = some r) (hs1_ : SlOf K w0 encKey 2 v1_ p1) : Con Tryd.prog K w0 11 [.pointer none, v1_, vU32 p2, vU32 p3] [] H (fun u M => u = .tuple #[.pointer none, vI r] ∧ M = []) := by
  unfold f_vault_New_nil at h
  refine Con.enter Tryd.func11 rfl rfl ?_
  refine SX.sr ?_
  refine SL.asg ⟨rfl, rfl, rfl, rfl⟩ rfl ?_
  refine SL.asg ⟨rfl, rfl, rfl, rfl⟩ rfl ?_
  refine SL.nx ?_
  refine SX.seq ?_
  refine SX.sr ?_
  refine SL.mv ⟨rfl, rfl, rfl, rfl⟩ rfl ?_
  refine SL.eqPN ⟨rfl, rfl, rfl, rfl⟩ ty24 rfl rfl ?_
  refine SL.nx ?_
  refine SX.condT rfl ?_
  refine SX.sr ?_
  refine SL.asg ⟨rfl, rfl, rfl, rfl⟩ rfl ?_
  refine SL.asg ⟨rfl, rfl, rfl, rfl⟩ rfl ?_
  refine SL.nx ?_
  refine SX.ret ?_
  refine SQ.thnR ?_
  obtain rfl := Option.some.inj h
  exact SQ.fret (res2 rfl rfl rfl) (ret_of (M := []) ⟨rfl, rfl⟩ fun _ hw => HpOk.pick (H := []) hw [] 0 rfl)

def f_law13_Ring_j1 (l1 : List KeyA) : Option (List KeyA) :=
  some l1
def f_law13_Ring_j2 (a1 : Int) (nx_f_law13_Ring_l1 : List KeyA × Int → Option (List KeyA)) (l3 : List KeyA) : Option (List KeyA) :=
  ret (wI (a1 + 1)) fun i_1 =>
  nx_f_law13_Ring_l1 (l3, i_1)
def f_law13_Ring_j3 (l2 : List KeyA) (a1 : Int) (nx_f_law13_Ring_l1 : List KeyA × Int → Option (List KeyA)) (l4 : List UInt8) : Option (List KeyA) :=
  (appL 24 l2 [(⟨toU32 a1, l4⟩ : KeyA)]).bind fun l7 =>
  f_law13_Ring_j2 a1 nx_f_law13_Ring_l1 l7
def f_law13_Ring_l2_b (l2 : List KeyA) (a1 : Int) (nx_f_law13_Ring_l1 : List KeyA × Int → Option (List KeyA)) (nx_f_law13_Ring_l2 : List UInt8 × Int → Option (List KeyA)) (l5 : List UInt8) (a2 : Int) : Option (List KeyA) :=
  cond (decide (a2 < 32))
  (
    (appL 1 l5 [toU8 (wI (64 + a1))]).bind fun l6 =>
    ret (wI (a2 + 1)) fun k_1 =>
    nx_f_law13_Ring_l2 (l6, k_1))
  (
    f_law13_Ring_j3 l2 a1 nx_f_law13_Ring_l1 l5)
def f_law13_Ring_l2 (l2 : List KeyA) (a1 : Int) (nx_f_law13_Ring_l1 : List KeyA × Int → Option (List KeyA)) : Nat → (List UInt8 × Int) → Option (List KeyA) := loopN fun nx x => f_law13_Ring_l2_b l2 a1 nx_f_law13_Ring_l1 nx x.1 x.2
def f_law13_Ring_l1_b (n : Nat) (p0 : Int) (nx_f_law13_Ring_l1 : List KeyA × Int → Option (List KeyA)) (l2 : List KeyA) (a1 : Int) : Option (List KeyA) :=
  cond (decide (a1 ≤ p0))
  (
    f_law13_Ring_l2 l2 a1 nx_f_law13_Ring_l1 n ([], 0))
  (
    f_law13_Ring_j1 l2)
def f_law13_Ring_l1 (n : Nat) (p0 : Int) : Nat → (List KeyA × Int) → Option (List KeyA) := loopN fun nx x => f_law13_Ring_l1_b n p0 nx x.1 x.2
def f_law13_Ring (n : Nat) (p0 : Int) : Option (List KeyA) :=
  f_law13_Ring_l1 n p0 n ([], 1)
set_option maxRecDepth 100000 in
theorem c_law13_Ring {n : Nat} {p0 : Int} {r : List KeyA} (h : f_law13_Ring n p0 = some r)  : Con Tryd.prog K w0 12 [vI p0] [] H (fun u M => ∃ v0 : Value, u = v0 ∧ M = [rowT 70 2 v0 encKey r]) := by
  unfold f_law13_Ring at h
  refine Con.enter Tryd.func12 rfl rfl ?_
  refine SX.sr ?_
  refine SL.nilT 70 2 encKey ?_
  refine SL.asg ⟨rfl, rfl, rfl, rfl⟩ rfl ?_
  refine SL.nx ?_
  refine SX.sr ?_
  refine SL.nilT 70 2 encKey ?_
  refine SL.asg ⟨rfl, rfl, rfl, rfl⟩ rfl ?_
  refine SL.nx ?_
  refine SX.meetD (α := List KeyA × Value) (fun x => f_law13_Ring_j1 x.1 = some r) (fun x => [(3, x.2)]) (fun x => rowT 70 2 x.2 encKey x.1 :: H) ?_ (fun x D h => ?_)
  · skip
    refine SX.sr ?_
    refine SL.asg ⟨rfl, rfl, rfl, rfl⟩ rfl ?_
    refine SL.nx ?_
    refine SX.block ?_
    refine SX.heap (SX.mono (SX.loop (α := Nat × List KeyA × Value × Int) (fun x => f_law13_Ring_l1 n p0 x.1 (x.2.1, x.2.2.2) = some r) (fun x => [(0, vI p0), (3, x.2.2.1), (4, vI x.2.2.2)]) (fun x => rowT 70 2 x.2.2.1 encKey x.2.1 :: H) (fun x => x.1) (fun x D h => ?_) (n, [], .slice none 0 0, 1) h) (by repeat' (first | exact trivial | refine And.intro rfl ?_))) (fun _ hw => HpOk.pick (H := [_, _]) hw [0] 2 rfl)
    obtain ⟨m1, l2, v2, a1⟩ := x
    dsimp only at h
    rcases m1 with _ | m1
    · cases (show (none : Option _) = some r from h)
    replace h : f_law13_Ring_l1_b n p0 (f_law13_Ring_l1 n p0 m1) l2 a1 = some r := h
    unfold f_law13_Ring_l1_b at h
    refine SX.re [(0, vI p0), (3, v2), (4, vI a1)] (rowT 70 2 v2 encKey l2 :: H) ?_ (by repeat' (first | exact trivial | refine And.intro rfl ?_))
    refine SX.seq ?_
    refine SX.sr ?_
    refine SL.mv ⟨rfl, rfl, rfl, rfl⟩ rfl ?_
    refine SL.mv ⟨rfl, rfl, rfl, rfl⟩ rfl ?_
    refine SL.bin ⟨rfl, rfl, rfl, rfl⟩ rfl rfl Bin.leI ?_
    refine SL.nx ?_
    refine SX.cond rfl (fun hc1 => ?_) (fun hc1 => ?_)
    · skip
      replace h := cT hc1 h
      refine SX.skip ?_
      refine SQ.thn ?_
      refine SX.meetD (α := List KeyA × Value) (fun x => f_law13_Ring_j2 a1 (f_law13_Ring_l1 n p0 m1) x.1 = some r) (fun x => [(0, vI p0), (3, x.2), (4, vI a1)]) (fun x => rowT 70 2 x.2 encKey x.1 :: H) ?_ (fun x D h => ?_)
      · skip
        refine SX.block ?_
        refine SX.sr ?_
        refine SL.nilT 5 1 eU8 ?_
        refine SL.asg ⟨rfl, rfl, rfl, rfl⟩ rfl ?_
        refine SL.nx ?_
        refine SX.meetD (α := List UInt8 × Value) (fun x => f_law13_Ring_j3 l2 a1 (f_law13_Ring_l1 n p0 m1) x.1 = some r) (fun x => [(0, vI p0), (3, v2), (4, vI a1), (5, x.2)]) (fun x => rowT 70 2 v2 encKey l2 :: rowT 5 1 x.2 eU8 x.1 :: H) ?_ (fun x D h => ?_)
        · skip
          refine SX.sr ?_
          refine SL.asg ⟨rfl, rfl, rfl, rfl⟩ rfl ?_
          refine SL.nx ?_
          refine SX.block ?_
          refine SX.heap (SX.mono (SX.loop (α := Nat × List UInt8 × Value × Int) (fun x => f_law13_Ring_l2 l2 a1 (f_law13_Ring_l1 n p0 m1) x.1 (x.2.1, x.2.2.2) = some r) (fun x => [(0, vI p0), (3, v2), (4, vI a1), (5, x.2.2.1), (6, vI x.2.2.2)]) (fun x => rowT 70 2 v2 encKey l2 :: rowT 5 1 x.2.2.1 eU8 x.2.1 :: H) (fun x => x.1) (fun x D h => ?_) (n, [], .slice none 0 0, 0) h) (by repeat' (first | exact trivial | refine And.intro rfl ?_))) (fun _ hw => HpOk.pick (H := [_, _]) hw [1, 0] 2 rfl)
          obtain ⟨m2, l5, v5, a2⟩ := x
          dsimp only at h
          rcases m2 with _ | m2
          · cases (show (none : Option _) = some r from h)
          replace h : f_law13_Ring_l2_b l2 a1 (f_law13_Ring_l1 n p0 m1) (f_law13_Ring_l2 l2 a1 (f_law13_Ring_l1 n p0 m1) m2) l5 a2 = some r := h
          unfold f_law13_Ring_l2_b at h
          refine SX.re [(0, vI p0), (3, v2), (4, vI a1), (5, v5), (6, vI a2)] (rowT 70 2 v2 encKey l2 :: rowT 5 1 v5 eU8 l5 :: H) ?_ (by repeat' (first | exact trivial | refine And.intro rfl ?_))
          refine SX.seq ?_
          refine SX.sr ?_
          refine SL.mv ⟨rfl, rfl, rfl, rfl⟩ rfl ?_
          refine SL.bin ⟨rfl, rfl, rfl, rfl⟩ rfl rfl Bin.ltI ?_
          refine SL.nx ?_
          refine SX.cond rfl (fun hc2 => ?_) (fun hc2 => ?_)
          · skip
            replace h := cT hc2 h
            refine SX.skip ?_
            refine SQ.thn ?_
            refine SX.seq ?_
            refine SX.block ?_
            refine SX.region ?_
            obtain ⟨l6, hl6, h⟩ := bnd h
            refine SL.mv ⟨rfl, rfl, rfl, rfl⟩ rfl ?_
            refine SL.mv ⟨rfl, rfl, rfl, rfl⟩ rfl ?_
            refine SL.bin ⟨rfl, rfl, rfl, rfl⟩ rfl rfl Bin.addW ?_
            refine SL.cv ⟨rfl, rfl, rfl, rfl⟩ rfl (Cv.i_8 ty3 ty5) ?_
            refine SL.bsl [_] ⟨rfl, rfl, rfl, rfl⟩ ty51 sz5 ze5 ⟨rfl, trivial⟩ rfl rfl rfl (by first | (simp [Value.cells]; done) | (intro v hv; simp only [List.mem_cons, List.not_mem_nil, or_false] at hv; rcases hv with rfl <;> rfl)) rfl rfl (fun _ => trivial) fun b1 => ?_
            refine SL.ownT eU8 1 ([toU8 (wI (64 + a1))] : List UInt8) rfl (fun _ => rfl) rfl ?_
            refine SL.appT 2 hl6 (sz := 1) (enc := eU8) (fun _ => rfl) ⟨rfl, rfl, rfl, rfl⟩ ty51 sz5 by5 ze5 rfl (by decide) rfl rfl rfl rfl (cells_rowA (sz := 1) (enc := eU8) 0 (fun _ => rfl) rfl) (by simp [eU8, Value.oneCell']) (fun _ => trivial) fun v6 => ?_
            refine SL.asg ⟨rfl, rfl, rfl, rfl⟩ rfl ?_
            refine SL.nil ?_
            refine SQ.blk ?_
            refine SQ.thn ?_
            refine SX.region ?_
            obtain ⟨k_1, ek_1, h⟩ := retE h
            refine SL.mv ⟨rfl, rfl, rfl, rfl⟩ rfl ?_
            refine SL.bin ⟨rfl, rfl, rfl, rfl⟩ rfl rfl Bin.addW ?_
            refine SL.asgX (u := vI k_1) ⟨rfl, rfl, rfl, rfl⟩ rfl (congrArg vI ek_1) ?_
            refine SL.nil ?_
            exact SQ.again (m2, l6, v6, k_1) h (Nat.lt_succ_self _) (by repeat' (first | exact trivial | refine And.intro rfl ?_)) (fun _ hw => HpOk.pick (H := [_, _, _]) hw [1, 2] 3 rfl)
          · skip
            replace h := cF hc2 h
            refine SX.exit ?_
            refine SQ.thnE ?_
            refine SQ.lpE ?_
            refine SQ.blkE ?_
            exact SQ.midD (l5, v5) h (by repeat' (first | exact trivial | refine And.intro rfl ?_)) (fun _ hw => HpOk.pick (H := [_, _]) hw [0, 1] 2 rfl)
        · skip
          obtain ⟨l4, v4⟩ := x
          dsimp only at h
          unfold f_law13_Ring_j3 at h
          refine SX.re [(0, vI p0), (3, v2), (4, vI a1), (5, v4)] (rowT 70 2 v2 encKey l2 :: rowT 5 1 v4 eU8 l4 :: H) ?_ (by repeat' (first | exact trivial | refine And.intro rfl ?_))
          refine SX.region ?_
          obtain ⟨l7, hl7, h⟩ := bnd h
          refine SL.mv ⟨rfl, rfl, rfl, rfl⟩ rfl ?_
          refine SL.mv ⟨rfl, rfl, rfl, rfl⟩ rfl ?_
          refine SL.cv ⟨rfl, rfl, rfl, rfl⟩ rfl (Cv.i_32 ty3 ty22) ?_
          refine SL.mv ⟨rfl, rfl, rfl, rfl⟩ rfl ?_
          refine SL.btsT 1 ⟨rfl, rfl, rfl, rfl⟩ ty51 ty5 ty9 rfl rfl ?_
          refine SL.bld [_, _] ⟨rfl, rfl, rfl, rfl⟩ pl70 pk70 ze70 ⟨rfl, rfl, trivial⟩ rfl ?_
          refine SL.bsl [_] ⟨rfl, rfl, rfl, rfl⟩ ty31 sz70 ze70 ⟨rfl, trivial⟩ rfl rfl rfl (by first | (simp [Value.cells]; done) | (intro v hv; simp only [List.mem_cons, List.not_mem_nil, or_false] at hv; rcases hv with rfl <;> rfl)) rfl rfl (fun _ => trivial) fun b2 => ?_
          refine SL.ownT encKey 2 ([(⟨toU32 a1, l4⟩ : KeyA)] : List KeyA) rfl (fun _ => rfl) rfl ?_
          refine SL.appT 1 hl7 (sz := 2) (enc := encKey) (fun _ => rfl) ⟨rfl, rfl, rfl, rfl⟩ ty31 sz70 by70 ze70 rfl (by decide) rfl rfl rfl rfl (cells_rowA (sz := 2) (enc := encKey) 0 (fun _ => rfl) rfl) (by simp [encKey, Value.oneCell']) (fun _ => trivial) fun v7 => ?_
          refine SL.asg ⟨rfl, rfl, rfl, rfl⟩ rfl ?_
          refine SL.nil ?_
          refine SQ.blk ?_
          exact SQ.midD (l7, v7) h (by repeat' (first | exact trivial | refine And.intro rfl ?_)) (fun _ hw => HpOk.pick (H := [_, _, _]) hw [1] 3 rfl)
      · skip
        obtain ⟨l3, v3⟩ := x
        dsimp only at h
        unfold f_law13_Ring_j2 at h
        refine SX.re [(0, vI p0), (3, v3), (4, vI a1)] (rowT 70 2 v3 encKey l3 :: H) ?_ (by repeat' (first | exact trivial | refine And.intro rfl ?_))
        refine SX.region ?_
        obtain ⟨i_1, ei_1, h⟩ := retE h
        refine SL.mv ⟨rfl, rfl, rfl, rfl⟩ rfl ?_
        refine SL.bin ⟨rfl, rfl, rfl, rfl⟩ rfl rfl Bin.addW ?_
        refine SL.asgX (u := vI i_1) ⟨rfl, rfl, rfl, rfl⟩ rfl (congrArg vI ei_1) ?_
        refine SL.nil ?_
        exact SQ.again (m1, l3, v3, i_1) h (Nat.lt_succ_self _) (by repeat' (first | exact trivial | refine And.intro rfl ?_)) (fun _ hw => HpOk.pick (H := [_]) hw [0] 1 rfl)
    · skip
      replace h := cF hc1 h
      refine SX.exit ?_
      refine SQ.thnE ?_
      refine SQ.lpE ?_
      refine SQ.blkE ?_
      exact SQ.midD (l2, v2) h (by repeat' (first | exact trivial | refine And.intro rfl ?_)) (fun _ hw => HpOk.pick (H := [_]) hw [0] 1 rfl)
  · skip
    obtain ⟨l1, v1⟩ := x
    dsimp only at h
    unfold f_law13_Ring_j1 at h
    refine SX.re [(3, v1)] (rowT 70 2 v1 encKey l1 :: H) ?_ (by repeat' (first | exact trivial | refine And.intro rfl ?_))
    refine SX.sr ?_
    refine SL.mv ⟨rfl, rfl, rfl, rfl⟩ rfl ?_
    refine SL.asg ⟨rfl, rfl, rfl, rfl⟩ rfl ?_
    refine SL.nx ?_
    refine SX.ret ?_
    obtain rfl := Option.some.inj h
    exact SQ.fret (res1 rfl rfl) (ret_of (M := [_]) ⟨v1, rfl, rfl⟩ fun _ hw => HpOk.pick (H := [_]) hw [0] 1 rfl)

def f_vault_Vault_Free (p0 : VltA) (p0_1 : DevA) : Option Int :=
  (f_device_Device_Blocks p0_1).bind fun y1 =>
  ret (wI ((wI (y1 - 2)) - (p0.taken.length : Int))) fun x1 =>
  some x1
set_option maxRecDepth 100000 in
theorem c_vault_Vault_Free {b0_ : Nat} {v0x1_ : Value} {m0x5_ : Nat} {b0x0_ : Nat} {v0x0x4_ : Value} {m0x0x5_ : Nat} {m0x0x6_ : Nat} {p0 : VltA} {p0_1 : DevA} {r : Int} (h : f_vault_Vault_Free p0 p0_1 = some r)  : Con Tryd.prog K w0 13 [vP b0_ 0] [own b0_ (.cells #[vP b0x0_ 0, v0x1_, vU32 p0.gen, vU32 p0.boot, vU64 p0.seals, .map (some m0x5_)] 74), rowT 70 2 v0x1_ encKey p0.ring, mapC m0x5_ vU32 vB p0.taken, own b0x0_ (.cells #[vB p0_1.off, vB p0_1.isCut, vI p0_1.lasts, vI p0_1.counts, v0x0x4_, .map (some m0x0x5_), .map (some m0x0x6_), vU64 p0_1.rcnt, vS p0_1.rtag, vU32 p0_1.rboots] 66), rowT 9 1 v0x0x4_ eS p0_1.blocks, mapC m0x0x5_ vU32 vS p0_1.pend, mapC m0x0x6_ vU32 vB p0_1.bad] H (fun u M => u = vI r ∧ M = [own b0_ (.cells #[vP b0x0_ 0, v0x1_, vU32 p0.gen, vU32 p0.boot, vU64 p0.seals, .map (some m0x5_)] 74), rowT 70 2 v0x1_ encKey p0.ring, mapC m0x5_ vU32 vB p0.taken, own b0x0_ (.cells #[vB p0_1.off, vB p0_1.isCut, vI p0_1.lasts, vI p0_1.counts, v0x0x4_, .map (some m0x0x5_), .map (some m0x0x6_), vU64 p0_1.rcnt, vS p0_1.rtag, vU32 p0_1.rboots] 66), rowT 9 1 v0x0x4_ eS p0_1.blocks, mapC m0x0x5_ vU32 vS p0_1.pend, mapC m0x0x6_ vU32 vB p0_1.bad]) := by
  unfold f_vault_Vault_Free at h
  refine Con.enter Tryd.func13 rfl rfl ?_
  refine SX.sr ?_
  refine SL.asg ⟨rfl, rfl, rfl, rfl⟩ rfl ?_
  refine SL.nx ?_
  refine SX.seq ?_
  refine SX.sr ?_
  refine SL.mv ⟨rfl, rfl, rfl, rfl⟩ rfl ?_
  refine SL.eqPN ⟨rfl, rfl, rfl, rfl⟩ ty28 rfl rfl ?_
  refine SL.nx ?_
  refine SX.condF rfl ?_
  refine SX.skip ?_
  refine SQ.thn ?_
  refine SX.seq ?_
  obtain ⟨y1, hy1, h⟩ := bnd h
  obtain ⟨x1, ex1, h⟩ := retE h
  refine SX.drawI mix [0, 2] (Pl.ap [(true, 0), (true, 1), (true, 2), (true, 3), (true, 6), (true, 7), (true, 8), (true, 9), (false, 4), (true, 5), (false, 10)] (.last 11 (Pl.of [(false, 12)]))) (by kernel_rfl) ?_
  refine SL.mv ⟨rfl, rfl, rfl, rfl⟩ rfl ?_
  refine SL.nchk ⟨rfl, rfl, rfl, rfl⟩ rfl ?_
  refine SL.fa ⟨rfl, rfl, rfl, rfl⟩ rfl fo74_0 ?_
  refine SL.ld ⟨rfl, rfl, rfl, rfl⟩ sc24 rfl (cell_own 0 rfl rfl) ?_
  refine SL.mv ⟨rfl, rfl, rfl, rfl⟩ rfl ?_
  refine SL.nchk ⟨rfl, rfl, rfl, rfl⟩ rfl ?_
  refine SL.fa ⟨rfl, rfl, rfl, rfl⟩ rfl fo74_5 ?_
  refine SL.ld ⟨rfl, rfl, rfl, rfl⟩ sc60 rfl (cell_own 0 rfl rfl) ?_
  refine SL.pick [3, 4, 5, 6, 0, 1, 2] 7 ?_
  refine SL.call (vs := [_]) (Hin := [_, _, _, _]) (Hr := _ :: _ :: _ :: _) ⟨rfl, rfl, rfl, rfl⟩ rfl ⟨rfl, trivial⟩ cal29 rfl rfl (c_device_Device_Blocks hy1) ?_
  rintro _ _ ⟨rfl, rfl⟩
  refine ⟨⟨⟨4, rfl⟩, ⟨6, rfl⟩, trivial⟩, ?_⟩
  refine SL.bin ⟨rfl, rfl, rfl, rfl⟩ rfl rfl Bin.subW ?_
  refine SL.lenM 6 ⟨rfl, rfl, rfl, rfl⟩ ty60 rfl rfl ?_
  refine SL.last ?_
  refine SL.bin ⟨rfl, rfl, rfl, rfl⟩ rfl rfl Bin.subW ?_
  refine SL.asgX (u := vI x1) ⟨rfl, rfl, rfl, rfl⟩ rfl (congrArg vI ex1) ?_
  refine SL.nx ?_
  refine SX.ret ?_
  obtain rfl := Option.some.inj h
  exact SQ.fret (res1 rfl rfl) (ret_of (M := [_, _, _, _, _, _, _]) ⟨rfl, rfl⟩ fun _ hw => HpOk.pick (H := [_, _, _, _, _, _, _]) hw [4, 5, 6, 0, 1, 2, 3] 7 rfl)

def f_vault_Vault_Seals (p0 : VltA) (p0_1 : DevA) : Option UInt64 :=
  some p0.seals
set_option maxRecDepth 100000 in
theorem c_vault_Vault_Seals {b0_ : Nat} {v0x1_ : Value} {m0x5_ : Nat} {b0x0_ : Nat} {v0x0x4_ : Value} {m0x0x5_ : Nat} {m0x0x6_ : Nat} {p0 : VltA} {p0_1 : DevA} {r : UInt64} (h : f_vault_Vault_Seals p0 p0_1 = some r)  : Con Tryd.prog K w0 14 [vP b0_ 0] [own b0_ (.cells #[vP b0x0_ 0, v0x1_, vU32 p0.gen, vU32 p0.boot, vU64 p0.seals, .map (some m0x5_)] 74), rowT 70 2 v0x1_ encKey p0.ring, mapC m0x5_ vU32 vB p0.taken, own b0x0_ (.cells #[vB p0_1.off, vB p0_1.isCut, vI p0_1.lasts, vI p0_1.counts, v0x0x4_, .map (some m0x0x5_), .map (some m0x0x6_), vU64 p0_1.rcnt, vS p0_1.rtag, vU32 p0_1.rboots] 66), rowT 9 1 v0x0x4_ eS p0_1.blocks, mapC m0x0x5_ vU32 vS p0_1.pend, mapC m0x0x6_ vU32 vB p0_1.bad] H (fun u M => u = vU64 r ∧ M = [own b0_ (.cells #[vP b0x0_ 0, v0x1_, vU32 p0.gen, vU32 p0.boot, vU64 p0.seals, .map (some m0x5_)] 74), rowT 70 2 v0x1_ encKey p0.ring, mapC m0x5_ vU32 vB p0.taken, own b0x0_ (.cells #[vB p0_1.off, vB p0_1.isCut, vI p0_1.lasts, vI p0_1.counts, v0x0x4_, .map (some m0x0x5_), .map (some m0x0x6_), vU64 p0_1.rcnt, vS p0_1.rtag, vU32 p0_1.rboots] 66), rowT 9 1 v0x0x4_ eS p0_1.blocks, mapC m0x0x5_ vU32 vS p0_1.pend, mapC m0x0x6_ vU32 vB p0_1.bad]) := by
  unfold f_vault_Vault_Seals at h
  refine Con.enter Tryd.func14 rfl rfl ?_
  refine SX.sr ?_
  refine SL.asg ⟨rfl, rfl, rfl, rfl⟩ rfl ?_
  refine SL.nx ?_
  refine SX.seq ?_
  refine SX.sr ?_
  refine SL.mv ⟨rfl, rfl, rfl, rfl⟩ rfl ?_
  refine SL.eqPN ⟨rfl, rfl, rfl, rfl⟩ ty28 rfl rfl ?_
  refine SL.nx ?_
  refine SX.condF rfl ?_
  refine SX.skip ?_
  refine SQ.thn ?_
  refine SX.sr ?_
  refine SL.mv ⟨rfl, rfl, rfl, rfl⟩ rfl ?_
  refine SL.nchk ⟨rfl, rfl, rfl, rfl⟩ rfl ?_
  refine SL.fa ⟨rfl, rfl, rfl, rfl⟩ rfl fo74_4 ?_
  refine SL.ld ⟨rfl, rfl, rfl, rfl⟩ sc34 rfl (cell_own 0 rfl rfl) ?_
  refine SL.asg ⟨rfl, rfl, rfl, rfl⟩ rfl ?_
  refine SL.nx ?_
  refine SX.ret ?_
  obtain rfl := Option.some.inj h
  exact SQ.fret (res1 rfl rfl) (ret_of (M := [_, _, _, _, _, _, _]) ⟨rfl, rfl⟩ fun _ hw => HpOk.pick (H := [_, _, _, _, _, _, _]) hw [0, 1, 2, 3, 4, 5, 6] 7 rfl)

def f_vault_Vault_Turn_j1 (p0 : VltA) (y1 : KeyA × Int) (l1 : List KeyA) (y2 : UInt32) : Option (Int × VltA) :=
  some (y1.2, { p0 with ring := l1, gen := y2 })
def f_vault_Vault_Turn (p0 : VltA) (p0_1 : DevA) (p1 : List KeyA) (p2 : UInt32) : Option (Int × VltA) :=
  (findO p1 p2).bind fun y1 =>
  cond (decide (y1.2 = 0))
  (
    (appL 24 [] p1).bind fun l2 =>
    f_vault_Vault_Turn_j1 p0 y1 l2 p2)
  (
    f_vault_Vault_Turn_j1 p0 y1 p0.ring p0.gen)
set_option maxRecDepth 100000 in
theorem c_vault_Vault_Turn {b0_ : Nat} {v0x1_ : Value} {m0x5_ : Nat} {b0x0_ : Nat} {v0x0x4_ : Value} {m0x0x5_ : Nat} {m0x0x6_ : Nat} {p0 : VltA} {p0_1 : DevA} {v1_ : Value} {p1 : List KeyA} {p2 : UInt32} {r : Int × VltA} (h : f_vault_Vault_Turn p0 p0_1 p1 p2 = some r) (hs1_ : SlOf K w0 encKey 2 v1_ p1) : Con Tryd.prog K w0 22 [vP b0_ 0, v1_, vU32 p2] [own b0_ (.cells #[vP b0x0_ 0, v0x1_, vU32 p0.gen, vU32 p0.boot, vU64 p0.seals, .map (some m0x5_)] 74), rowT 70 2 v0x1_ encKey p0.ring, mapC m0x5_ vU32 vB p0.taken, own b0x0_ (.cells #[vB p0_1.off, vB p0_1.isCut, vI p0_1.lasts, vI p0_1.counts, v0x0x4_, .map (some m0x0x5_), .map (some m0x0x6_), vU64 p0_1.rcnt, vS p0_1.rtag, vU32 p0_1.rboots] 66), rowT 9 1 v0x0x4_ eS p0_1.blocks, mapC m0x0x5_ vU32 vS p0_1.pend, mapC m0x0x6_ vU32 vB p0_1.bad] H (fun u M => ∃ vs0_0_1 : Value, u = vI r.1 ∧ M = [own b0_ (.cells #[vP b0x0_ 0, vs0_0_1, vU32 r.2.gen, vU32 r.2.boot, vU64 r.2.seals, .map (some m0x5_)] 74), rowT 70 2 vs0_0_1 encKey r.2.ring, mapC m0x5_ vU32 vB r.2.taken, own b0x0_ (.cells #[vB p0_1.off, vB p0_1.isCut, vI p0_1.lasts, vI p0_1.counts, v0x0x4_, .map (some m0x0x5_), .map (some m0x0x6_), vU64 p0_1.rcnt, vS p0_1.rtag, vU32 p0_1.rboots] 66), rowT 9 1 v0x0x4_ eS p0_1.blocks, mapC m0x0x5_ vU32 vS p0_1.pend, mapC m0x0x6_ vU32 vB p0_1.bad]) := by
  unfold f_vault_Vault_Turn at h
  refine Con.enter Tryd.func22 rfl rfl ?_
  refine SX.sr ?_
  refine SL.asg ⟨rfl, rfl, rfl, rfl⟩ rfl ?_
  refine SL.nx ?_
  refine SX.seq ?_
  refine SX.sr ?_
  refine SL.mv ⟨rfl, rfl, rfl, rfl⟩ rfl ?_
  refine SL.eqPN ⟨rfl, rfl, rfl, rfl⟩ ty28 rfl rfl ?_
  refine SL.nx ?_
  refine SX.condF rfl ?_
  refine SX.skip ?_
  refine SQ.thn ?_
  refine SX.sr ?_
  obtain ⟨y1, hy1, h⟩ := bnd h
  refine SL.mv ⟨rfl, rfl, rfl, rfl⟩ rfl ?_
  refine SL.mv ⟨rfl, rfl, rfl, rfl⟩ rfl ?_
  refine SL.call (vs := [_, _]) (Hin := []) (Hr := _ :: _ :: _ :: _ :: _ :: _ :: _ :: _) ⟨rfl, rfl, rfl, rfl⟩ rfl ⟨rfl, rfl, trivial⟩ cal28 rfl rfl (w_find hy1 hs1_) ?_
  rintro _ _ ⟨rfl, rfl⟩
  refine ⟨trivial, ?_⟩
  refine SL.mv ⟨rfl, rfl, rfl, rfl⟩ rfl ?_
  refine SL.ext ⟨rfl, rfl, rfl, rfl⟩ rfl rfl ?_
  refine SL.ext ⟨rfl, rfl, rfl, rfl⟩ rfl rfl ?_
  refine SL.alloc ⟨rfl, rfl, rfl, rfl⟩ ze70 (fun _ => trivial) fun b1 => ?_
  refine SL.st 0 ⟨rfl, rfl, rfl⟩ rfl rfl rfl sz70 rfl rfl rfl trivial ?_
  refine SL.asg ⟨rfl, rfl, rfl, rfl⟩ rfl ?_
  refine SL.nx ?_
  refine SX.meetD (α := List KeyA × Value × UInt32) (fun x => f_vault_Vault_Turn_j1 p0 y1 x.1 x.2.2 = some r) (fun x => [(0, vP b0_ 0), (8, vI y1.2)]) (fun x => own b0_ (.cells #[vP b0x0_ 0, x.2.1, vU32 x.2.2, vU32 p0.boot, vU64 p0.seals, .map (some m0x5_)] 74) :: own b0x0_ (.cells #[vB p0_1.off, vB p0_1.isCut, vI p0_1.lasts, vI p0_1.counts, v0x0x4_, .map (some m0x0x5_), .map (some m0x0x6_), vU64 p0_1.rcnt, vS p0_1.rtag, vU32 p0_1.rboots] 66) :: rowT 9 1 v0x0x4_ eS p0_1.blocks :: mapC m0x0x5_ vU32 vS p0_1.pend :: mapC m0x0x6_ vU32 vB p0_1.bad :: rowT 70 2 x.2.1 encKey x.1 :: mapC m0x5_ vU32 vB p0.taken :: H) ?_ (fun x D h => ?_)
  · skip
    refine SX.sr ?_
    refine SL.mv ⟨rfl, rfl, rfl, rfl⟩ rfl ?_
    refine SL.bin ⟨rfl, rfl, rfl, rfl⟩ rfl rfl Bin.eqI ?_
    refine SL.nx ?_
    refine SX.cond rfl (fun hc2 => ?_) (fun hc2 => ?_)
    · skip
      replace h := cT hc2 h
      refine SX.region ?_
      obtain ⟨l2, hl2, h⟩ := bnd h
      refine SL.mv ⟨rfl, rfl, rfl, rfl⟩ rfl ?_
      refine SL.mv ⟨rfl, rfl, rfl, rfl⟩ rfl ?_
      refine SL.bsl0 ⟨rfl, rfl, rfl, rfl⟩ ty31 sz70 (fun _ => trivial) fun b2 => ?_
      refine SL.ownT encKey 2 ([] : List KeyA) rfl (fun _ => rfl) rfl ?_
      refine SL.mv ⟨rfl, rfl, rfl, rfl⟩ rfl ?_
      refine SL.appV 0 hl2 hs1_ (sz := 2) (enc := encKey) (fun _ => rfl) ⟨rfl, rfl, rfl, rfl⟩ ty31 sz70 by70 ze70 rfl (by decide) rfl rfl rfl (by simp [encKey, Value.oneCell']) (fun _ => trivial) fun v2 => ?_
      refine SL.mv ⟨rfl, rfl, rfl, rfl⟩ rfl ?_
      refine SL.nchk ⟨rfl, rfl, rfl, rfl⟩ rfl ?_
      refine SL.fa ⟨rfl, rfl, rfl, rfl⟩ rfl fo74_1 ?_
      refine SL.rowV 0 rfl fun hv1 ho1 => ?_
      refine SL.stR 2 ⟨rfl, rfl, rfl⟩ rfl rfl rfl sz31 hv1 ho1 rfl trivial ?_
      refine SL.nchk ⟨rfl, rfl, rfl, rfl⟩ rfl ?_
      refine SL.fa ⟨rfl, rfl, rfl, rfl⟩ rfl fo74_2 ?_
      refine SL.st 2 ⟨rfl, rfl, rfl⟩ rfl rfl rfl sz22 rfl rfl rfl trivial ?_
      refine SL.nil ?_
      exact SQ.midD (l2, v2, p2) h (by repeat' (first | exact trivial | refine And.intro rfl ?_)) (fun _ hw => HpOk.pick (H := [_, _, _, _, _, _, _, _, _]) hw [2, 5, 6, 7, 8, 0, 4] 9 rfl)
    · skip
      replace h := cF hc2 h
      refine SX.skip ?_
      exact SQ.midD (p0.ring, v0x1_, p0.gen) h (by repeat' (first | exact trivial | refine And.intro rfl ?_)) (fun _ hw => HpOk.pick (H := [_, _, _, _, _, _, _, _]) hw [1, 4, 5, 6, 7, 2, 3] 8 rfl)
  · skip
    obtain ⟨l1, v1, y2⟩ := x
    dsimp only at h
    unfold f_vault_Vault_Turn_j1 at h
    refine SX.re [(0, vP b0_ 0), (8, vI y1.2)] (own b0_ (.cells #[vP b0x0_ 0, v1, vU32 y2, vU32 p0.boot, vU64 p0.seals, .map (some m0x5_)] 74) :: own b0x0_ (.cells #[vB p0_1.off, vB p0_1.isCut, vI p0_1.lasts, vI p0_1.counts, v0x0x4_, .map (some m0x0x5_), .map (some m0x0x6_), vU64 p0_1.rcnt, vS p0_1.rtag, vU32 p0_1.rboots] 66) :: rowT 9 1 v0x0x4_ eS p0_1.blocks :: mapC m0x0x5_ vU32 vS p0_1.pend :: mapC m0x0x6_ vU32 vB p0_1.bad :: rowT 70 2 v1 encKey l1 :: mapC m0x5_ vU32 vB p0.taken :: H) ?_ (by repeat' (first | exact trivial | refine And.intro rfl ?_))
    refine SX.sr ?_
    refine SL.mv ⟨rfl, rfl, rfl, rfl⟩ rfl ?_
    refine SL.asg ⟨rfl, rfl, rfl, rfl⟩ rfl ?_
    refine SL.nx ?_
    refine SX.ret ?_
    obtain rfl := Option.some.inj h
    exact SQ.fret (res1 rfl rfl) (ret_of (M := [_, _, _, _, _, _, _]) ⟨v1, rfl, rfl⟩ fun _ hw => HpOk.pick (H := [_, _, _, _, _, _, _]) hw [0, 5, 6, 1, 2, 3, 4] 7 rfl)

def f_vault_Vault_isPage (p0 : VltA) (p0_1 : DevA) (p1 : UInt32) : Option Bool :=
  (andO (decide (2 ≤ p1)) ((f_device_Device_Blocks p0_1).bind fun y1 => some (decide ((p1.toNat : Int) < y1)))).bind fun y2 =>
  some y2
set_option maxRecDepth 100000 in
theorem c_vault_Vault_isPage {b0_ : Nat} {v0x1_ : Value} {m0x5_ : Nat} {b0x0_ : Nat} {v0x0x4_ : Value} {m0x0x5_ : Nat} {m0x0x6_ : Nat} {p0 : VltA} {p0_1 : DevA} {p1 : UInt32} {r : Bool} (h : f_vault_Vault_isPage p0 p0_1 p1 = some r)  : Con Tryd.prog K w0 38 [vP b0_ 0, vU32 p1] [own b0_ (.cells #[vP b0x0_ 0, v0x1_, vU32 p0.gen, vU32 p0.boot, vU64 p0.seals, .map (some m0x5_)] 74), rowT 70 2 v0x1_ encKey p0.ring, mapC m0x5_ vU32 vB p0.taken, own b0x0_ (.cells #[vB p0_1.off, vB p0_1.isCut, vI p0_1.lasts, vI p0_1.counts, v0x0x4_, .map (some m0x0x5_), .map (some m0x0x6_), vU64 p0_1.rcnt, vS p0_1.rtag, vU32 p0_1.rboots] 66), rowT 9 1 v0x0x4_ eS p0_1.blocks, mapC m0x0x5_ vU32 vS p0_1.pend, mapC m0x0x6_ vU32 vB p0_1.bad] H (fun u M => u = vB r ∧ M = [own b0_ (.cells #[vP b0x0_ 0, v0x1_, vU32 p0.gen, vU32 p0.boot, vU64 p0.seals, .map (some m0x5_)] 74), rowT 70 2 v0x1_ encKey p0.ring, mapC m0x5_ vU32 vB p0.taken, own b0x0_ (.cells #[vB p0_1.off, vB p0_1.isCut, vI p0_1.lasts, vI p0_1.counts, v0x0x4_, .map (some m0x0x5_), .map (some m0x0x6_), vU64 p0_1.rcnt, vS p0_1.rtag, vU32 p0_1.rboots] 66), rowT 9 1 v0x0x4_ eS p0_1.blocks, mapC m0x0x5_ vU32 vS p0_1.pend, mapC m0x0x6_ vU32 vB p0_1.bad]) := by
  unfold f_vault_Vault_isPage at h
  refine Con.enter Tryd.func38 rfl rfl ?_
  refine SX.sr ?_
  refine SL.asg ⟨rfl, rfl, rfl, rfl⟩ rfl ?_
  refine SL.nx ?_
  refine SX.sr ?_
  obtain ⟨y2, hy2, h⟩ := bnd h
  refine SL.mv ⟨rfl, rfl, rfl, rfl⟩ rfl ?_
  refine SL.bin ⟨rfl, rfl, rfl, rfl⟩ rfl rfl (Bin.ge32 (b := 2)) ?_
  refine SL.mv ⟨rfl, rfl, rfl, rfl⟩ rfl ?_
  refine SL.andN 7 9 16 hy2 rfl (fun hb hg1 k => ?_) (fun hb k => ?_) ?_
  · skip
    obtain ⟨y1, hy1, hg1⟩ := bnd hg1
    obtain rfl := Option.some.inj hg1
    refine SL.mv ⟨rfl, rfl, rfl, rfl⟩ rfl ?_
    refine SL.cv ⟨rfl, rfl, rfl, rfl⟩ rfl (Cv.u32_I ty22 ty2) ?_
    refine SL.mv ⟨rfl, rfl, rfl, rfl⟩ rfl ?_
    refine SL.nchk ⟨rfl, rfl, rfl, rfl⟩ rfl ?_
    refine SL.fa ⟨rfl, rfl, rfl, rfl⟩ rfl fo74_0 ?_
    refine SL.ld ⟨rfl, rfl, rfl, rfl⟩ sc24 rfl (cell_own 0 rfl rfl) ?_
    refine SL.pick [3, 4, 5, 6, 0, 1, 2] 7 ?_
    refine SL.call (vs := [_]) (Hin := [_, _, _, _]) (Hr := _ :: _ :: _ :: _) ⟨rfl, rfl, rfl, rfl⟩ rfl ⟨rfl, trivial⟩ cal29 rfl rfl (c_device_Device_Blocks hy1) ?_
    rintro _ _ ⟨rfl, rfl⟩
    refine ⟨trivial, ?_⟩
    refine SL.bin ⟨rfl, rfl, rfl, rfl⟩ rfl rfl Bin.ltI ?_
    refine SL.pk ⟨rfl, rfl, rfl, rfl⟩ rfl rfl ?_
    exact SL.mono (SL.heap k fun _ hw => HpOk.pick (H := [_, _, _, _, _, _, _]) hw [4, 5, 6, 0, 1, 2, 3] 7 rfl) (by repeat' (first | exact trivial | refine And.intro rfl ?_))
  · skip
    refine SL.pass rfl rfl rfl ?_
    refine SL.pass rfl rfl rfl ?_
    refine SL.pass rfl rfl rfl ?_
    refine SL.pass rfl rfl rfl ?_
    refine SL.pass rfl rfl rfl ?_
    refine SL.pass rfl rfl rfl ?_
    refine SL.pass rfl rfl rfl ?_
    refine SL.pass rfl rfl rfl ?_
    refine SL.pk ⟨rfl, rfl, rfl, rfl⟩ rfl rfl ?_
    exact k.mono (by repeat' (first | exact trivial | refine And.intro rfl ?_))
  refine SL.asg ⟨rfl, rfl, rfl, rfl⟩ rfl ?_
  refine SL.nx ?_
  refine SX.ret ?_
  obtain rfl := Option.some.inj h
  exact SQ.fret (res1 rfl rfl) (ret_of (M := [_, _, _, _, _, _, _]) ⟨rfl, rfl⟩ fun _ hw => HpOk.pick (H := [_, _, _, _, _, _, _]) hw [0, 1, 2, 3, 4, 5, 6] 7 rfl)

def f_vault_Vault_Take (p0 : VltA) (p0_1 : DevA) (p1 : UInt32) : Option (Int × VltA) :=
  (f_vault_Vault_isPage p0 p0_1 p1).bind fun y1 =>
  ret ((!y1) || ((mget p0.taken p1).getD false)) fun x1 =>
  cond x1
  (
    some (2, p0))
  (
    (mputI p0.taken p1 true).bind fun l1 =>
    some (0, { p0 with taken := l1 }))
set_option maxRecDepth 100000 in
theorem c_vault_Vault_Take {b0_ : Nat} {v0x1_ : Value} {m0x5_ : Nat} {b0x0_ : Nat} {v0x0x4_ : Value} {m0x0x5_ : Nat} {m0x0x6_ : Nat} {p0 : VltA} {p0_1 : DevA} {p1 : UInt32} {r : Int × VltA} (h : f_vault_Vault_Take p0 p0_1 p1 = some r)  : Con Tryd.prog K w0 24 [vP b0_ 0, vU32 p1] [own b0_ (.cells #[vP b0x0_ 0, v0x1_, vU32 p0.gen, vU32 p0.boot, vU64 p0.seals, .map (some m0x5_)] 74), rowT 70 2 v0x1_ encKey p0.ring, mapC m0x5_ vU32 vB p0.taken, own b0x0_ (.cells #[vB p0_1.off, vB p0_1.isCut, vI p0_1.lasts, vI p0_1.counts, v0x0x4_, .map (some m0x0x5_), .map (some m0x0x6_), vU64 p0_1.rcnt, vS p0_1.rtag, vU32 p0_1.rboots] 66), rowT 9 1 v0x0x4_ eS p0_1.blocks, mapC m0x0x5_ vU32 vS p0_1.pend, mapC m0x0x6_ vU32 vB p0_1.bad] H (fun u M => u = vI r.1 ∧ M = [own b0_ (.cells #[vP b0x0_ 0, v0x1_, vU32 r.2.gen, vU32 r.2.boot, vU64 r.2.seals, .map (some m0x5_)] 74), rowT 70 2 v0x1_ encKey r.2.ring, mapC m0x5_ vU32 vB r.2.taken, own b0x0_ (.cells #[vB p0_1.off, vB p0_1.isCut, vI p0_1.lasts, vI p0_1.counts, v0x0x4_, .map (some m0x0x5_), .map (some m0x0x6_), vU64 p0_1.rcnt, vS p0_1.rtag, vU32 p0_1.rboots] 66), rowT 9 1 v0x0x4_ eS p0_1.blocks, mapC m0x0x5_ vU32 vS p0_1.pend, mapC m0x0x6_ vU32 vB p0_1.bad]) := by
  unfold f_vault_Vault_Take at h
  refine Con.enter Tryd.func24 rfl rfl ?_
  refine SX.sr ?_
  refine SL.asg ⟨rfl, rfl, rfl, rfl⟩ rfl ?_
  refine SL.nx ?_
  refine SX.seq ?_
  refine SX.block ?_
  refine SX.sr ?_
  refine SL.mv ⟨rfl, rfl, rfl, rfl⟩ rfl ?_
  refine SL.eqPN ⟨rfl, rfl, rfl, rfl⟩ ty28 rfl rfl ?_
  refine SL.asg ⟨rfl, rfl, rfl, rfl⟩ rfl ?_
  refine SL.nx ?_
  refine SX.condF rfl ?_
  refine SX.sr ?_
  obtain ⟨y1, hy1, h⟩ := bnd h
  obtain ⟨x1, ex1, h⟩ := retE h
  refine SL.mv ⟨rfl, rfl, rfl, rfl⟩ rfl ?_
  refine SL.mv ⟨rfl, rfl, rfl, rfl⟩ rfl ?_
  refine SL.call (vs := [_, _]) (Hin := [_, _, _, _, _, _, _]) (Hr := _) ⟨rfl, rfl, rfl, rfl⟩ rfl ⟨rfl, rfl, trivial⟩ cal38 rfl rfl (c_vault_Vault_isPage hy1) ?_
  rintro _ _ ⟨rfl, rfl⟩
  refine ⟨trivial, ?_⟩
  refine SL.not ⟨rfl, rfl, rfl, rfl⟩ rfl ?_
  refine SL.mv ⟨rfl, rfl, rfl, rfl⟩ rfl ?_
  refine SL.or (c := (mget p0.taken p1).getD false) 13 7 20 rfl (fun hb k => ?_) (fun hb k => ?_) ?_
  · skip
    refine SL.pass rfl rfl rfl ?_
    refine SL.pass rfl rfl rfl ?_
    refine SL.pass rfl rfl rfl ?_
    refine SL.pass rfl rfl rfl ?_
    refine SL.pass rfl rfl rfl ?_
    refine SL.pass rfl rfl rfl ?_
    refine SL.pk ⟨rfl, rfl, rfl, rfl⟩ rfl rfl ?_
    exact k.mono (by repeat' (first | exact trivial | refine And.intro rfl ?_))
  · skip
    refine SL.mv ⟨rfl, rfl, rfl, rfl⟩ rfl ?_
    refine SL.nchk ⟨rfl, rfl, rfl, rfl⟩ rfl ?_
    refine SL.fa ⟨rfl, rfl, rfl, rfl⟩ rfl fo74_5 ?_
    refine SL.ld ⟨rfl, rfl, rfl, rfl⟩ sc60 rfl (cell_own 0 rfl rfl) ?_
    refine SL.mv ⟨rfl, rfl, rfl, rfl⟩ rfl ?_
    refine SL.lkp (zv := false) 2 (MapE.u32B ty22) ⟨rfl, rfl, rfl, rfl⟩ ty60 ze4 rfl rfl rfl ?_
    refine SL.pk ⟨rfl, rfl, rfl, rfl⟩ rfl rfl ?_
    exact k.mono (by repeat' (first | exact trivial | refine And.intro rfl ?_))
  refine SL.asgX (u := vB x1) ⟨rfl, rfl, rfl, rfl⟩ rfl (congrArg vB ex1) ?_
  refine SL.nx ?_
  refine SX.cond rfl (fun hc2 => ?_) (fun hc2 => ?_)
  · skip
    replace h := cT hc2 h
    refine SX.sr ?_
    refine SL.asg ⟨rfl, rfl, rfl, rfl⟩ rfl ?_
    refine SL.nx ?_
    refine SX.ret ?_
    refine SQ.blkR ?_
    refine SQ.thnR ?_
    obtain rfl := Option.some.inj h
    exact SQ.fret (res1 rfl rfl) (ret_of (M := [_, _, _, _, _, _, _]) ⟨rfl, rfl⟩ fun _ hw => HpOk.pick (H := [_, _, _, _, _, _, _]) hw [0, 1, 2, 3, 4, 5, 6] 7 rfl)
  · skip
    replace h := cF hc2 h
    refine SX.skip ?_
    refine SQ.blk ?_
    refine SQ.thn ?_
    refine SX.sr ?_
    obtain ⟨l1, hl1, h⟩ := bnd h
    refine SL.mv ⟨rfl, rfl, rfl, rfl⟩ rfl ?_
    refine SL.nchk ⟨rfl, rfl, rfl, rfl⟩ rfl ?_
    refine SL.fa ⟨rfl, rfl, rfl, rfl⟩ rfl fo74_5 ?_
    refine SL.ld ⟨rfl, rfl, rfl, rfl⟩ sc60 rfl (cell_own 0 rfl rfl) ?_
    refine SL.mv ⟨rfl, rfl, rfl, rfl⟩ rfl ?_
    refine SL.mupN 2 hl1 (MapE.u32B ty22) ⟨rfl, rfl, rfl⟩ ty60 rfl rfl rfl rfl trivial ?_
    refine SL.nx ?_
    refine SX.sr ?_
    refine SL.asg ⟨rfl, rfl, rfl, rfl⟩ rfl ?_
    refine SL.nx ?_
    refine SX.ret ?_
    obtain rfl := Option.some.inj h
    exact SQ.fret (res1 rfl rfl) (ret_of (M := [_, _, _, _, _, _, _]) ⟨rfl, rfl⟩ fun _ hw => HpOk.pick (H := [_, _, _, _, _, _, _]) hw [0, 1, 2, 3, 4, 5, 6] 7 rfl)

def f_vault_Vault_Give (p0 : VltA) (p0_1 : DevA) (p1 : UInt32) : Option (Int × VltA) :=
  (f_vault_Vault_isPage p0 p0_1 p1).bind fun y1 =>
  ret ((!y1) || (!((mget p0.taken p1).getD false))) fun x1 =>
  cond x1
  (
    some (2, p0))
  (
    some (0, { p0 with taken := mdel p0.taken p1 }))
set_option maxRecDepth 100000 in
theorem c_vault_Vault_Give {b0_ : Nat} {v0x1_ : Value} {m0x5_ : Nat} {b0x0_ : Nat} {v0x0x4_ : Value} {m0x0x5_ : Nat} {m0x0x6_ : Nat} {p0 : VltA} {p0_1 : DevA} {p1 : UInt32} {r : Int × VltA} (h : f_vault_Vault_Give p0 p0_1 p1 = some r)  : Con Tryd.prog K w0 25 [vP b0_ 0, vU32 p1] [own b0_ (.cells #[vP b0x0_ 0, v0x1_, vU32 p0.gen, vU32 p0.boot, vU64 p0.seals, .map (some m0x5_)] 74), rowT 70 2 v0x1_ encKey p0.ring, mapC m0x5_ vU32 vB p0.taken, own b0x0_ (.cells #[vB p0_1.off, vB p0_1.isCut, vI p0_1.lasts, vI p0_1.counts, v0x0x4_, .map (some m0x0x5_), .map (some m0x0x6_), vU64 p0_1.rcnt, vS p0_1.rtag, vU32 p0_1.rboots] 66), rowT 9 1 v0x0x4_ eS p0_1.blocks, mapC m0x0x5_ vU32 vS p0_1.pend, mapC m0x0x6_ vU32 vB p0_1.bad] H (fun u M => u = vI r.1 ∧ M = [own b0_ (.cells #[vP b0x0_ 0, v0x1_, vU32 r.2.gen, vU32 r.2.boot, vU64 r.2.seals, .map (some m0x5_)] 74), rowT 70 2 v0x1_ encKey r.2.ring, mapC m0x5_ vU32 vB r.2.taken, own b0x0_ (.cells #[vB p0_1.off, vB p0_1.isCut, vI p0_1.lasts, vI p0_1.counts, v0x0x4_, .map (some m0x0x5_), .map (some m0x0x6_), vU64 p0_1.rcnt, vS p0_1.rtag, vU32 p0_1.rboots] 66), rowT 9 1 v0x0x4_ eS p0_1.blocks, mapC m0x0x5_ vU32 vS p0_1.pend, mapC m0x0x6_ vU32 vB p0_1.bad]) := by
  unfold f_vault_Vault_Give at h
  refine Con.enter Tryd.func25 rfl rfl ?_
  refine SX.sr ?_
  refine SL.asg ⟨rfl, rfl, rfl, rfl⟩ rfl ?_
  refine SL.nx ?_
  refine SX.seq ?_
  refine SX.block ?_
  refine SX.sr ?_
  refine SL.mv ⟨rfl, rfl, rfl, rfl⟩ rfl ?_
  refine SL.eqPN ⟨rfl, rfl, rfl, rfl⟩ ty28 rfl rfl ?_
  refine SL.asg ⟨rfl, rfl, rfl, rfl⟩ rfl ?_
  refine SL.nx ?_
  refine SX.condF rfl ?_
  refine SX.sr ?_
  obtain ⟨y1, hy1, h⟩ := bnd h
  obtain ⟨x1, ex1, h⟩ := retE h
  refine SL.mv ⟨rfl, rfl, rfl, rfl⟩ rfl ?_
  refine SL.mv ⟨rfl, rfl, rfl, rfl⟩ rfl ?_
  refine SL.call (vs := [_, _]) (Hin := [_, _, _, _, _, _, _]) (Hr := _) ⟨rfl, rfl, rfl, rfl⟩ rfl ⟨rfl, rfl, trivial⟩ cal38 rfl rfl (c_vault_Vault_isPage hy1) ?_
  rintro _ _ ⟨rfl, rfl⟩
  refine ⟨trivial, ?_⟩
  refine SL.not ⟨rfl, rfl, rfl, rfl⟩ rfl ?_
  refine SL.mv ⟨rfl, rfl, rfl, rfl⟩ rfl ?_
  refine SL.or (c := !((mget p0.taken p1).getD false)) 13 8 21 rfl (fun hb k => ?_) (fun hb k => ?_) ?_
  · skip
    refine SL.pass rfl rfl rfl ?_
    refine SL.pass rfl rfl rfl ?_
    refine SL.pass rfl rfl rfl ?_
    refine SL.pass rfl rfl rfl ?_
    refine SL.pass rfl rfl rfl ?_
    refine SL.pass rfl rfl rfl ?_
    refine SL.pass rfl rfl rfl ?_
    refine SL.pk ⟨rfl, rfl, rfl, rfl⟩ rfl rfl ?_
    exact k.mono (by repeat' (first | exact trivial | refine And.intro rfl ?_))
  · skip
    refine SL.mv ⟨rfl, rfl, rfl, rfl⟩ rfl ?_
    refine SL.nchk ⟨rfl, rfl, rfl, rfl⟩ rfl ?_
    refine SL.fa ⟨rfl, rfl, rfl, rfl⟩ rfl fo74_5 ?_
    refine SL.ld ⟨rfl, rfl, rfl, rfl⟩ sc60 rfl (cell_own 0 rfl rfl) ?_
    refine SL.mv ⟨rfl, rfl, rfl, rfl⟩ rfl ?_
    refine SL.lkp (zv := false) 2 (MapE.u32B ty22) ⟨rfl, rfl, rfl, rfl⟩ ty60 ze4 rfl rfl rfl ?_
    refine SL.not ⟨rfl, rfl, rfl, rfl⟩ rfl ?_
    refine SL.pk ⟨rfl, rfl, rfl, rfl⟩ rfl rfl ?_
    exact k.mono (by repeat' (first | exact trivial | refine And.intro rfl ?_))
  refine SL.asgX (u := vB x1) ⟨rfl, rfl, rfl, rfl⟩ rfl (congrArg vB ex1) ?_
  refine SL.nx ?_
  refine SX.cond rfl (fun hc2 => ?_) (fun hc2 => ?_)
  · skip
    replace h := cT hc2 h
    refine SX.sr ?_
    refine SL.asg ⟨rfl, rfl, rfl, rfl⟩ rfl ?_
    refine SL.nx ?_
    refine SX.ret ?_
    refine SQ.blkR ?_
    refine SQ.thnR ?_
    obtain rfl := Option.some.inj h
    exact SQ.fret (res1 rfl rfl) (ret_of (M := [_, _, _, _, _, _, _]) ⟨rfl, rfl⟩ fun _ hw => HpOk.pick (H := [_, _, _, _, _, _, _]) hw [0, 1, 2, 3, 4, 5, 6] 7 rfl)
  · skip
    replace h := cF hc2 h
    refine SX.skip ?_
    refine SQ.blk ?_
    refine SQ.thn ?_
    refine SX.sr ?_
    refine SL.mv ⟨rfl, rfl, rfl, rfl⟩ rfl ?_
    refine SL.nchk ⟨rfl, rfl, rfl, rfl⟩ rfl ?_
    refine SL.fa ⟨rfl, rfl, rfl, rfl⟩ rfl fo74_5 ?_
    refine SL.ld ⟨rfl, rfl, rfl, rfl⟩ sc60 rfl (cell_own 0 rfl rfl) ?_
    refine SL.mv ⟨rfl, rfl, rfl, rfl⟩ rfl ?_
    refine SL.mdl 2 (MapE.u32B ty22) rfl rfl rfl rfl ty60 rfl rfl rfl trivial ?_
    refine SL.nx ?_
    refine SX.sr ?_
    refine SL.asg ⟨rfl, rfl, rfl, rfl⟩ rfl ?_
    refine SL.nx ?_
    refine SX.ret ?_
    obtain rfl := Option.some.inj h
    exact SQ.fret (res1 rfl rfl) (ret_of (M := [_, _, _, _, _, _, _]) ⟨rfl, rfl⟩ fun _ hw => HpOk.pick (H := [_, _, _, _, _, _, _]) hw [0, 1, 2, 3, 4, 5, 6] 7 rfl)

def f_vault_Vault_seal (T : List UInt32) (p0 : VltA) (p0_1 : DevA) (p1 : UInt32) (p2 : List UInt8) : Option (List UInt8 × Int × VltA × DevA) :=
  (sealO T p0.ring (⟨p1, p0.gen, p0.boot, p0.seals⟩ : HeadA) p2).bind fun y1 =>
  cond (!decide (y1.2 = 0))
  (
    some ([], y1.2, p0, p0_1))
  (
    (f_device_Device_Write p0_1 p1 y1.1).bind fun y2 =>
    cond (!decide (y2.1 = 0))
    (
      some ([], y2.1, { p0 with seals := p0.seals + 1 }, y2.2))
    (
      (tagO y1.1).bind fun y3 =>
      some (y3, 0, { p0 with seals := p0.seals + 1 }, y2.2)))
set_option maxRecDepth 100000 in
theorem c_vault_Vault_seal {T : List UInt32} {b0_ : Nat} {v0x1_ : Value} {m0x5_ : Nat} {b0x0_ : Nat} {v0x0x4_ : Value} {m0x0x5_ : Nat} {m0x0x6_ : Nat} {p0 : VltA} {p0_1 : DevA} {p1 : UInt32} {p2 : List UInt8} {r : List UInt8 × Int × VltA × DevA} (h : f_vault_Vault_seal T p0 p0_1 p1 p2 = some r) (hS : ShaT K w0 T) : Con Tryd.prog K w0 33 [vP b0_ 0, vU32 p1, vS p2] [own b0_ (.cells #[vP b0x0_ 0, v0x1_, vU32 p0.gen, vU32 p0.boot, vU64 p0.seals, .map (some m0x5_)] 74), rowT 70 2 v0x1_ encKey p0.ring, mapC m0x5_ vU32 vB p0.taken, own b0x0_ (.cells #[vB p0_1.off, vB p0_1.isCut, vI p0_1.lasts, vI p0_1.counts, v0x0x4_, .map (some m0x0x5_), .map (some m0x0x6_), vU64 p0_1.rcnt, vS p0_1.rtag, vU32 p0_1.rboots] 66), rowT 9 1 v0x0x4_ eS p0_1.blocks, mapC m0x0x5_ vU32 vS p0_1.pend, mapC m0x0x6_ vU32 vB p0_1.bad] H (fun u M => u = .tuple #[vS r.1, vI r.2.1] ∧ M = [own b0_ (.cells #[vP b0x0_ 0, v0x1_, vU32 r.2.2.1.gen, vU32 r.2.2.1.boot, vU64 r.2.2.1.seals, .map (some m0x5_)] 74), rowT 70 2 v0x1_ encKey r.2.2.1.ring, mapC m0x5_ vU32 vB r.2.2.1.taken, own b0x0_ (.cells #[vB r.2.2.2.off, vB r.2.2.2.isCut, vI r.2.2.2.lasts, vI r.2.2.2.counts, v0x0x4_, .map (some m0x0x5_), .map (some m0x0x6_), vU64 r.2.2.2.rcnt, vS r.2.2.2.rtag, vU32 r.2.2.2.rboots] 66), rowT 9 1 v0x0x4_ eS r.2.2.2.blocks, mapC m0x0x5_ vU32 vS r.2.2.2.pend, mapC m0x0x6_ vU32 vB r.2.2.2.bad]) := by
  unfold f_vault_Vault_seal at h
  refine Con.enter Tryd.func33 rfl rfl ?_
  refine SX.sr ?_
  refine SL.asg ⟨rfl, rfl, rfl, rfl⟩ rfl ?_
  refine SL.asg ⟨rfl, rfl, rfl, rfl⟩ rfl ?_
  refine SL.nx ?_
  refine SX.seq ?_
  refine SX.drawI mix [0] (Pl.ap [(true, 0), (true, 1), (true, 2), (true, 3), (true, 4), (true, 5), (true, 6), (true, 7), (true, 8), (true, 9), (true, 10), (true, 11), (true, 12), (true, 13), (false, 14)] (.last 15 .nil)) (by kernel_rfl) ?_
  refine SL.mv ⟨rfl, rfl, rfl, rfl⟩ rfl ?_
  refine SL.mv ⟨rfl, rfl, rfl, rfl⟩ rfl ?_
  refine SL.nchk ⟨rfl, rfl, rfl, rfl⟩ rfl ?_
  refine SL.fa ⟨rfl, rfl, rfl, rfl⟩ rfl fo74_2 ?_
  refine SL.ld ⟨rfl, rfl, rfl, rfl⟩ sc22 rfl (cell_own 0 rfl rfl) ?_
  refine SL.mv ⟨rfl, rfl, rfl, rfl⟩ rfl ?_
  refine SL.nchk ⟨rfl, rfl, rfl, rfl⟩ rfl ?_
  refine SL.fa ⟨rfl, rfl, rfl, rfl⟩ rfl fo74_3 ?_
  refine SL.ld ⟨rfl, rfl, rfl, rfl⟩ sc22 rfl (cell_own 0 rfl rfl) ?_
  refine SL.mv ⟨rfl, rfl, rfl, rfl⟩ rfl ?_
  refine SL.nchk ⟨rfl, rfl, rfl, rfl⟩ rfl ?_
  refine SL.fa ⟨rfl, rfl, rfl, rfl⟩ rfl fo74_4 ?_
  refine SL.ld ⟨rfl, rfl, rfl, rfl⟩ sc34 rfl (cell_own 0 rfl rfl) ?_
  refine SL.bld [_, _, _, _] ⟨rfl, rfl, rfl, rfl⟩ pl87 pk87 ze87 ⟨rfl, rfl, rfl, rfl, trivial⟩ rfl ?_
  refine SL.alloc ⟨rfl, rfl, rfl, rfl⟩ ze87 (fun _ => ⟨⟨1, rfl⟩, trivial⟩) fun b1 => ?_
  refine SL.last ?_
  refine SL.st 0 ⟨rfl, rfl, rfl⟩ rfl rfl rfl sz87 rfl rfl rfl trivial ?_
  refine SL.nx ?_
  refine SX.seq ?_
  obtain ⟨y1, hy1, h⟩ := bnd h
  refine SX.drawI mix [0, 1] (Pl.ap [(true, 0), (true, 1), (true, 2), (true, 3), (true, 4), (true, 5), (false, 6), (false, 7), (true, 8), (true, 9), (false, 10)] (.last 11 .nil)) (by kernel_rfl) ?_
  refine SL.mv ⟨rfl, rfl, rfl, rfl⟩ rfl ?_
  refine SL.nchk ⟨rfl, rfl, rfl, rfl⟩ rfl ?_
  refine SL.fa ⟨rfl, rfl, rfl, rfl⟩ rfl fo74_1 ?_
  refine SL.ld ⟨rfl, rfl, rfl, rfl⟩ sc31 rfl (cell_own 1 rfl rfl) ?_
  refine SL.ldA [vU32 p1, vU32 p0.gen, vU32 p0.boot, vU64 p0.seals] ⟨rfl, rfl, rfl, rfl⟩ ag87 rfl rfl (cells_all 0 rfl) ?_
  refine SL.mv ⟨rfl, rfl, rfl, rfl⟩ rfl ?_
  refine SL.pick [2, 0, 1] 3 ?_
  refine SL.call (vs := [_, _, _]) (Hin := [_]) (Hr := _ :: _ :: _ :: _ :: _ :: _ :: _ :: _) ⟨rfl, rfl, rfl, rfl⟩ rfl ⟨rfl, rfl, rfl, trivial⟩ cal50 rfl rfl (Con.lend (B := [_]) (Hin := []) fun K' w1 hk hB => (w_seal hy1 (hS.keeps hk) (SlOf.lentT (e := 70) (v := v0x1_) (fun _ => rfl) (hB _ (by simp))) :)) ?_
  rintro _ _ ⟨_, rfl, rfl, rfl⟩
  refine ⟨⟨⟨1, rfl⟩, ⟨2, rfl⟩, trivial⟩, ?_⟩
  refine SL.mv ⟨rfl, rfl, rfl, rfl⟩ rfl ?_
  refine SL.ext ⟨rfl, rfl, rfl, rfl⟩ rfl rfl ?_
  refine SL.ext ⟨rfl, rfl, rfl, rfl⟩ rfl rfl ?_
  refine SL.asg ⟨rfl, rfl, rfl, rfl⟩ rfl ?_
  refine SL.last ?_
  refine SL.asg ⟨rfl, rfl, rfl, rfl⟩ rfl ?_
  refine SL.nx ?_
  refine SX.seq ?_
  refine SX.sr ?_
  refine SL.mv ⟨rfl, rfl, rfl, rfl⟩ rfl ?_
  refine SL.bin ⟨rfl, rfl, rfl, rfl⟩ rfl rfl Bin.neI ?_
  refine SL.nx ?_
  refine SX.cond rfl (fun hc1 => ?_) (fun hc1 => ?_)
  · skip
    replace h := cT hc1 h
    refine SX.sr ?_
    refine SL.mv ⟨rfl, rfl, rfl, rfl⟩ rfl ?_
    refine SL.asg ⟨rfl, rfl, rfl, rfl⟩ rfl ?_
    refine SL.asg ⟨rfl, rfl, rfl, rfl⟩ rfl ?_
    refine SL.nx ?_
    refine SX.ret ?_
    refine SQ.thnR ?_
    obtain rfl := Option.some.inj h
    exact SQ.fret (res2 rfl rfl rfl) (ret_of (M := [_, _, _, _, _, _, _]) ⟨rfl, rfl⟩ fun _ hw => HpOk.pick (H := [_, _, _, _, _, _, _, _]) hw [2, 0, 3, 4, 5, 6, 7] 8 rfl)
  · skip
    replace h := cF hc1 h
    refine SX.skip ?_
    refine SQ.thn ?_
    refine SX.sr ?_
    refine SL.mv ⟨rfl, rfl, rfl, rfl⟩ rfl ?_
    refine SL.nchk ⟨rfl, rfl, rfl, rfl⟩ rfl ?_
    refine SL.fa ⟨rfl, rfl, rfl, rfl⟩ rfl fo74_4 ?_
    refine SL.ld ⟨rfl, rfl, rfl, rfl⟩ sc34 rfl (cell_own 2 rfl rfl) ?_
    refine SL.bin ⟨rfl, rfl, rfl, rfl⟩ rfl rfl (Bin.add64 (b := 1)) ?_
    refine SL.nchk ⟨rfl, rfl, rfl, rfl⟩ rfl ?_
    refine SL.fa ⟨rfl, rfl, rfl, rfl⟩ rfl fo74_4 ?_
    refine SL.st 2 ⟨rfl, rfl, rfl⟩ rfl rfl rfl sz34 rfl rfl rfl trivial ?_
    refine SL.nx ?_
    refine SX.seq ?_
    refine SX.sr ?_
    obtain ⟨y2, hy2, h⟩ := bnd h
    refine SL.mv ⟨rfl, rfl, rfl, rfl⟩ rfl ?_
    refine SL.nchk ⟨rfl, rfl, rfl, rfl⟩ rfl ?_
    refine SL.fa ⟨rfl, rfl, rfl, rfl⟩ rfl fo74_0 ?_
    refine SL.ld ⟨rfl, rfl, rfl, rfl⟩ sc24 rfl (cell_own 2 rfl rfl) ?_
    refine SL.mv ⟨rfl, rfl, rfl, rfl⟩ rfl ?_
    refine SL.mv ⟨rfl, rfl, rfl, rfl⟩ rfl ?_
    refine SL.pick [4, 5, 6, 7, 0, 1, 2, 3] 8 ?_
    refine SL.call (vs := [_, _, _]) (Hin := [_, _, _, _]) (Hr := _ :: _ :: _ :: _ :: _) ⟨rfl, rfl, rfl, rfl⟩ rfl ⟨rfl, rfl, rfl, trivial⟩ cal51 rfl rfl (c_device_Device_Write hy2) ?_
    rintro _ _ ⟨rfl, rfl⟩
    refine ⟨trivial, ?_⟩
    refine SL.asg ⟨rfl, rfl, rfl, rfl⟩ rfl ?_
    refine SL.nx ?_
    refine SX.sr ?_
    refine SL.mv ⟨rfl, rfl, rfl, rfl⟩ rfl ?_
    refine SL.bin ⟨rfl, rfl, rfl, rfl⟩ rfl rfl Bin.neI ?_
    refine SL.nx ?_
    refine SX.cond rfl (fun hc2 => ?_) (fun hc2 => ?_)
    · skip
      replace h := cT hc2 h
      refine SX.sr ?_
      refine SL.mv ⟨rfl, rfl, rfl, rfl⟩ rfl ?_
      refine SL.asg ⟨rfl, rfl, rfl, rfl⟩ rfl ?_
      refine SL.asg ⟨rfl, rfl, rfl, rfl⟩ rfl ?_
      refine SL.nx ?_
      refine SX.ret ?_
      refine SQ.thnR ?_
      obtain rfl := Option.some.inj h
      exact SQ.fret (res2 rfl rfl rfl) (ret_of (M := [_, _, _, _, _, _, _]) ⟨rfl, rfl⟩ fun _ hw => HpOk.pick (H := [_, _, _, _, _, _, _, _]) hw [6, 4, 7, 0, 1, 2, 3] 8 rfl)
    · skip
      replace h := cF hc2 h
      refine SX.skip ?_
      refine SQ.thn ?_
      refine SX.sr ?_
      obtain ⟨y3, hy3, h⟩ := bnd h
      refine SL.mv ⟨rfl, rfl, rfl, rfl⟩ rfl ?_
      refine SL.call (vs := [_]) (Hin := []) (Hr := _ :: _ :: _ :: _ :: _ :: _ :: _ :: _ :: _) ⟨rfl, rfl, rfl, rfl⟩ rfl ⟨rfl, trivial⟩ cal52 rfl rfl (w_tag hy3) ?_
      rintro _ _ ⟨rfl, rfl⟩
      refine ⟨trivial, ?_⟩
      refine SL.asg ⟨rfl, rfl, rfl, rfl⟩ rfl ?_
      refine SL.asg ⟨rfl, rfl, rfl, rfl⟩ rfl ?_
      refine SL.nx ?_
      refine SX.ret ?_
      obtain rfl := Option.some.inj h
      exact SQ.fret (res2 rfl rfl rfl) (ret_of (M := [_, _, _, _, _, _, _]) ⟨rfl, rfl⟩ fun _ hw => HpOk.pick (H := [_, _, _, _, _, _, _, _]) hw [6, 4, 7, 0, 1, 2, 3] 8 rfl)

def f_vault_Vault_open (T : List UInt32) (p0 : VltA) (p0_1 : DevA) (p1 : UInt32) (p2 : List UInt8) : Option (HeadA × List UInt8 × Int) :=
  (f_device_Device_Read p0_1 p1).bind fun y1 =>
  cond (!decide (y1.2 = 0))
  (
    some ((⟨0, 0, 0, 0⟩ : HeadA), [], y1.2))
  (
    (nthI y1.1 0).bind fun c1 =>
    (nthI y1.1 1).bind fun c2 =>
    (nthI y1.1 2).bind fun c3 =>
    (nthI y1.1 3).bind fun c4 =>
    ret (((c1.toUInt32 ||| (shl32 c2.toUInt32 8)) ||| (shl32 c3.toUInt32 16)) ||| (shl32 c4.toUInt32 24)) fun page_1 =>
    (tagO y1.1).bind fun y2 =>
    cond ((!decide (y2 = p2)) || (!decide (page_1 = p1)))
    (
      some ((⟨0, 0, 0, 0⟩ : HeadA), [], 61))
    (
      (openO T p0.ring y1.1).bind fun y3 =>
      some (y3.1, y3.2.1, y3.2.2)))
set_option maxRecDepth 100000 in
theorem c_vault_Vault_open {T : List UInt32} {b0_ : Nat} {v0x1_ : Value} {m0x5_ : Nat} {b0x0_ : Nat} {v0x0x4_ : Value} {m0x0x5_ : Nat} {m0x0x6_ : Nat} {p0 : VltA} {p0_1 : DevA} {p1 : UInt32} {p2 : List UInt8} {r : HeadA × List UInt8 × Int} (h : f_vault_Vault_open T p0 p0_1 p1 p2 = some r) (hS : ShaT K w0 T) : Con Tryd.prog K w0 37 [vP b0_ 0, vU32 p1, vS p2] [own b0_ (.cells #[vP b0x0_ 0, v0x1_, vU32 p0.gen, vU32 p0.boot, vU64 p0.seals, .map (some m0x5_)] 74), rowT 70 2 v0x1_ encKey p0.ring, mapC m0x5_ vU32 vB p0.taken, own b0x0_ (.cells #[vB p0_1.off, vB p0_1.isCut, vI p0_1.lasts, vI p0_1.counts, v0x0x4_, .map (some m0x0x5_), .map (some m0x0x6_), vU64 p0_1.rcnt, vS p0_1.rtag, vU32 p0_1.rboots] 66), rowT 9 1 v0x0x4_ eS p0_1.blocks, mapC m0x0x5_ vU32 vS p0_1.pend, mapC m0x0x6_ vU32 vB p0_1.bad] H (fun u M => u = .tuple #[.agg (encHead r.1).toArray, vS r.2.1, vI r.2.2] ∧ M = [own b0_ (.cells #[vP b0x0_ 0, v0x1_, vU32 p0.gen, vU32 p0.boot, vU64 p0.seals, .map (some m0x5_)] 74), rowT 70 2 v0x1_ encKey p0.ring, mapC m0x5_ vU32 vB p0.taken, own b0x0_ (.cells #[vB p0_1.off, vB p0_1.isCut, vI p0_1.lasts, vI p0_1.counts, v0x0x4_, .map (some m0x0x5_), .map (some m0x0x6_), vU64 p0_1.rcnt, vS p0_1.rtag, vU32 p0_1.rboots] 66), rowT 9 1 v0x0x4_ eS p0_1.blocks, mapC m0x0x5_ vU32 vS p0_1.pend, mapC m0x0x6_ vU32 vB p0_1.bad]) := by
  unfold f_vault_Vault_open at h
  refine Con.enter Tryd.func37 rfl rfl ?_
  refine SX.sr ?_
  refine SL.alloc ⟨rfl, rfl, rfl, rfl⟩ ze87 (fun _ => trivial) fun b1 => ?_
  refine SL.asg ⟨rfl, rfl, rfl, rfl⟩ rfl ?_
  refine SL.asg ⟨rfl, rfl, rfl, rfl⟩ rfl ?_
  refine SL.nx ?_
  refine SX.sr ?_
  obtain ⟨y1, hy1, h⟩ := bnd h
  refine SL.mv ⟨rfl, rfl, rfl, rfl⟩ rfl ?_
  refine SL.nchk ⟨rfl, rfl, rfl, rfl⟩ rfl ?_
  refine SL.fa ⟨rfl, rfl, rfl, rfl⟩ rfl fo74_0 ?_
  refine SL.ld ⟨rfl, rfl, rfl, rfl⟩ sc24 rfl (cell_own 1 rfl rfl) ?_
  refine SL.mv ⟨rfl, rfl, rfl, rfl⟩ rfl ?_
  refine SL.pick [4, 5, 6, 7, 0, 1, 2, 3] 8 ?_
  refine SL.call (vs := [_, _]) (Hin := [_, _, _, _]) (Hr := _ :: _ :: _ :: _ :: _) ⟨rfl, rfl, rfl, rfl⟩ rfl ⟨rfl, rfl, trivial⟩ cal17 rfl rfl (c_device_Device_Read hy1) ?_
  rintro _ _ ⟨rfl, rfl⟩
  refine ⟨trivial, ?_⟩
  refine SL.mv ⟨rfl, rfl, rfl, rfl⟩ rfl ?_
  refine SL.ext ⟨rfl, rfl, rfl, rfl⟩ rfl rfl ?_
  refine SL.ext ⟨rfl, rfl, rfl, rfl⟩ rfl rfl ?_
  refine SL.asg ⟨rfl, rfl, rfl, rfl⟩ rfl ?_
  refine SL.asg ⟨rfl, rfl, rfl, rfl⟩ rfl ?_
  refine SL.nx ?_
  refine SX.seq ?_
  refine SX.sr ?_
  refine SL.mv ⟨rfl, rfl, rfl, rfl⟩ rfl ?_
  refine SL.bin ⟨rfl, rfl, rfl, rfl⟩ rfl rfl Bin.neI ?_
  refine SL.nx ?_
  refine SX.cond rfl (fun hc1 => ?_) (fun hc1 => ?_)
  · skip
    replace h := cT hc1 h
    refine SX.sr ?_
    refine SL.bld [] ⟨rfl, rfl, rfl, rfl⟩ pl87 pk87 ze87 trivial rfl ?_
    refine SL.mv ⟨rfl, rfl, rfl, rfl⟩ rfl ?_
    refine SL.st 4 ⟨rfl, rfl, rfl⟩ rfl rfl rfl sz87 rfl rfl rfl trivial ?_
    refine SL.asg ⟨rfl, rfl, rfl, rfl⟩ rfl ?_
    refine SL.asg ⟨rfl, rfl, rfl, rfl⟩ rfl ?_
    refine SL.nx ?_
    refine SX.ret ?_
    refine SQ.thnR ?_
    obtain rfl := Option.some.inj h
    exact SQ.fret (resv3 rfl (resv.ag 4 (encHead (⟨0, 0, 0, 0⟩ : HeadA)) ag87 rfl rfl rfl rfl) rfl rfl) (ret_of (M := [_, _, _, _, _, _, _]) ⟨rfl, rfl⟩ fun _ hw => HpOk.pick (H := [_, _, _, _, _, _, _, _]) hw [5, 6, 7, 0, 1, 2, 3] 8 rfl)
  · skip
    replace h := cF hc1 h
    refine SX.skip ?_
    refine SQ.thn ?_
    refine SX.seq ?_
    obtain ⟨c1, hc1, h⟩ := bnd h
    obtain ⟨c2, hc2, h⟩ := bnd h
    obtain ⟨c3, hc3, h⟩ := bnd h
    obtain ⟨c4, hc4, h⟩ := bnd h
    obtain ⟨page_1, epage_1, h⟩ := retE h
    refine SX.drawI mix [] (Pl.of [(true, 0), (true, 1), (true, 2), (true, 3), (true, 4), (true, 5), (true, 6), (true, 7), (true, 8), (true, 9), (true, 10), (true, 11), (true, 12), (true, 13), (true, 14), (true, 15), (true, 16), (true, 17), (true, 18)]) (by kernel_rfl) ?_
    refine SL.mv ⟨rfl, rfl, rfl, rfl⟩ rfl ?_
    refine SL.ixN hc1 ⟨rfl, rfl, rfl, rfl⟩ ty9 rfl rfl ?_
    refine SL.cv ⟨rfl, rfl, rfl, rfl⟩ rfl (Cv.u8_32 ty5 ty22) ?_
    refine SL.mv ⟨rfl, rfl, rfl, rfl⟩ rfl ?_
    refine SL.ixN hc2 ⟨rfl, rfl, rfl, rfl⟩ ty9 rfl rfl ?_
    refine SL.cv ⟨rfl, rfl, rfl, rfl⟩ rfl (Cv.u8_32 ty5 ty22) ?_
    refine SL.bin ⟨rfl, rfl, rfl, rfl⟩ rfl rfl (Bin.shl32 (n := 8)) ?_
    refine SL.bin ⟨rfl, rfl, rfl, rfl⟩ rfl rfl Bin.or32 ?_
    refine SL.mv ⟨rfl, rfl, rfl, rfl⟩ rfl ?_
    refine SL.ixN hc3 ⟨rfl, rfl, rfl, rfl⟩ ty9 rfl rfl ?_
    refine SL.cv ⟨rfl, rfl, rfl, rfl⟩ rfl (Cv.u8_32 ty5 ty22) ?_
    refine SL.bin ⟨rfl, rfl, rfl, rfl⟩ rfl rfl (Bin.shl32 (n := 16)) ?_
    refine SL.bin ⟨rfl, rfl, rfl, rfl⟩ rfl rfl Bin.or32 ?_
    refine SL.mv ⟨rfl, rfl, rfl, rfl⟩ rfl ?_
    refine SL.ixN hc4 ⟨rfl, rfl, rfl, rfl⟩ ty9 rfl rfl ?_
    refine SL.cv ⟨rfl, rfl, rfl, rfl⟩ rfl (Cv.u8_32 ty5 ty22) ?_
    refine SL.bin ⟨rfl, rfl, rfl, rfl⟩ rfl rfl (Bin.shl32 (n := 24)) ?_
    refine SL.bin ⟨rfl, rfl, rfl, rfl⟩ rfl rfl Bin.or32 ?_
    refine SL.asgX (u := vU32 page_1) ⟨rfl, rfl, rfl, rfl⟩ rfl (congrArg vU32 epage_1) ?_
    refine SL.nx ?_
    refine SX.seq ?_
    refine SX.sr ?_
    obtain ⟨y2, hy2, h⟩ := bnd h
    refine SL.mv ⟨rfl, rfl, rfl, rfl⟩ rfl ?_
    refine SL.call (vs := [_]) (Hin := []) (Hr := _ :: _ :: _ :: _ :: _ :: _ :: _ :: _ :: _) ⟨rfl, rfl, rfl, rfl⟩ rfl ⟨rfl, trivial⟩ cal52 rfl rfl (w_tag hy2) ?_
    rintro _ _ ⟨rfl, rfl⟩
    refine ⟨trivial, ?_⟩
    refine SL.mv ⟨rfl, rfl, rfl, rfl⟩ rfl ?_
    refine SL.bin ⟨rfl, rfl, rfl, rfl⟩ rfl rfl Bin.neS ?_
    refine SL.mv ⟨rfl, rfl, rfl, rfl⟩ rfl ?_
    refine SL.or (c := !decide (page_1 = p1)) 47 4 51 rfl (fun hb k => ?_) (fun hb k => ?_) ?_
    · skip
      refine SL.pass rfl rfl rfl ?_
      refine SL.pass rfl rfl rfl ?_
      refine SL.pass rfl rfl rfl ?_
      refine SL.pk ⟨rfl, rfl, rfl, rfl⟩ rfl rfl ?_
      exact k.mono (by repeat' (first | exact trivial | refine And.intro rfl ?_))
    · skip
      refine SL.mv ⟨rfl, rfl, rfl, rfl⟩ rfl ?_
      refine SL.mv ⟨rfl, rfl, rfl, rfl⟩ rfl ?_
      refine SL.bin ⟨rfl, rfl, rfl, rfl⟩ rfl rfl Bin.ne32 ?_
      refine SL.pk ⟨rfl, rfl, rfl, rfl⟩ rfl rfl ?_
      exact k.mono (by repeat' (first | exact trivial | refine And.intro rfl ?_))
    refine SL.nx ?_
    refine SX.cond rfl (fun hc2 => ?_) (fun hc2 => ?_)
    · skip
      replace h := cT hc2 h
      refine SX.sr ?_
      refine SL.bld [] ⟨rfl, rfl, rfl, rfl⟩ pl87 pk87 ze87 trivial rfl ?_
      refine SL.st 4 ⟨rfl, rfl, rfl⟩ rfl rfl rfl sz87 rfl rfl rfl trivial ?_
      refine SL.asg ⟨rfl, rfl, rfl, rfl⟩ rfl ?_
      refine SL.asg ⟨rfl, rfl, rfl, rfl⟩ rfl ?_
      refine SL.nx ?_
      refine SX.ret ?_
      refine SQ.thnR ?_
      obtain rfl := Option.some.inj h
      exact SQ.fret (resv3 rfl (resv.ag 4 (encHead (⟨0, 0, 0, 0⟩ : HeadA)) ag87 rfl rfl rfl rfl) rfl rfl) (ret_of (M := [_, _, _, _, _, _, _]) ⟨rfl, rfl⟩ fun _ hw => HpOk.pick (H := [_, _, _, _, _, _, _, _]) hw [5, 6, 7, 0, 1, 2, 3] 8 rfl)
    · skip
      replace h := cF hc2 h
      refine SX.skip ?_
      refine SQ.thn ?_
      refine SX.sr ?_
      obtain ⟨y3, hy3, h⟩ := bnd h
      refine SL.mv ⟨rfl, rfl, rfl, rfl⟩ rfl ?_
      refine SL.nchk ⟨rfl, rfl, rfl, rfl⟩ rfl ?_
      refine SL.fa ⟨rfl, rfl, rfl, rfl⟩ rfl fo74_1 ?_
      refine SL.ld ⟨rfl, rfl, rfl, rfl⟩ sc31 rfl (cell_own 5 rfl rfl) ?_
      refine SL.mv ⟨rfl, rfl, rfl, rfl⟩ rfl ?_
      refine SL.pick [6, 0, 1, 2, 3, 4, 5] 7 ?_
      refine SL.call (vs := [_, _]) (Hin := [_]) (Hr := _ :: _ :: _ :: _ :: _ :: _ :: _ :: _) ⟨rfl, rfl, rfl, rfl⟩ rfl ⟨rfl, rfl, trivial⟩ cal53 rfl rfl (Con.lend (B := [_]) (Hin := []) fun K' w1 hk hB => w_open hy3 (hS.keeps hk) (SlOf.lentT (e := 70) (v := v0x1_) (fun _ => rfl) (hB _ (by simp)))) ?_
      rintro _ _ ⟨_, rfl, rfl, rfl⟩
      refine ⟨trivial, ?_⟩
      refine SL.ext ⟨rfl, rfl, rfl, rfl⟩ rfl rfl ?_
      refine SL.ext ⟨rfl, rfl, rfl, rfl⟩ rfl rfl ?_
      refine SL.ext ⟨rfl, rfl, rfl, rfl⟩ rfl rfl ?_
      refine SL.st 5 ⟨rfl, rfl, rfl⟩ rfl rfl rfl sz87 rfl rfl rfl trivial ?_
      refine SL.asg ⟨rfl, rfl, rfl, rfl⟩ rfl ?_
      refine SL.asg ⟨rfl, rfl, rfl, rfl⟩ rfl ?_
      refine SL.nx ?_
      refine SX.ret ?_
      obtain rfl := Option.some.inj h
      exact SQ.fret (resv3 rfl (resv.ag 5 (encHead y3.1) ag87 rfl rfl rfl rfl) rfl rfl) (ret_of (M := [_, _, _, _, _, _, _]) ⟨rfl, rfl⟩ fun _ hw => HpOk.pick (H := [_, _, _, _, _, _, _, _]) hw [6, 0, 7, 1, 2, 3, 4] 8 rfl)

def f_vault_Vault_First (T : List UInt32) (p0 : VltA) (p0_1 : DevA) (p1 : UInt32) (p2 : List UInt8) : Option (List UInt8 × Int) :=
  (f_vault_Vault_open T p0 p0_1 p1 p2).bind fun y1 =>
  some (y1.2.1, y1.2.2)
set_option maxRecDepth 100000 in
theorem c_vault_Vault_First {T : List UInt32} {b0_ : Nat} {v0x1_ : Value} {m0x5_ : Nat} {b0x0_ : Nat} {v0x0x4_ : Value} {m0x0x5_ : Nat} {m0x0x6_ : Nat} {p0 : VltA} {p0_1 : DevA} {p1 : UInt32} {p2 : List UInt8} {r : List UInt8 × Int} (h : f_vault_Vault_First T p0 p0_1 p1 p2 = some r) (hS : ShaT K w0 T) : Con Tryd.prog K w0 23 [vP b0_ 0, vU32 p1, vS p2] [own b0_ (.cells #[vP b0x0_ 0, v0x1_, vU32 p0.gen, vU32 p0.boot, vU64 p0.seals, .map (some m0x5_)] 74), rowT 70 2 v0x1_ encKey p0.ring, mapC m0x5_ vU32 vB p0.taken, own b0x0_ (.cells #[vB p0_1.off, vB p0_1.isCut, vI p0_1.lasts, vI p0_1.counts, v0x0x4_, .map (some m0x0x5_), .map (some m0x0x6_), vU64 p0_1.rcnt, vS p0_1.rtag, vU32 p0_1.rboots] 66), rowT 9 1 v0x0x4_ eS p0_1.blocks, mapC m0x0x5_ vU32 vS p0_1.pend, mapC m0x0x6_ vU32 vB p0_1.bad] H (fun u M => u = .tuple #[vS r.1, vI r.2] ∧ M = [own b0_ (.cells #[vP b0x0_ 0, v0x1_, vU32 p0.gen, vU32 p0.boot, vU64 p0.seals, .map (some m0x5_)] 74), rowT 70 2 v0x1_ encKey p0.ring, mapC m0x5_ vU32 vB p0.taken, own b0x0_ (.cells #[vB p0_1.off, vB p0_1.isCut, vI p0_1.lasts, vI p0_1.counts, v0x0x4_, .map (some m0x0x5_), .map (some m0x0x6_), vU64 p0_1.rcnt, vS p0_1.rtag, vU32 p0_1.rboots] 66), rowT 9 1 v0x0x4_ eS p0_1.blocks, mapC m0x0x5_ vU32 vS p0_1.pend, mapC m0x0x6_ vU32 vB p0_1.bad]) := by
  unfold f_vault_Vault_First at h
  refine Con.enter Tryd.func23 rfl rfl ?_
  refine SX.sr ?_
  refine SL.asg ⟨rfl, rfl, rfl, rfl⟩ rfl ?_
  refine SL.asg ⟨rfl, rfl, rfl, rfl⟩ rfl ?_
  refine SL.nx ?_
  refine SX.seq ?_
  refine SX.sr ?_
  refine SL.mv ⟨rfl, rfl, rfl, rfl⟩ rfl ?_
  refine SL.eqPN ⟨rfl, rfl, rfl, rfl⟩ ty28 rfl rfl ?_
  refine SL.nx ?_
  refine SX.condF rfl ?_
  refine SX.skip ?_
  refine SQ.thn ?_
  refine SX.sr ?_
  obtain ⟨y1, hy1, h⟩ := bnd h
  refine SL.mv ⟨rfl, rfl, rfl, rfl⟩ rfl ?_
  refine SL.mv ⟨rfl, rfl, rfl, rfl⟩ rfl ?_
  refine SL.mv ⟨rfl, rfl, rfl, rfl⟩ rfl ?_
  refine SL.call (vs := [_, _, _]) (Hin := [_, _, _, _, _, _, _]) (Hr := _) ⟨rfl, rfl, rfl, rfl⟩ rfl ⟨rfl, rfl, rfl, trivial⟩ cal37 rfl rfl (c_vault_Vault_open hy1 hS) ?_
  rintro _ _ ⟨rfl, rfl⟩
  refine ⟨trivial, ?_⟩
  refine SL.mv ⟨rfl, rfl, rfl, rfl⟩ rfl ?_
  refine SL.ext ⟨rfl, rfl, rfl, rfl⟩ rfl rfl ?_
  refine SL.ext ⟨rfl, rfl, rfl, rfl⟩ rfl rfl ?_
  refine SL.ext ⟨rfl, rfl, rfl, rfl⟩ rfl rfl ?_
  refine SL.alloc ⟨rfl, rfl, rfl, rfl⟩ ze87 (fun _ => trivial) fun b1 => ?_
  refine SL.st 0 ⟨rfl, rfl, rfl⟩ rfl rfl rfl sz87 rfl rfl rfl trivial ?_
  refine SL.asg ⟨rfl, rfl, rfl, rfl⟩ rfl ?_
  refine SL.asg ⟨rfl, rfl, rfl, rfl⟩ rfl ?_
  refine SL.nx ?_
  refine SX.sr ?_
  refine SL.mv ⟨rfl, rfl, rfl, rfl⟩ rfl ?_
  refine SL.mv ⟨rfl, rfl, rfl, rfl⟩ rfl ?_
  refine SL.asg ⟨rfl, rfl, rfl, rfl⟩ rfl ?_
  refine SL.asg ⟨rfl, rfl, rfl, rfl⟩ rfl ?_
  refine SL.nx ?_
  refine SX.ret ?_
  obtain rfl := Option.some.inj h
  exact SQ.fret (res2 rfl rfl rfl) (ret_of (M := [_, _, _, _, _, _, _]) ⟨rfl, rfl⟩ fun _ hw => HpOk.pick (H := [_, _, _, _, _, _, _, _]) hw [1, 2, 3, 4, 5, 6, 7] 8 rfl)

def f_rows_RightRef (p0 : RefA) : Option Bool :=
  ret ((decide (2 ≤ p0.page)) && (decide ((p0.tag.length : Int) = 32))) fun x1 =>
  some x1
set_option maxRecDepth 100000 in
theorem c_rows_RightRef {p0 : RefA} {r : Bool} (h : f_rows_RightRef p0 = some r)  : Con Tryd.prog K w0 36 [.agg (encRef p0).toArray] [] H (fun u M => u = vB r ∧ M = []) := by
  unfold f_rows_RightRef at h
  refine Con.enter Tryd.func36 rfl rfl ?_
  refine SX.sr ?_
  refine SL.box ⟨rfl, rfl, rfl, rfl⟩ rfl (fun _ => trivial) fun b1 => ?_
  refine SL.asg ⟨rfl, rfl, rfl, rfl⟩ rfl ?_
  refine SL.nx ?_
  refine SX.sr ?_
  obtain ⟨x1, ex1, h⟩ := retE h
  refine SL.fa ⟨rfl, rfl, rfl, rfl⟩ rfl fo41_0 ?_
  refine SL.ld ⟨rfl, rfl, rfl, rfl⟩ sc22 rfl (cell_own 0 rfl rfl) ?_
  refine SL.bin ⟨rfl, rfl, rfl, rfl⟩ rfl rfl (Bin.ge32 (b := 2)) ?_
  refine SL.mv ⟨rfl, rfl, rfl, rfl⟩ rfl ?_
  refine SL.and (c := decide ((p0.tag.length : Int) = 32)) 6 5 11 rfl (fun hb k => ?_) (fun hb k => ?_) ?_
  · skip
    refine SL.fa ⟨rfl, rfl, rfl, rfl⟩ rfl fo41_1 ?_
    refine SL.ld ⟨rfl, rfl, rfl, rfl⟩ sc9 rfl (cell_own 0 rfl rfl) ?_
    refine SL.lenS ⟨rfl, rfl, rfl, rfl⟩ ty9 rfl ?_
    refine SL.bin ⟨rfl, rfl, rfl, rfl⟩ rfl rfl Bin.eqI ?_
    refine SL.pk ⟨rfl, rfl, rfl, rfl⟩ rfl rfl ?_
    exact k.mono (by repeat' (first | exact trivial | refine And.intro rfl ?_))
  · skip
    refine SL.pass rfl rfl rfl ?_
    refine SL.pass rfl rfl rfl ?_
    refine SL.pass rfl rfl rfl ?_
    refine SL.pass rfl rfl rfl ?_
    refine SL.pk ⟨rfl, rfl, rfl, rfl⟩ rfl rfl ?_
    exact k.mono (by repeat' (first | exact trivial | refine And.intro rfl ?_))
  refine SL.asgX (u := vB x1) ⟨rfl, rfl, rfl, rfl⟩ rfl (congrArg vB ex1) ?_
  refine SL.nx ?_
  refine SX.ret ?_
  obtain rfl := Option.some.inj h
  exact SQ.fret (res1 rfl rfl) (ret_of (M := []) ⟨rfl, rfl⟩ fun _ hw => HpOk.pick (H := [_]) hw [] 1 rfl)

def f_vault_Vault_Read (T : List UInt32) (p0 : VltA) (p0_1 : DevA) (p1 : RefA) : Option (List UInt8 × Int) :=
  (f_rows_RightRef p1).bind fun y1 =>
  ret (!y1) fun x1 =>
  cond x1
  (
    some ([], 2))
  (
    (f_vault_Vault_First T p0 p0_1 p1.page p1.tag).bind fun y2 =>
    some (y2.1, y2.2))
set_option maxRecDepth 100000 in
theorem c_vault_Vault_Read {T : List UInt32} {b0_ : Nat} {v0x1_ : Value} {m0x5_ : Nat} {b0x0_ : Nat} {v0x0x4_ : Value} {m0x0x5_ : Nat} {m0x0x6_ : Nat} {p0 : VltA} {p0_1 : DevA} {p1 : RefA} {r : List UInt8 × Int} (h : f_vault_Vault_Read T p0 p0_1 p1 = some r) (hS : ShaT K w0 T) : Con Tryd.prog K w0 19 [vP b0_ 0, .agg (encRef p1).toArray] [own b0_ (.cells #[vP b0x0_ 0, v0x1_, vU32 p0.gen, vU32 p0.boot, vU64 p0.seals, .map (some m0x5_)] 74), rowT 70 2 v0x1_ encKey p0.ring, mapC m0x5_ vU32 vB p0.taken, own b0x0_ (.cells #[vB p0_1.off, vB p0_1.isCut, vI p0_1.lasts, vI p0_1.counts, v0x0x4_, .map (some m0x0x5_), .map (some m0x0x6_), vU64 p0_1.rcnt, vS p0_1.rtag, vU32 p0_1.rboots] 66), rowT 9 1 v0x0x4_ eS p0_1.blocks, mapC m0x0x5_ vU32 vS p0_1.pend, mapC m0x0x6_ vU32 vB p0_1.bad] H (fun u M => u = .tuple #[vS r.1, vI r.2] ∧ M = [own b0_ (.cells #[vP b0x0_ 0, v0x1_, vU32 p0.gen, vU32 p0.boot, vU64 p0.seals, .map (some m0x5_)] 74), rowT 70 2 v0x1_ encKey p0.ring, mapC m0x5_ vU32 vB p0.taken, own b0x0_ (.cells #[vB p0_1.off, vB p0_1.isCut, vI p0_1.lasts, vI p0_1.counts, v0x0x4_, .map (some m0x0x5_), .map (some m0x0x6_), vU64 p0_1.rcnt, vS p0_1.rtag, vU32 p0_1.rboots] 66), rowT 9 1 v0x0x4_ eS p0_1.blocks, mapC m0x0x5_ vU32 vS p0_1.pend, mapC m0x0x6_ vU32 vB p0_1.bad]) := by
  unfold f_vault_Vault_Read at h
  refine Con.enter Tryd.func19 rfl rfl ?_
  refine SX.sr ?_
  refine SL.box ⟨rfl, rfl, rfl, rfl⟩ rfl (fun _ => trivial) fun b1 => ?_
  refine SL.asg ⟨rfl, rfl, rfl, rfl⟩ rfl ?_
  refine SL.asg ⟨rfl, rfl, rfl, rfl⟩ rfl ?_
  refine SL.nx ?_
  refine SX.seq ?_
  refine SX.block ?_
  refine SX.sr ?_
  refine SL.mv ⟨rfl, rfl, rfl, rfl⟩ rfl ?_
  refine SL.eqPN ⟨rfl, rfl, rfl, rfl⟩ ty28 rfl rfl ?_
  refine SL.asg ⟨rfl, rfl, rfl, rfl⟩ rfl ?_
  refine SL.nx ?_
  refine SX.condF rfl ?_
  refine SX.sr ?_
  obtain ⟨y1, hy1, h⟩ := bnd h
  obtain ⟨x1, ex1, h⟩ := retE h
  refine SL.ldA [vU32 p1.page, vS p1.tag] ⟨rfl, rfl, rfl, rfl⟩ ag41 rfl rfl (cells_all 0 rfl) ?_
  refine SL.call (vs := [_]) (Hin := []) (Hr := _ :: _ :: _ :: _ :: _ :: _ :: _ :: _ :: _) ⟨rfl, rfl, rfl, rfl⟩ rfl ⟨rfl, trivial⟩ cal36 rfl rfl ((c_rows_RightRef hy1 :)) ?_
  rintro _ _ ⟨rfl, rfl⟩
  refine ⟨trivial, ?_⟩
  refine SL.not ⟨rfl, rfl, rfl, rfl⟩ rfl ?_
  refine SL.asgX (u := vB x1) ⟨rfl, rfl, rfl, rfl⟩ rfl (congrArg vB ex1) ?_
  refine SL.nx ?_
  refine SX.cond rfl (fun hc2 => ?_) (fun hc2 => ?_)
  · skip
    replace h := cT hc2 h
    refine SX.sr ?_
    refine SL.asg ⟨rfl, rfl, rfl, rfl⟩ rfl ?_
    refine SL.asg ⟨rfl, rfl, rfl, rfl⟩ rfl ?_
    refine SL.nx ?_
    refine SX.ret ?_
    refine SQ.blkR ?_
    refine SQ.thnR ?_
    obtain rfl := Option.some.inj h
    exact SQ.fret (res2 rfl rfl rfl) (ret_of (M := [_, _, _, _, _, _, _]) ⟨rfl, rfl⟩ fun _ hw => HpOk.pick (H := [_, _, _, _, _, _, _, _]) hw [1, 2, 3, 4, 5, 6, 7] 8 rfl)
  · skip
    replace h := cF hc2 h
    refine SX.skip ?_
    refine SQ.blk ?_
    refine SQ.thn ?_
    refine SX.sr ?_
    obtain ⟨y2, hy2, h⟩ := bnd h
    refine SL.mv ⟨rfl, rfl, rfl, rfl⟩ rfl ?_
    refine SL.fa ⟨rfl, rfl, rfl, rfl⟩ rfl fo41_0 ?_
    refine SL.ld ⟨rfl, rfl, rfl, rfl⟩ sc22 rfl (cell_own 0 rfl rfl) ?_
    refine SL.fa ⟨rfl, rfl, rfl, rfl⟩ rfl fo41_1 ?_
    refine SL.ld ⟨rfl, rfl, rfl, rfl⟩ sc9 rfl (cell_own 0 rfl rfl) ?_
    refine SL.pick [1, 2, 3, 4, 5, 6, 7, 0] 8 ?_
    refine SL.call (vs := [_, _, _]) (Hin := [_, _, _, _, _, _, _]) (Hr := _ :: _) ⟨rfl, rfl, rfl, rfl⟩ rfl ⟨rfl, rfl, rfl, trivial⟩ cal23 rfl rfl (c_vault_Vault_First hy2 hS) ?_
    rintro _ _ ⟨rfl, rfl⟩
    refine ⟨trivial, ?_⟩
    refine SL.ext ⟨rfl, rfl, rfl, rfl⟩ rfl rfl ?_
    refine SL.ext ⟨rfl, rfl, rfl, rfl⟩ rfl rfl ?_
    refine SL.asg ⟨rfl, rfl, rfl, rfl⟩ rfl ?_
    refine SL.asg ⟨rfl, rfl, rfl, rfl⟩ rfl ?_
    refine SL.nx ?_
    refine SX.ret ?_
    obtain rfl := Option.some.inj h
    exact SQ.fret (res2 rfl rfl rfl) (ret_of (M := [_, _, _, _, _, _, _]) ⟨rfl, rfl⟩ fun _ hw => HpOk.pick (H := [_, _, _, _, _, _, _, _]) hw [0, 1, 2, 3, 4, 5, 6] 8 rfl)

def f_vault_Vault_Super (T : List UInt32) (p0 : VltA) (p0_1 : DevA) (p1 : UInt32) (p2 : List UInt8) : Option (List UInt8 × Int × VltA × DevA) :=
  ret (decide (2 ≤ p1)) fun x1 =>
  cond x1
  (
    some ([], 2, p0, p0_1))
  (
    ret (decide (198 < (p2.length : Int))) fun x2 =>
    cond x2
    (
      some ([], 50, p0, p0_1))
    (
      (f_vault_Vault_seal T p0 p0_1 p1 p2).bind fun y1 =>
      some (y1.1, y1.2.1, y1.2.2.1, y1.2.2.2)))
set_option maxRecDepth 100000 in
theorem c_vault_Vault_Super {T : List UInt32} {b0_ : Nat} {v0x1_ : Value} {m0x5_ : Nat} {b0x0_ : Nat} {v0x0x4_ : Value} {m0x0x5_ : Nat} {m0x0x6_ : Nat} {p0 : VltA} {p0_1 : DevA} {p1 : UInt32} {p2 : List UInt8} {r : List UInt8 × Int × VltA × DevA} (h : f_vault_Vault_Super T p0 p0_1 p1 p2 = some r) (hS : ShaT K w0 T) : Con Tryd.prog K w0 20 [vP b0_ 0, vU32 p1, vS p2] [own b0_ (.cells #[vP b0x0_ 0, v0x1_, vU32 p0.gen, vU32 p0.boot, vU64 p0.seals, .map (some m0x5_)] 74), rowT 70 2 v0x1_ encKey p0.ring, mapC m0x5_ vU32 vB p0.taken, own b0x0_ (.cells #[vB p0_1.off, vB p0_1.isCut, vI p0_1.lasts, vI p0_1.counts, v0x0x4_, .map (some m0x0x5_), .map (some m0x0x6_), vU64 p0_1.rcnt, vS p0_1.rtag, vU32 p0_1.rboots] 66), rowT 9 1 v0x0x4_ eS p0_1.blocks, mapC m0x0x5_ vU32 vS p0_1.pend, mapC m0x0x6_ vU32 vB p0_1.bad] H (fun u M => u = .tuple #[vS r.1, vI r.2.1] ∧ M = [own b0_ (.cells #[vP b0x0_ 0, v0x1_, vU32 r.2.2.1.gen, vU32 r.2.2.1.boot, vU64 r.2.2.1.seals, .map (some m0x5_)] 74), rowT 70 2 v0x1_ encKey r.2.2.1.ring, mapC m0x5_ vU32 vB r.2.2.1.taken, own b0x0_ (.cells #[vB r.2.2.2.off, vB r.2.2.2.isCut, vI r.2.2.2.lasts, vI r.2.2.2.counts, v0x0x4_, .map (some m0x0x5_), .map (some m0x0x6_), vU64 r.2.2.2.rcnt, vS r.2.2.2.rtag, vU32 r.2.2.2.rboots] 66), rowT 9 1 v0x0x4_ eS r.2.2.2.blocks, mapC m0x0x5_ vU32 vS r.2.2.2.pend, mapC m0x0x6_ vU32 vB r.2.2.2.bad]) := by
  unfold f_vault_Vault_Super at h
  refine Con.enter Tryd.func20 rfl rfl ?_
  refine SX.sr ?_
  refine SL.asg ⟨rfl, rfl, rfl, rfl⟩ rfl ?_
  refine SL.asg ⟨rfl, rfl, rfl, rfl⟩ rfl ?_
  refine SL.nx ?_
  refine SX.seq ?_
  refine SX.block ?_
  refine SX.sr ?_
  refine SL.mv ⟨rfl, rfl, rfl, rfl⟩ rfl ?_
  refine SL.eqPN ⟨rfl, rfl, rfl, rfl⟩ ty28 rfl rfl ?_
  refine SL.asg ⟨rfl, rfl, rfl, rfl⟩ rfl ?_
  refine SL.nx ?_
  refine SX.condF rfl ?_
  refine SX.sr ?_
  obtain ⟨x1, ex1, h⟩ := retE h
  refine SL.mv ⟨rfl, rfl, rfl, rfl⟩ rfl ?_
  refine SL.bin ⟨rfl, rfl, rfl, rfl⟩ rfl rfl (Bin.ge32 (b := 2)) ?_
  refine SL.asgX (u := vB x1) ⟨rfl, rfl, rfl, rfl⟩ rfl (congrArg vB ex1) ?_
  refine SL.nx ?_
  refine SX.cond rfl (fun hc2 => ?_) (fun hc2 => ?_)
  · skip
    replace h := cT hc2 h
    refine SX.sr ?_
    refine SL.asg ⟨rfl, rfl, rfl, rfl⟩ rfl ?_
    refine SL.asg ⟨rfl, rfl, rfl, rfl⟩ rfl ?_
    refine SL.nx ?_
    refine SX.ret ?_
    refine SQ.blkR ?_
    refine SQ.thnR ?_
    obtain rfl := Option.some.inj h
    exact SQ.fret (res2 rfl rfl rfl) (ret_of (M := [_, _, _, _, _, _, _]) ⟨rfl, rfl⟩ fun _ hw => HpOk.pick (H := [_, _, _, _, _, _, _]) hw [0, 1, 2, 3, 4, 5, 6] 7 rfl)
  · skip
    replace h := cF hc2 h
    refine SX.sr ?_
    obtain ⟨x2, ex2, h⟩ := retE h
    refine SL.mv ⟨rfl, rfl, rfl, rfl⟩ rfl ?_
    refine SL.lenS ⟨rfl, rfl, rfl, rfl⟩ ty9 rfl ?_
    refine SL.bin ⟨rfl, rfl, rfl, rfl⟩ rfl rfl Bin.gtI ?_
    refine SL.asgX (u := vB x2) ⟨rfl, rfl, rfl, rfl⟩ rfl (congrArg vB ex2) ?_
    refine SL.nx ?_
    refine SX.cond rfl (fun hc3 => ?_) (fun hc3 => ?_)
    · skip
      replace h := cT hc3 h
      refine SX.sr ?_
      refine SL.asg ⟨rfl, rfl, rfl, rfl⟩ rfl ?_
      refine SL.asg ⟨rfl, rfl, rfl, rfl⟩ rfl ?_
      refine SL.nx ?_
      refine SX.ret ?_
      refine SQ.blkR ?_
      refine SQ.thnR ?_
      obtain rfl := Option.some.inj h
      exact SQ.fret (res2 rfl rfl rfl) (ret_of (M := [_, _, _, _, _, _, _]) ⟨rfl, rfl⟩ fun _ hw => HpOk.pick (H := [_, _, _, _, _, _, _]) hw [0, 1, 2, 3, 4, 5, 6] 7 rfl)
    · skip
      replace h := cF hc3 h
      refine SX.skip ?_
      refine SQ.blk ?_
      refine SQ.thn ?_
      refine SX.sr ?_
      obtain ⟨y1, hy1, h⟩ := bnd h
      refine SL.mv ⟨rfl, rfl, rfl, rfl⟩ rfl ?_
      refine SL.mv ⟨rfl, rfl, rfl, rfl⟩ rfl ?_
      refine SL.mv ⟨rfl, rfl, rfl, rfl⟩ rfl ?_
      refine SL.call (vs := [_, _, _]) (Hin := [_, _, _, _, _, _, _]) (Hr := _) ⟨rfl, rfl, rfl, rfl⟩ rfl ⟨rfl, rfl, rfl, trivial⟩ cal33 rfl rfl (c_vault_Vault_seal hy1 hS) ?_
      rintro _ _ ⟨rfl, rfl⟩
      refine ⟨trivial, ?_⟩
      refine SL.ext ⟨rfl, rfl, rfl, rfl⟩ rfl rfl ?_
      refine SL.ext ⟨rfl, rfl, rfl, rfl⟩ rfl rfl ?_
      refine SL.asg ⟨rfl, rfl, rfl, rfl⟩ rfl ?_
      refine SL.asg ⟨rfl, rfl, rfl, rfl⟩ rfl ?_
      refine SL.nx ?_
      refine SX.ret ?_
      obtain rfl := Option.some.inj h
      exact SQ.fret (res2 rfl rfl rfl) (ret_of (M := [_, _, _, _, _, _, _]) ⟨rfl, rfl⟩ fun _ hw => HpOk.pick (H := [_, _, _, _, _, _, _]) hw [0, 1, 2, 3, 4, 5, 6] 7 rfl)

def f_vault_Vault_Gen (T : List UInt32) (p0 : VltA) (p0_1 : DevA) (p1 : RefA) : Option (UInt32 × Int) :=
  (f_rows_RightRef p1).bind fun y1 =>
  ret (!y1) fun x1 =>
  cond x1
  (
    some (0, 2))
  (
    (f_vault_Vault_open T p0 p0_1 p1.page p1.tag).bind fun y2 =>
    some (y2.1.gen, y2.2.2))
set_option maxRecDepth 100000 in
theorem c_vault_Vault_Gen {T : List UInt32} {b0_ : Nat} {v0x1_ : Value} {m0x5_ : Nat} {b0x0_ : Nat} {v0x0x4_ : Value} {m0x0x5_ : Nat} {m0x0x6_ : Nat} {p0 : VltA} {p0_1 : DevA} {p1 : RefA} {r : UInt32 × Int} (h : f_vault_Vault_Gen T p0 p0_1 p1 = some r) (hS : ShaT K w0 T) : Con Tryd.prog K w0 21 [vP b0_ 0, .agg (encRef p1).toArray] [own b0_ (.cells #[vP b0x0_ 0, v0x1_, vU32 p0.gen, vU32 p0.boot, vU64 p0.seals, .map (some m0x5_)] 74), rowT 70 2 v0x1_ encKey p0.ring, mapC m0x5_ vU32 vB p0.taken, own b0x0_ (.cells #[vB p0_1.off, vB p0_1.isCut, vI p0_1.lasts, vI p0_1.counts, v0x0x4_, .map (some m0x0x5_), .map (some m0x0x6_), vU64 p0_1.rcnt, vS p0_1.rtag, vU32 p0_1.rboots] 66), rowT 9 1 v0x0x4_ eS p0_1.blocks, mapC m0x0x5_ vU32 vS p0_1.pend, mapC m0x0x6_ vU32 vB p0_1.bad] H (fun u M => u = .tuple #[vU32 r.1, vI r.2] ∧ M = [own b0_ (.cells #[vP b0x0_ 0, v0x1_, vU32 p0.gen, vU32 p0.boot, vU64 p0.seals, .map (some m0x5_)] 74), rowT 70 2 v0x1_ encKey p0.ring, mapC m0x5_ vU32 vB p0.taken, own b0x0_ (.cells #[vB p0_1.off, vB p0_1.isCut, vI p0_1.lasts, vI p0_1.counts, v0x0x4_, .map (some m0x0x5_), .map (some m0x0x6_), vU64 p0_1.rcnt, vS p0_1.rtag, vU32 p0_1.rboots] 66), rowT 9 1 v0x0x4_ eS p0_1.blocks, mapC m0x0x5_ vU32 vS p0_1.pend, mapC m0x0x6_ vU32 vB p0_1.bad]) := by
  unfold f_vault_Vault_Gen at h
  refine Con.enter Tryd.func21 rfl rfl ?_
  refine SX.sr ?_
  refine SL.box ⟨rfl, rfl, rfl, rfl⟩ rfl (fun _ => trivial) fun b1 => ?_
  refine SL.asg ⟨rfl, rfl, rfl, rfl⟩ rfl ?_
  refine SL.asg ⟨rfl, rfl, rfl, rfl⟩ rfl ?_
  refine SL.nx ?_
  refine SX.seq ?_
  refine SX.block ?_
  refine SX.sr ?_
  refine SL.mv ⟨rfl, rfl, rfl, rfl⟩ rfl ?_
  refine SL.eqPN ⟨rfl, rfl, rfl, rfl⟩ ty28 rfl rfl ?_
  refine SL.asg ⟨rfl, rfl, rfl, rfl⟩ rfl ?_
  refine SL.nx ?_
  refine SX.condF rfl ?_
  refine SX.sr ?_
  obtain ⟨y1, hy1, h⟩ := bnd h
  obtain ⟨x1, ex1, h⟩ := retE h
  refine SL.ldA [vU32 p1.page, vS p1.tag] ⟨rfl, rfl, rfl, rfl⟩ ag41 rfl rfl (cells_all 0 rfl) ?_
  refine SL.call (vs := [_]) (Hin := []) (Hr := _ :: _ :: _ :: _ :: _ :: _ :: _ :: _ :: _) ⟨rfl, rfl, rfl, rfl⟩ rfl ⟨rfl, trivial⟩ cal36 rfl rfl ((c_rows_RightRef hy1 :)) ?_
  rintro _ _ ⟨rfl, rfl⟩
  refine ⟨trivial, ?_⟩
  refine SL.not ⟨rfl, rfl, rfl, rfl⟩ rfl ?_
  refine SL.asgX (u := vB x1) ⟨rfl, rfl, rfl, rfl⟩ rfl (congrArg vB ex1) ?_
  refine SL.nx ?_
  refine SX.cond rfl (fun hc2 => ?_) (fun hc2 => ?_)
  · skip
    replace h := cT hc2 h
    refine SX.sr ?_
    refine SL.asg ⟨rfl, rfl, rfl, rfl⟩ rfl ?_
    refine SL.asg ⟨rfl, rfl, rfl, rfl⟩ rfl ?_
    refine SL.nx ?_
    refine SX.ret ?_
    refine SQ.blkR ?_
    refine SQ.thnR ?_
    obtain rfl := Option.some.inj h
    exact SQ.fret (res2 rfl rfl rfl) (ret_of (M := [_, _, _, _, _, _, _]) ⟨rfl, rfl⟩ fun _ hw => HpOk.pick (H := [_, _, _, _, _, _, _, _]) hw [1, 2, 3, 4, 5, 6, 7] 8 rfl)
  · skip
    replace h := cF hc2 h
    refine SX.skip ?_
    refine SQ.blk ?_
    refine SQ.thn ?_
    refine SX.sr ?_
    obtain ⟨y2, hy2, h⟩ := bnd h
    refine SL.mv ⟨rfl, rfl, rfl, rfl⟩ rfl ?_
    refine SL.fa ⟨rfl, rfl, rfl, rfl⟩ rfl fo41_0 ?_
    refine SL.ld ⟨rfl, rfl, rfl, rfl⟩ sc22 rfl (cell_own 0 rfl rfl) ?_
    refine SL.fa ⟨rfl, rfl, rfl, rfl⟩ rfl fo41_1 ?_
    refine SL.ld ⟨rfl, rfl, rfl, rfl⟩ sc9 rfl (cell_own 0 rfl rfl) ?_
    refine SL.pick [1, 2, 3, 4, 5, 6, 7, 0] 8 ?_
    refine SL.call (vs := [_, _, _]) (Hin := [_, _, _, _, _, _, _]) (Hr := _ :: _) ⟨rfl, rfl, rfl, rfl⟩ rfl ⟨rfl, rfl, rfl, trivial⟩ cal37 rfl rfl (c_vault_Vault_open hy2 hS) ?_
    rintro _ _ ⟨rfl, rfl⟩
    refine ⟨trivial, ?_⟩
    refine SL.mv ⟨rfl, rfl, rfl, rfl⟩ rfl ?_
    refine SL.ext ⟨rfl, rfl, rfl, rfl⟩ rfl rfl ?_
    refine SL.ext ⟨rfl, rfl, rfl, rfl⟩ rfl rfl ?_
    refine SL.ext ⟨rfl, rfl, rfl, rfl⟩ rfl rfl ?_
    refine SL.alloc ⟨rfl, rfl, rfl, rfl⟩ ze87 (fun _ => trivial) fun b2 => ?_
    refine SL.st 0 ⟨rfl, rfl, rfl⟩ rfl rfl rfl sz87 rfl rfl rfl trivial ?_
    refine SL.asg ⟨rfl, rfl, rfl, rfl⟩ rfl ?_
    refine SL.asg ⟨rfl, rfl, rfl, rfl⟩ rfl ?_
    refine SL.nx ?_
    refine SX.sr ?_
    refine SL.fa ⟨rfl, rfl, rfl, rfl⟩ rfl fo87_1 ?_
    refine SL.ld ⟨rfl, rfl, rfl, rfl⟩ sc22 rfl (cell_own 0 rfl rfl) ?_
    refine SL.mv ⟨rfl, rfl, rfl, rfl⟩ rfl ?_
    refine SL.asg ⟨rfl, rfl, rfl, rfl⟩ rfl ?_
    refine SL.asg ⟨rfl, rfl, rfl, rfl⟩ rfl ?_
    refine SL.nx ?_
    refine SX.ret ?_
    obtain rfl := Option.some.inj h
    exact SQ.fret (res2 rfl rfl rfl) (ret_of (M := [_, _, _, _, _, _, _]) ⟨rfl, rfl⟩ fun _ hw => HpOk.pick (H := [_, _, _, _, _, _, _, _, _]) hw [1, 2, 3, 4, 5, 6, 7] 9 rfl)


end Go.Proofs.YtddjneafgddlcaaDoor

/- The range over a vault's free blocks, left in its first round. Condition: at most 2^20 blocks. -/
namespace Go.Proofs.YtddjneafgddlcaaDoor
open Go
variable {K : Nat → Prop} {w0 : World} {H : List Chunk}

/-- the vault's chunks, and its device's -/
abbrev vltC (b mp bd pd bb : Nat) (vr vb : Value) (v : VltA) (d : DevA) (T : List Chunk) : List Chunk :=
  own b (.cells #[vP bd 0, vr, vU32 v.gen, vU32 v.boot, vU64 v.seals, .map (some mp)] 74) :: rowT 70 2 vr encKey v.ring :: mapC mp vU32 vB v.taken :: own bd (.cells #[vB d.off, vB d.isCut, vI d.lasts, vI d.counts, vb, .map (some pd), .map (some bb), vU64 d.rcnt, vS d.rtag, vU32 d.rboots] 66) :: rowT 9 1 vb eS d.blocks :: mapC pd vU32 vS d.pend :: mapC bb vU32 vB d.bad :: T
/-- is a place taken? -/
def takenA (v : VltA) (p : UInt32) : Bool := (mget v.taken p).getD false
/-- the least free place, from i on, k places far -/
def freeFrom (v : VltA) : Nat → Nat → List UInt32
  | _, 0 => []
  | i, k + 1 => if takenA v (UInt32.ofNat i) then freeFrom v (i + 1) k else [UInt32.ofNat i]
def freesO (v : VltA) (d : DevA) : Option (List UInt32) := if d.blocks.length ≤ 1048576 then some (freeFrom v 2 (d.blocks.length - 2)) else none
theorem isPage_eq (v : VltA) (d : DevA) (i : Nat) (hi : 2 ≤ i) (hn : i ≤ 1048576) : f_vault_Vault_isPage v d (UInt32.ofNat i) = some (decide (i < d.blocks.length)) := by
  have h1 : (UInt32.ofNat i).toNat = i := by simp; omega
  have h2 : decide ((2 : UInt32) ≤ UInt32.ofNat i) = true := by
    rw [decide_eq_true_eq, UInt32.le_iff_toNat_le, h1]
    exact hi
  unfold f_vault_Vault_isPage f_device_Device_Blocks
  rw [h2, h1]
  simp [andO]
theorem next_of (i : Nat) : UInt32.ofNat i + 1 = UInt32.ofNat (i + 1) := by
  apply UInt32.toNat_inj.1
  simp
set_option maxRecDepth 100000 in
theorem q_free (b mp bd pd bb bx : Nat) (vr vb : Value) (v : VltA) (d : DevA) (G1 : List Chunk) (hn : d.blocks.length ≤ 1048576) :
    SeqAt1 Tryd.prog K w0 49 [vP bx 0] [own bx (.cells #[vP b 0] 28)] (vltC b mp bd pd bb vr vb v d G1) eU32 (freeFrom v 2 (d.blocks.length - 2)) := by
  intro lp J X T rc hJ1 hy h0
  refine Con.enter Tryd.func49 rfl rfl ?_
  show SX _ _ _ _ _ _ _ _ _ (own bx (.cells #[vP b 0] 28) :: rc :: vltC b mp bd pd bb vr vb v d (G1 ++ T))
  refine SX.sr ?_
  refine SL.asg ⟨rfl, rfl, rfl, rfl⟩ rfl ?_
  refine SL.nx ?_
  refine SX.block ?_
  refine SX.mono (SX.loop (α := Nat) (fun x => 2 ≤ x ∧ x ≤ 1048576 ∧ (2 < x → x ≤ d.blocks.length) ∧ freeFrom v x (d.blocks.length - x) = freeFrom v 2 (d.blocks.length - 2)) (fun x => [(0, vY lp), (1, vP bx 0), (3, vU32 (UInt32.ofNat x))])
    (fun _ => own bx (.cells #[vP b 0] 28) :: rc :: vltC b mp bd pd bb vr vb v d (G1 ++ T))
    (fun x => 1048577 - x) (fun x D hp => ?_) 2 ⟨by omega, by omega, by omega, rfl⟩) (by repeat' (first | exact trivial | refine And.intro rfl ?_))
  obtain ⟨hx2, hxn, hxb, hxf⟩ := hp
  have hpg := isPage_eq v d x hx2 hxn
  refine SX.seq ?_
  refine SX.sr ?_
  refine SL.ld ⟨rfl, rfl, rfl, rfl⟩ sc28 rfl (cell_own 0 rfl rfl) ?_
  refine SL.mv ⟨rfl, rfl, rfl, rfl⟩ rfl ?_
  refine SL.pick [2, 3, 4, 5, 6, 7, 8, 0, 1] 9 ?_
  refine SL.call (vs := [_, _]) (Hin := [_, _, _, _, _, _, _]) (Hr := _ :: _ :: _) ⟨rfl, rfl, rfl, rfl⟩ rfl ⟨rfl, rfl, trivial⟩ cal38 rfl rfl (c_vault_Vault_isPage hpg) ?_
  rintro _ _ ⟨rfl, rfl⟩
  refine ⟨trivial, ?_⟩
  refine SL.nx ?_
  refine SX.cond rfl (fun hc => ?_) (fun hc => ?_)
  · skip
    have hlt : x < d.blocks.length := by simpa using hc
    refine SX.skip ?_
    refine SQ.thn ?_
    refine SX.seq ?_
    refine SX.block ?_
    refine SX.sr ?_
    refine SL.ld ⟨rfl, rfl, rfl, rfl⟩ sc28 rfl (cell_own 7 rfl rfl) ?_
    refine SL.nchk ⟨rfl, rfl, rfl, rfl⟩ rfl ?_
    refine SL.fa ⟨rfl, rfl, rfl, rfl⟩ rfl fo74_5 ?_
    refine SL.ld ⟨rfl, rfl, rfl, rfl⟩ sc60 rfl (cell_own 0 rfl rfl) ?_
    refine SL.mv ⟨rfl, rfl, rfl, rfl⟩ rfl ?_
    refine SL.lkp (zv := false) 2 (MapE.u32B ty22) ⟨rfl, rfl, rfl, rfl⟩ ty60 ze4 rfl rfl rfl ?_
    refine SL.not ⟨rfl, rfl, rfl, rfl⟩ rfl ?_
    refine SL.mv ⟨rfl, rfl, rfl, rfl⟩ rfl ?_
    have hk : d.blocks.length - x = (d.blocks.length - (x + 1)) + 1 := by omega
    refine SL.split 16 rfl (fun e => ?_) (fun e => ?_)
    · skip
      have ht : takenA v (UInt32.ofNat x) = false := by simpa [takenA] using e
      have hfr : freeFrom v 2 (d.blocks.length - 2) = [] ++ UInt32.ofNat x :: [] := by
        rw [← hxf, hk]
        simp [freeFrom, ht]
      refine SL.mv ⟨rfl, rfl, rfl, rfl⟩ rfl ?_
      refine SL.mv ⟨rfl, rfl, rfl, rfl⟩ rfl ?_
      refine SL.pick [7, 8, 0, 1, 2, 3, 4, 5, 6] 9 ?_
      refine SL.yld (M2 := [_]) (G := rc :: vltC b mp bd pd bb vr vb v d G1) (T := T) (vs := [_]) (ok := fun G1 => J ([] ++ [UInt32.ofNat x]) G1) (no := X) ⟨rfl, rfl, rfl, rfl⟩ rfl ⟨rfl, trivial⟩ rfl ?_ (fun bb G1 hG1 => ⟨trivial, ?_⟩)
      · intro M
        exact hy [] (UInt32.ofNat x) [] hfr _ h0 M
      obtain rfl : bb = false := by
        cases bb with
        | false => rfl
        | true => exact absurd (hJ1 _ _ hG1) (by simp)
      refine SL.not ⟨rfl, rfl, rfl, rfl⟩ rfl ?_
      refine SL.pk ⟨rfl, rfl, rfl, rfl⟩ rfl rfl ?_
      refine SL.nx ?_
      refine SX.condT rfl ?_
      refine SX.ret ?_
      refine SQ.blkR ?_
      refine SQ.thnR ?_
      refine SQ.lpR ?_
      refine SQ.blkR ?_
      exact SQ.fret (res0 rfl) (ret_of (M := G1) (.inr hG1) fun _ h => h.skip [_])
    · skip
      have ht : takenA v (UInt32.ofNat x) = true := by simpa [takenA] using e
      refine SL.pass rfl rfl rfl ?_
      refine SL.pass rfl rfl rfl ?_
      refine SL.pass rfl rfl rfl ?_
      refine SL.pass rfl rfl rfl ?_
      refine SL.pk ⟨rfl, rfl, rfl, rfl⟩ rfl rfl ?_
      refine SL.nx ?_
      refine SX.condF rfl ?_
      refine SX.skip ?_
      refine SQ.blk ?_
      refine SQ.thn ?_
      refine SX.region ?_
      refine SL.mv ⟨rfl, rfl, rfl, rfl⟩ rfl ?_
      refine SL.bin ⟨rfl, rfl, rfl, rfl⟩ rfl rfl (Bin.add32 (b := 1)) ?_
      refine SL.asgX (u := vU32 (UInt32.ofNat (x + 1))) ⟨rfl, rfl, rfl, rfl⟩ rfl (congrArg vU32 (next_of x)) ?_
      refine SL.nil ?_
      exact SQ.again (x + 1) ⟨by omega, by omega, fun _ => by omega, by rw [← hxf, hk]; simp [freeFrom, ht]⟩ (by omega) (by repeat' (first | exact trivial | refine And.intro rfl ?_)) (fun _ hw => HpOk.pick (H := [_, _, _, _, _, _, _, _, _]) hw [7, 8, 0, 1, 2, 3, 4, 5, 6] 9 rfl)
  · skip
    have hle : d.blocks.length ≤ x := by simpa using hc
    have hfr : freeFrom v 2 (d.blocks.length - 2) = [] := by
      rw [← hxf, show d.blocks.length - x = 0 by omega]
      rfl
    refine SX.exit ?_
    refine SQ.thnE ?_
    refine SQ.lpE ?_
    refine SQ.blkE ?_
    exact SQ.fend (res0 rfl) (ret_of (M := rc :: vltC b mp bd pd bb vr vb v d G1) (.inl (by rw [hfr]; exact h0)) fun _ hw => HpOk.pick (H := [_, _, _, _, _, _, _, _, _]) hw [8, 0, 1, 2, 3, 4, 5, 6] 9 rfl)
theorem q_frees {b mp bd pd bb bx : Nat} {vr vb : Value} {v : VltA} {d : DevA} {G1 : List Chunk} {xs : List UInt32} (h : freesO v d = some xs) :
    SeqAt1 Tryd.prog K w0 49 [vP bx 0] [own bx (.cells #[vP b 0] 28)] (vltC b mp bd pd bb vr vb v d G1) eU32 xs := by
  unfold freesO at h
  split at h
  · rename_i hn
    obtain rfl := Option.some.inj h
    exact q_free b mp bd pd bb bx vr vb v d G1 hn
  · cases h
def freeO (_ : VltA) (_ : DevA) : Option Unit := some ()
theorem w_free {b : Nat} {v : VltA} {d : DevA} {r : Unit} (_ : freeO v d = some r) : Con Tryd.prog K w0 32 [vP b 0] [] H (fun u M => ∃ bx : Nat, u = .func (.func 49) #[] #[vP bx 0] ∧ M = [own bx (.cells #[vP b 0] 28)]) := by
  refine Con.enter Tryd.func32 rfl rfl ?_
  refine SX.sr ?_
  refine SL.box ⟨rfl, rfl, rfl, rfl⟩ rfl (fun _ => trivial) fun b0 => ?_
  refine SL.asg ⟨rfl, rfl, rfl, rfl⟩ rfl ?_
  refine SL.nx ?_
  refine SX.sr ?_
  refine SL.mkf (fv := #[]) (cv := #[_]) ⟨rfl, rfl, rfl, rfl⟩ rfl rfl ?_
  refine SL.asg ⟨rfl, rfl, rfl, rfl⟩ rfl ?_
  refine SL.nx ?_
  refine SX.ret ?_
  exact SQ.fret (res1 rfl rfl) (ret_of (M := [_]) ⟨_, rfl, rfl⟩ fun _ h => h.skip [])
end Go.Proofs.YtddjneafgddlcaaDoor

/- Plain functions of the references and the laws, printed from the loaded program, and the walks that show that the program computes them. Condition: the plain function yields. -/
namespace Go.Proofs.YtddjneafgddlcaaDoor
open Go
variable {K : Nat → Prop} {w0 : World} {H : List Chunk}

def f_vault_Vault_Write_j1 (T : List UInt32) (p0 : VltA) (p0_1 : DevA) (p1 : List UInt8) (y1 : UInt32) : Option (RefA × Int × VltA × DevA) :=
  cond (decide (y1 = 0))
  (
    some ((⟨0, []⟩ : RefA), 110, p0, p0_1))
  (
    (f_vault_Vault_seal T p0 p0_1 y1 p1).bind fun y4 =>
    cond (!decide (y4.2.1 = 0))
    (
      some ((⟨0, []⟩ : RefA), y4.2.1, y4.2.2.1, y4.2.2.2))
    (
      (mputI y4.2.2.1.taken y1 true).bind fun l1 =>
      some ((⟨y1, y4.1⟩ : RefA), 0, { y4.2.2.1 with taken := l1 }, y4.2.2.2)))
def f_vault_Vault_Write_j3 (T : List UInt32) (p0 : VltA) (p0_1 : DevA) (p1 : List UInt8) (y3 : UInt32) : Option (RefA × Int × VltA × DevA) :=
  f_vault_Vault_Write_j1 T p0 p0_1 p1 y3
def f_vault_Vault_Write_j2 (T : List UInt32) (p0 : VltA) (p0_1 : DevA) (p1 : List UInt8) (y3 : UInt32) : Option (RefA × Int × VltA × DevA) :=
  f_vault_Vault_Write_j1 T p0 p0_1 p1 y3
def f_vault_Vault_Write_r1_b (T : List UInt32) (p0 : VltA) (p0_1 : DevA) (p1 : List UInt8) (nx_f_vault_Vault_Write_r1 : UInt32 → Option (RefA × Int × VltA × DevA)) (e1 : UInt32) (y3 : UInt32) : Option (RefA × Int × VltA × DevA) :=
  f_vault_Vault_Write_j3 T p0 p0_1 p1 e1
def f_vault_Vault_Write_r1 (T : List UInt32) (p0 : VltA) (p0_1 : DevA) (p1 : List UInt8) : List (UInt32) → UInt32 → Option (RefA × Int × VltA × DevA) := rangeL (fun nx e x => f_vault_Vault_Write_r1_b T p0 p0_1 p1 nx e x) (fun x => f_vault_Vault_Write_j2 T p0 p0_1 p1 x)
def f_vault_Vault_Write (T : List UInt32) (p0 : VltA) (p0_1 : DevA) (p1 : List UInt8) : Option (RefA × Int × VltA × DevA) :=
  ret (decide (198 < (p1.length : Int))) fun x1 =>
  cond x1
  (
    some ((⟨0, []⟩ : RefA), 50, p0, p0_1))
  (
    (freeO p0 p0_1).bind fun y2 =>
    (freesO p0 p0_1).bind fun xs1 =>
    f_vault_Vault_Write_r1 T p0 p0_1 p1 xs1 0)
set_option maxRecDepth 100000 in
theorem c_vault_Vault_Write {T : List UInt32} {b0_ : Nat} {v0x1_ : Value} {m0x5_ : Nat} {b0x0_ : Nat} {v0x0x4_ : Value} {m0x0x5_ : Nat} {m0x0x6_ : Nat} {p0 : VltA} {p0_1 : DevA} {p1 : List UInt8} {r : RefA × Int × VltA × DevA} (h : f_vault_Vault_Write T p0 p0_1 p1 = some r) (hS : ShaT K w0 T) : Con Tryd.prog K w0 16 [vP b0_ 0, vS p1] [own b0_ (.cells #[vP b0x0_ 0, v0x1_, vU32 p0.gen, vU32 p0.boot, vU64 p0.seals, .map (some m0x5_)] 74), rowT 70 2 v0x1_ encKey p0.ring, mapC m0x5_ vU32 vB p0.taken, own b0x0_ (.cells #[vB p0_1.off, vB p0_1.isCut, vI p0_1.lasts, vI p0_1.counts, v0x0x4_, .map (some m0x0x5_), .map (some m0x0x6_), vU64 p0_1.rcnt, vS p0_1.rtag, vU32 p0_1.rboots] 66), rowT 9 1 v0x0x4_ eS p0_1.blocks, mapC m0x0x5_ vU32 vS p0_1.pend, mapC m0x0x6_ vU32 vB p0_1.bad] H (fun u M => u = .tuple #[.agg (encRef r.1).toArray, vI r.2.1] ∧ M = [own b0_ (.cells #[vP b0x0_ 0, v0x1_, vU32 r.2.2.1.gen, vU32 r.2.2.1.boot, vU64 r.2.2.1.seals, .map (some m0x5_)] 74), rowT 70 2 v0x1_ encKey r.2.2.1.ring, mapC m0x5_ vU32 vB r.2.2.1.taken, own b0x0_ (.cells #[vB r.2.2.2.off, vB r.2.2.2.isCut, vI r.2.2.2.lasts, vI r.2.2.2.counts, v0x0x4_, .map (some m0x0x5_), .map (some m0x0x6_), vU64 r.2.2.2.rcnt, vS r.2.2.2.rtag, vU32 r.2.2.2.rboots] 66), rowT 9 1 v0x0x4_ eS r.2.2.2.blocks, mapC m0x0x5_ vU32 vS r.2.2.2.pend, mapC m0x0x6_ vU32 vB r.2.2.2.bad]) := by
  unfold f_vault_Vault_Write at h
  refine Con.enter Tryd.func16 rfl rfl ?_
  refine SX.sr ?_
  refine SL.alloc ⟨rfl, rfl, rfl, rfl⟩ ze41 (fun _ => trivial) fun b1 => ?_
  refine SL.asg ⟨rfl, rfl, rfl, rfl⟩ rfl ?_
  refine SL.nx ?_
  refine SX.scope ?_
  refine SX.seq ?_
  refine SX.block ?_
  refine SX.sr ?_
  refine SL.mv ⟨rfl, rfl, rfl, rfl⟩ rfl ?_
  refine SL.eqPN ⟨rfl, rfl, rfl, rfl⟩ ty28 rfl rfl ?_
  refine SL.asg ⟨rfl, rfl, rfl, rfl⟩ rfl ?_
  refine SL.nx ?_
  refine SX.condF rfl ?_
  refine SX.sr ?_
  obtain ⟨x1, ex1, h⟩ := retE h
  refine SL.mv ⟨rfl, rfl, rfl, rfl⟩ rfl ?_
  refine SL.lenS ⟨rfl, rfl, rfl, rfl⟩ ty9 rfl ?_
  refine SL.bin ⟨rfl, rfl, rfl, rfl⟩ rfl rfl Bin.gtI ?_
  refine SL.asgX (u := vB x1) ⟨rfl, rfl, rfl, rfl⟩ rfl (congrArg vB ex1) ?_
  refine SL.nx ?_
  refine SX.cond rfl (fun hc2 => ?_) (fun hc2 => ?_)
  · skip
    replace h := cT hc2 h
    refine SX.sr ?_
    refine SL.bld [] ⟨rfl, rfl, rfl, rfl⟩ pl41 pk41 ze41 trivial rfl ?_
    refine SL.st 0 ⟨rfl, rfl, rfl⟩ rfl rfl rfl sz41 rfl rfl rfl trivial ?_
    refine SL.asg ⟨rfl, rfl, rfl, rfl⟩ rfl ?_
    refine SL.nx ?_
    refine SX.ret ?_
    refine SQ.blkR ?_
    refine SQ.thnR ?_
    refine SQ.scpR ?_
    obtain rfl := Option.some.inj h
    exact SQ.fret (resv2 rfl (resv.ag 0 (encRef (⟨0, []⟩ : RefA)) ag41 rfl rfl rfl rfl) rfl) (ret_of (M := [_, _, _, _, _, _, _]) ⟨rfl, rfl⟩ fun _ hw => HpOk.pick (H := [_, _, _, _, _, _, _, _]) hw [1, 2, 3, 4, 5, 6, 7] 8 rfl)
  · skip
    replace h := cF hc2 h
    refine SX.skip ?_
    refine SQ.blk ?_
    refine SQ.thn ?_
    refine SX.sr ?_
    refine SL.alloc ⟨rfl, rfl, rfl, rfl⟩ ze22 (fun _ => trivial) fun b2 => ?_
    refine SL.st 0 ⟨rfl, rfl, rfl⟩ rfl rfl rfl sz22 rfl rfl rfl trivial ?_
    refine SL.nx ?_
    refine SX.seq ?_
    refine SX.label ?_
    refine SQ.thn ?_
    refine SX.meetD (α := UInt32) (fun x => f_vault_Vault_Write_j1 T p0 p0_1 p1 x = some r) (fun x => [(0, vP b0_ 0), (1, vS p1), (4, vP b1 0), (6, vP b2 0)]) (fun x => own b0_ (.cells #[vP b0x0_ 0, v0x1_, vU32 p0.gen, vU32 p0.boot, vU64 p0.seals, .map (some m0x5_)] 74) :: own b0x0_ (.cells #[vB p0_1.off, vB p0_1.isCut, vI p0_1.lasts, vI p0_1.counts, v0x0x4_, .map (some m0x0x5_), .map (some m0x0x6_), vU64 p0_1.rcnt, vS p0_1.rtag, vU32 p0_1.rboots] 66) :: rowT 9 1 v0x0x4_ eS p0_1.blocks :: mapC m0x0x5_ vU32 vS p0_1.pend :: mapC m0x0x6_ vU32 vB p0_1.bad :: rowT 70 2 v0x1_ encKey p0.ring :: mapC m0x5_ vU32 vB p0.taken :: own b1 (.cells #[vU32 0, vS []] 41) :: own b2 (.cells #[vU32 x] 22) :: H) ?_ (fun y1 D h => ?_)
    · skip
      refine SX.sr ?_
      obtain ⟨y2, hy2, h⟩ := bnd h
      refine SL.mv ⟨rfl, rfl, rfl, rfl⟩ rfl ?_
      refine SL.call (vs := [_]) (Hin := []) (Hr := _ :: _ :: _ :: _ :: _ :: _ :: _ :: _ :: _ :: _) ⟨rfl, rfl, rfl, rfl⟩ rfl ⟨rfl, trivial⟩ cal32 rfl rfl (w_free hy2) ?_
      rintro _ _ ⟨b3, rfl, rfl⟩
      refine ⟨trivial, ?_⟩
      refine SL.nx ?_
      refine SX.block ?_
      obtain ⟨xs1, hxs1, h⟩ := bnd h
      refine SX.heap (SX.rangeAt1 (enc := eU32) xs1 (G0 := own b0_ (.cells #[vP b0x0_ 0, v0x1_, vU32 p0.gen, vU32 p0.boot, vU64 p0.seals, .map (some m0x5_)] 74) :: rowT 70 2 v0x1_ encKey p0.ring :: mapC m0x5_ vU32 vB p0.taken :: own b0x0_ (.cells #[vB p0_1.off, vB p0_1.isCut, vI p0_1.lasts, vI p0_1.counts, v0x0x4_, .map (some m0x0x5_), .map (some m0x0x6_), vU64 p0_1.rcnt, vS p0_1.rtag, vU32 p0_1.rboots] 66) :: rowT 9 1 v0x0x4_ eS p0_1.blocks :: mapC m0x0x5_ vU32 vS p0_1.pend :: mapC m0x0x6_ vU32 vB p0_1.bad :: own b1 (.cells #[vU32 0, vS []] 41) :: own b2 (.cells #[vU32 0] 22) :: H) (fun pre G => pre = [] ∧ ∃ x : UInt32, (∀ suf, xs1 = pre ++ suf → f_vault_Vault_Write_r1 T p0 p0_1 p1 suf x = some r) ∧ G = own b0_ (.cells #[vP b0x0_ 0, v0x1_, vU32 p0.gen, vU32 p0.boot, vU64 p0.seals, .map (some m0x5_)] 74) :: rowT 70 2 v0x1_ encKey p0.ring :: mapC m0x5_ vU32 vB p0.taken :: own b0x0_ (.cells #[vB p0_1.off, vB p0_1.isCut, vI p0_1.lasts, vI p0_1.counts, v0x0x4_, .map (some m0x0x5_), .map (some m0x0x6_), vU64 p0_1.rcnt, vS p0_1.rtag, vU32 p0_1.rboots] 66) :: rowT 9 1 v0x0x4_ eS p0_1.blocks :: mapC m0x0x5_ vU32 vS p0_1.pend :: mapC m0x0x6_ vU32 vB p0_1.bad :: own b1 (.cells #[vU32 0, vS []] 41) :: own b2 (.cells #[vU32 x] 22) :: H) (fun c G => (c = .exit 1 ∧ ∃ x : UInt32, f_vault_Vault_Write_j3 T p0 p0_1 p1 x = some r ∧ G = own b0_ (.cells #[vP b0x0_ 0, v0x1_, vU32 p0.gen, vU32 p0.boot, vU64 p0.seals, .map (some m0x5_)] 74) :: rowT 70 2 v0x1_ encKey p0.ring :: mapC m0x5_ vU32 vB p0.taken :: own b0x0_ (.cells #[vB p0_1.off, vB p0_1.isCut, vI p0_1.lasts, vI p0_1.counts, v0x0x4_, .map (some m0x0x5_), .map (some m0x0x6_), vU64 p0_1.rcnt, vS p0_1.rtag, vU32 p0_1.rboots] 66) :: rowT 9 1 v0x0x4_ eS p0_1.blocks :: mapC m0x0x5_ vU32 vS p0_1.pend :: mapC m0x0x6_ vU32 vB p0_1.bad :: own b1 (.cells #[vU32 0, vS []] 41) :: own b2 (.cells #[vU32 x] 22) :: H)) rfl cal49 rfl (fun _ => rfl) (q_frees hxs1) rfl ⟨rfl, 0, fun suf e => by rw [← show xs1 = suf from e]; exact h, rfl⟩ (fun _ _ h => h.1) (fun pre e1 suf1 G hpre hJ lr lp Rest => ?_) (fun G D hJ => ?_) (fun c G D hX => ?_)) (fun _ hw => HpOk.pick (H := [_, _, _, _, _, _, _, _, _, _]) hw [0, 3, 4, 5, 6, 7, 8, 9, 2, 1] 10 rfl)
      · skip
        replace hJ := hJ.2
        obtain ⟨y3, h, rfl⟩ := hJ
        replace h : f_vault_Vault_Write_r1_b T p0 p0_1 p1 (f_vault_Vault_Write_r1 T p0 p0_1 p1 suf1) e1 y3 = some r := h _ hpre
        unfold f_vault_Vault_Write_r1_b at h
        refine SX.region ?_
        refine SL.asg ⟨rfl, rfl, rfl, rfl⟩ rfl ?_
        refine SL.nil ?_
        refine SQ.bgn ?_
        refine SX.block ?_
        refine SX.sr ?_
        refine SL.mv ⟨rfl, rfl, rfl, rfl⟩ rfl ?_
        refine SL.st 8 ⟨rfl, rfl, rfl⟩ rfl rfl rfl sz22 rfl rfl rfl trivial ?_
        refine SL.nx ?_
        refine SX.exit ?_
        refine SQ.blkO ?_
        exact SQ.rndE ⟨rfl, e1, h, rfl⟩ (fun _ hw => HpOk.pick (H := [_, _, _, _, _, _, _, _, _]) hw [0, 1, 2, 3, 4, 5, 6, 7, 8] 9 rfl)
      · skip
        replace hJ := hJ.2
        obtain ⟨y3, h, rfl⟩ := hJ
        replace h : f_vault_Vault_Write_j2 T p0 p0_1 p1 y3 = some r := h [] (List.append_nil _).symm
        unfold f_vault_Vault_Write_j2 at h
        refine SQ.blk ?_
        exact SQ.midD y3 h (by repeat' (first | exact trivial | refine And.intro rfl ?_)) (fun _ hw => HpOk.pick (H := [_, _, _, _, _, _, _, _, _]) hw [0, 3, 4, 5, 6, 1, 2, 7, 8] 9 rfl)
      · skip
        obtain ⟨rfl, hJ⟩ := hX
        obtain ⟨y3, h, rfl⟩ := hJ
        unfold f_vault_Vault_Write_j3 at h
        refine SX.exit ?_
        refine SQ.blkE ?_
        exact SQ.midD y3 h (by repeat' (first | exact trivial | refine And.intro rfl ?_)) (fun _ hw => HpOk.pick (H := [_, _, _, _, _, _, _, _, _]) hw [0, 3, 4, 5, 6, 1, 2, 7, 8] 9 rfl)
    · skip
      unfold f_vault_Vault_Write_j1 at h
      refine SX.re [(0, vP b0_ 0), (1, vS p1), (4, vP b1 0), (6, vP b2 0)] (own b0_ (.cells #[vP b0x0_ 0, v0x1_, vU32 p0.gen, vU32 p0.boot, vU64 p0.seals, .map (some m0x5_)] 74) :: own b0x0_ (.cells #[vB p0_1.off, vB p0_1.isCut, vI p0_1.lasts, vI p0_1.counts, v0x0x4_, .map (some m0x0x5_), .map (some m0x0x6_), vU64 p0_1.rcnt, vS p0_1.rtag, vU32 p0_1.rboots] 66) :: rowT 9 1 v0x0x4_ eS p0_1.blocks :: mapC m0x0x5_ vU32 vS p0_1.pend :: mapC m0x0x6_ vU32 vB p0_1.bad :: rowT 70 2 v0x1_ encKey p0.ring :: mapC m0x5_ vU32 vB p0.taken :: own b1 (.cells #[vU32 0, vS []] 41) :: own b2 (.cells #[vU32 y1] 22) :: H) ?_ (by repeat' (first | exact trivial | refine And.intro rfl ?_))
      refine SX.seq ?_
      refine SX.sr ?_
      refine SL.ld ⟨rfl, rfl, rfl, rfl⟩ sc22 rfl (cell_own 8 rfl rfl) ?_
      refine SL.bin ⟨rfl, rfl, rfl, rfl⟩ rfl rfl (Bin.eq32 (b := 0)) ?_
      refine SL.nx ?_
      refine SX.cond rfl (fun hc3 => ?_) (fun hc3 => ?_)
      · skip
        replace h := cT hc3 h
        refine SX.sr ?_
        refine SL.bld [] ⟨rfl, rfl, rfl, rfl⟩ pl41 pk41 ze41 trivial rfl ?_
        refine SL.st 7 ⟨rfl, rfl, rfl⟩ rfl rfl rfl sz41 rfl rfl rfl trivial ?_
        refine SL.asg ⟨rfl, rfl, rfl, rfl⟩ rfl ?_
        refine SL.nx ?_
        refine SX.ret ?_
        refine SQ.thnR ?_
        refine SQ.scpR ?_
        obtain rfl := Option.some.inj h
        exact SQ.fret (resv2 rfl (resv.ag 7 (encRef (⟨0, []⟩ : RefA)) ag41 rfl rfl rfl rfl) rfl) (ret_of (M := [_, _, _, _, _, _, _]) ⟨rfl, rfl⟩ fun _ hw => HpOk.pick (H := [_, _, _, _, _, _, _, _, _]) hw [0, 5, 6, 1, 2, 3, 4] 9 rfl)
      · skip
        replace h := cF hc3 h
        refine SX.skip ?_
        refine SQ.thn ?_
        refine SX.sr ?_
        obtain ⟨y4, hy4, h⟩ := bnd h
        refine SL.mv ⟨rfl, rfl, rfl, rfl⟩ rfl ?_
        refine SL.ld ⟨rfl, rfl, rfl, rfl⟩ sc22 rfl (cell_own 8 rfl rfl) ?_
        refine SL.mv ⟨rfl, rfl, rfl, rfl⟩ rfl ?_
        refine SL.pick [0, 5, 6, 1, 2, 3, 4] 7 ?_
        refine SL.call (vs := [_, _, _]) (Hin := [_, _, _, _, _, _, _]) (Hr := _ :: _ :: _) ⟨rfl, rfl, rfl, rfl⟩ rfl ⟨rfl, rfl, rfl, trivial⟩ cal33 rfl rfl (c_vault_Vault_seal hy4 hS) ?_
        rintro _ _ ⟨rfl, rfl⟩
        refine ⟨trivial, ?_⟩
        refine SL.mv ⟨rfl, rfl, rfl, rfl⟩ rfl ?_
        refine SL.ext ⟨rfl, rfl, rfl, rfl⟩ rfl rfl ?_
        refine SL.ext ⟨rfl, rfl, rfl, rfl⟩ rfl rfl ?_
        refine SL.asg ⟨rfl, rfl, rfl, rfl⟩ rfl ?_
        refine SL.asg ⟨rfl, rfl, rfl, rfl⟩ rfl ?_
        refine SL.nx ?_
        refine SX.seq ?_
        refine SX.sr ?_
        refine SL.mv ⟨rfl, rfl, rfl, rfl⟩ rfl ?_
        refine SL.bin ⟨rfl, rfl, rfl, rfl⟩ rfl rfl Bin.neI ?_
        refine SL.nx ?_
        refine SX.cond rfl (fun hc4 => ?_) (fun hc4 => ?_)
        · skip
          replace h := cT hc4 h
          refine SX.sr ?_
          refine SL.bld [] ⟨rfl, rfl, rfl, rfl⟩ pl41 pk41 ze41 trivial rfl ?_
          refine SL.mv ⟨rfl, rfl, rfl, rfl⟩ rfl ?_
          refine SL.st 7 ⟨rfl, rfl, rfl⟩ rfl rfl rfl sz41 rfl rfl rfl trivial ?_
          refine SL.asg ⟨rfl, rfl, rfl, rfl⟩ rfl ?_
          refine SL.nx ?_
          refine SX.ret ?_
          refine SQ.thnR ?_
          refine SQ.scpR ?_
          obtain rfl := Option.some.inj h
          exact SQ.fret (resv2 rfl (resv.ag 7 (encRef (⟨0, []⟩ : RefA)) ag41 rfl rfl rfl rfl) rfl) (ret_of (M := [_, _, _, _, _, _, _]) ⟨rfl, rfl⟩ fun _ hw => HpOk.pick (H := [_, _, _, _, _, _, _, _, _]) hw [0, 1, 2, 3, 4, 5, 6] 9 rfl)
        · skip
          replace h := cF hc4 h
          refine SX.skip ?_
          refine SQ.thn ?_
          refine SX.seq ?_
          obtain ⟨l1, hl1, h⟩ := bnd h
          refine SX.drawI mix [0, 8] (Pl.ap [(true, 0), (true, 1), (true, 2), (true, 3), (true, 4)] (.last 5 .nil)) (by kernel_rfl) ?_
          refine SL.mv ⟨rfl, rfl, rfl, rfl⟩ rfl ?_
          refine SL.nchk ⟨rfl, rfl, rfl, rfl⟩ rfl ?_
          refine SL.fa ⟨rfl, rfl, rfl, rfl⟩ rfl fo74_5 ?_
          refine SL.ld ⟨rfl, rfl, rfl, rfl⟩ sc60 rfl (cell_own 0 rfl rfl) ?_
          refine SL.ld ⟨rfl, rfl, rfl, rfl⟩ sc22 rfl (cell_own 1 rfl rfl) ?_
          refine SL.last ?_
          refine SL.mupN 2 hl1 (MapE.u32B ty22) ⟨rfl, rfl, rfl⟩ ty60 rfl rfl rfl rfl trivial ?_
          refine SL.nx ?_
          refine SX.sr ?_
          refine SL.ld ⟨rfl, rfl, rfl, rfl⟩ sc22 rfl (cell_own 8 rfl rfl) ?_
          refine SL.mv ⟨rfl, rfl, rfl, rfl⟩ rfl ?_
          refine SL.bld [_, _] ⟨rfl, rfl, rfl, rfl⟩ pl41 pk41 ze41 ⟨rfl, rfl, trivial⟩ rfl ?_
          refine SL.st 7 ⟨rfl, rfl, rfl⟩ rfl rfl rfl sz41 rfl rfl rfl trivial ?_
          refine SL.asg ⟨rfl, rfl, rfl, rfl⟩ rfl ?_
          refine SL.nx ?_
          refine SX.ret ?_
          refine SQ.scpR ?_
          obtain rfl := Option.some.inj h
          exact SQ.fret (resv2 rfl (resv.ag 7 (encRef (⟨y1, y4.1⟩ : RefA)) ag41 rfl rfl rfl rfl) rfl) (ret_of (M := [_, _, _, _, _, _, _]) ⟨rfl, rfl⟩ fun _ hw => HpOk.pick (H := [_, _, _, _, _, _, _, _, _]) hw [0, 1, 2, 3, 4, 5, 6] 9 rfl)

def f_law13_made (n : Nat) (p0 : Int) : Option (Option (VltA × DevA × RVltA × RDevA) × Bool) :=
  (f_device_New p0).bind fun y1 =>
  (y1.1).bind fun d1 =>
  (f_ref07_New n p0).bind fun y2 =>
  (y2.1).bind fun d2 =>
  cond ((!decide (y1.2 = 0)) || (!decide (y2.2 = 0)))
  (
    some (none, false))
  (
    (f_law13_Ring n 2).bind fun y3 =>
    (f_vault_New d1 y3 1 7).bind fun y4 =>
    (y4.1).bind fun d3 =>
    (f_law13_Ring n 2).bind fun y5 =>
    (f_ref13_New n d2 y5 1 7).bind fun y6 =>
    (y6.1).bind fun d4 =>
    ret ((decide (y4.2 = 0)) && (decide (y6.2 = 0))) fun x1 =>
    some (some (d3, d1, d4, d2), x1))
set_option maxRecDepth 100000 in
theorem c_law13_made {n : Nat} {p0 : Int} {r : Option (VltA × DevA × RVltA × RDevA) × Bool} (h : f_law13_made n p0 = some r)  : Con Tryd.prog K w0 15 [vI p0] [] H (fun u M => (r.1 = none ∧ u = .tuple #[.pointer none, .pointer none, .pointer none, vB r.2] ∧ M = []) ∨ (∃ (d : VltA × DevA × RVltA × RDevA) (bn0 : Nat) (vn0x1 : Value) (mn0x5 : Nat) (bn1 : Nat) (vn1x4 : Value) (mn1x5 : Nat) (mn1x6 : Nat) (bn2 : Nat) (vn2x1 : Value) (vn2x5 : Value) (bn3 : Nat) (vn3x0 : Value) (vn3x1 : Value) (vn3x2 : Value), r.1 = some d ∧ u = .tuple #[vP bn0 0, vP bn1 0, vP bn2 0, vB r.2] ∧ M = [own bn0 (.cells #[vP bn1 0, vn0x1, vU32 d.1.gen, vU32 d.1.boot, vU64 d.1.seals, .map (some mn0x5)] 74), rowT 70 2 vn0x1 encKey d.1.ring, mapC mn0x5 vU32 vB d.1.taken, own bn1 (.cells #[vB d.2.1.off, vB d.2.1.isCut, vI d.2.1.lasts, vI d.2.1.counts, vn1x4, .map (some mn1x5), .map (some mn1x6), vU64 d.2.1.rcnt, vS d.2.1.rtag, vU32 d.2.1.rboots] 66), rowT 9 1 vn1x4 eS d.2.1.blocks, mapC mn1x5 vU32 vS d.2.1.pend, mapC mn1x6 vU32 vB d.2.1.bad, own bn2 (.cells #[vP bn3 0, vn2x1, vU32 d.2.2.1.gen, vU32 d.2.2.1.boot, vU64 d.2.2.1.num, vn2x5] 110), rowT 70 2 vn2x1 encKey d.2.2.1.ring, rowT 4 1 vn2x5 eB d.2.2.1.taken, own bn3 (.cells #[vn3x0, vn3x1, vn3x2, vU64 d.2.2.2.rcnt, vS d.2.2.2.rtag, vU32 d.2.2.2.rboots, vI d.2.2.2.left, vB d.2.2.2.off] 108), rowT 9 1 vn3x0 eS d.2.2.2.blk, rowT 9 1 vn3x1 eS d.2.2.2.pnd, rowT 4 1 vn3x2 eB d.2.2.2.bads])) := by
  unfold f_law13_made at h
  refine Con.enter Tryd.func15 rfl rfl ?_
  refine SX.sr ?_
  refine SL.asg ⟨rfl, rfl, rfl, rfl⟩ rfl ?_
  refine SL.asg ⟨rfl, rfl, rfl, rfl⟩ rfl ?_
  refine SL.asg ⟨rfl, rfl, rfl, rfl⟩ rfl ?_
  refine SL.asg ⟨rfl, rfl, rfl, rfl⟩ rfl ?_
  refine SL.nx ?_
  refine SX.sr ?_
  obtain ⟨y1, hy1, h⟩ := bnd h
  obtain ⟨d1, hd1, h⟩ := bnd h
  refine SL.mv ⟨rfl, rfl, rfl, rfl⟩ rfl ?_
  refine SL.call (vs := [_]) (Hin := []) (Hr := _) ⟨rfl, rfl, rfl, rfl⟩ rfl ⟨rfl, trivial⟩ cal10 rfl rfl (c_device_New hy1) ?_
  rintro _ _ (⟨hn, -, -⟩ | ⟨d_, b1, v1, m1, m2, hn, rfl, rfl⟩)
  · rw [hd1] at hn; cases hn
  obtain rfl : d1 = d_ := Option.some.inj (hd1.symm.trans hn)
  refine ⟨trivial, ?_⟩
  refine SL.mv ⟨rfl, rfl, rfl, rfl⟩ rfl ?_
  refine SL.ext ⟨rfl, rfl, rfl, rfl⟩ rfl rfl ?_
  refine SL.ext ⟨rfl, rfl, rfl, rfl⟩ rfl rfl ?_
  refine SL.asg ⟨rfl, rfl, rfl, rfl⟩ rfl ?_
  refine SL.asg ⟨rfl, rfl, rfl, rfl⟩ rfl ?_
  refine SL.nx ?_
  refine SX.sr ?_
  obtain ⟨y2, hy2, h⟩ := bnd h
  obtain ⟨d2, hd2, h⟩ := bnd h
  refine SL.mv ⟨rfl, rfl, rfl, rfl⟩ rfl ?_
  refine SL.call (vs := [_]) (Hin := []) (Hr := _ :: _ :: _ :: _ :: _) ⟨rfl, rfl, rfl, rfl⟩ rfl ⟨rfl, trivial⟩ cal30 rfl rfl (c_ref07_New hy2) ?_
  rintro _ _ (⟨hn, -, -⟩ | ⟨d_, b2, v2, v3, v4, hn, rfl, rfl⟩)
  · rw [hd2] at hn; cases hn
  obtain rfl : d2 = d_ := Option.some.inj (hd2.symm.trans hn)
  refine ⟨trivial, ?_⟩
  refine SL.mv ⟨rfl, rfl, rfl, rfl⟩ rfl ?_
  refine SL.ext ⟨rfl, rfl, rfl, rfl⟩ rfl rfl ?_
  refine SL.ext ⟨rfl, rfl, rfl, rfl⟩ rfl rfl ?_
  refine SL.asg ⟨rfl, rfl, rfl, rfl⟩ rfl ?_
  refine SL.asg ⟨rfl, rfl, rfl, rfl⟩ rfl ?_
  refine SL.nx ?_
  refine SX.seq ?_
  refine SX.sr ?_
  refine SL.mv ⟨rfl, rfl, rfl, rfl⟩ rfl ?_
  refine SL.bin ⟨rfl, rfl, rfl, rfl⟩ rfl rfl Bin.neI ?_
  refine SL.mv ⟨rfl, rfl, rfl, rfl⟩ rfl ?_
  refine SL.or (c := !decide (y2.2 = 0)) 26 3 29 rfl (fun hb k => ?_) (fun hb k => ?_) ?_
  · skip
    refine SL.pass rfl rfl rfl ?_
    refine SL.pass rfl rfl rfl ?_
    refine SL.pk ⟨rfl, rfl, rfl, rfl⟩ rfl rfl ?_
    exact k.mono (by repeat' (first | exact trivial | refine And.intro rfl ?_))
  · skip
    refine SL.mv ⟨rfl, rfl, rfl, rfl⟩ rfl ?_
    refine SL.bin ⟨rfl, rfl, rfl, rfl⟩ rfl rfl Bin.neI ?_
    refine SL.pk ⟨rfl, rfl, rfl, rfl⟩ rfl rfl ?_
    exact k.mono (by repeat' (first | exact trivial | refine And.intro rfl ?_))
  refine SL.nx ?_
  refine SX.cond rfl (fun hc1 => ?_) (fun hc1 => ?_)
  · skip
    replace h := cT hc1 h
    refine SX.sr ?_
    refine SL.asg ⟨rfl, rfl, rfl, rfl⟩ rfl ?_
    refine SL.asg ⟨rfl, rfl, rfl, rfl⟩ rfl ?_
    refine SL.asg ⟨rfl, rfl, rfl, rfl⟩ rfl ?_
    refine SL.asg ⟨rfl, rfl, rfl, rfl⟩ rfl ?_
    refine SL.nx ?_
    refine SX.ret ?_
    refine SQ.thnR ?_
    obtain rfl := Option.some.inj h
    exact SQ.fret (res4 rfl rfl rfl rfl rfl) (ret_of (M := []) (.inl ⟨rfl, rfl, rfl⟩) fun _ hw => HpOk.pick (H := [_, _, _, _, _, _, _, _]) hw [] 8 rfl)
  · skip
    replace h := cF hc1 h
    refine SX.skip ?_
    refine SQ.thn ?_
    refine SX.sr ?_
    obtain ⟨y3, hy3, h⟩ := bnd h
    obtain ⟨y4, hy4, h⟩ := bnd h
    obtain ⟨d3, hd3, h⟩ := bnd h
    refine SL.mv ⟨rfl, rfl, rfl, rfl⟩ rfl ?_
    refine SL.call (vs := [_]) (Hin := []) (Hr := _ :: _ :: _ :: _ :: _ :: _ :: _ :: _ :: _) ⟨rfl, rfl, rfl, rfl⟩ rfl ⟨rfl, trivial⟩ cal12 rfl rfl (c_law13_Ring hy3) ?_
    rintro v5 _ ⟨_, rfl, rfl⟩
    refine ⟨trivial, ?_⟩
    refine SL.pick [0, 5, 6, 7, 8, 1, 2, 3, 4] 9 ?_
    refine SL.call (vs := [_, _, vU32 1, vU32 7]) (Hin := [_, _, _, _, _]) (Hr := _ :: _ :: _ :: _ :: _) ⟨rfl, rfl, rfl, rfl⟩ rfl ⟨rfl, rfl, rfl, rfl, trivial⟩ cal11 rfl rfl (Con.lend (B := [_]) (Hin := [_, _, _, _]) fun K' w1 hk hB => c_vault_New hy4 (SlOf.lentT (e := 70) (v := v5) (fun _ => rfl) (hB _ (by simp)))) ?_
    rintro _ _ ⟨_, rfl, (⟨hn, -, -⟩ | ⟨d_, b3, v6, m3, hn, rfl, rfl⟩)⟩
    · rw [hd3] at hn; cases hn
    obtain rfl : d3 = d_ := Option.some.inj (hd3.symm.trans hn)
    refine ⟨trivial, ?_⟩
    refine SL.mv ⟨rfl, rfl, rfl, rfl⟩ rfl ?_
    refine SL.ext ⟨rfl, rfl, rfl, rfl⟩ rfl rfl ?_
    refine SL.ext ⟨rfl, rfl, rfl, rfl⟩ rfl rfl ?_
    refine SL.asg ⟨rfl, rfl, rfl, rfl⟩ rfl ?_
    refine SL.asg ⟨rfl, rfl, rfl, rfl⟩ rfl ?_
    refine SL.nx ?_
    refine SX.sr ?_
    obtain ⟨y5, hy5, h⟩ := bnd h
    obtain ⟨y6, hy6, h⟩ := bnd h
    obtain ⟨d4, hd4, h⟩ := bnd h
    refine SL.mv ⟨rfl, rfl, rfl, rfl⟩ rfl ?_
    refine SL.call (vs := [_]) (Hin := []) (Hr := _ :: _ :: _ :: _ :: _ :: _ :: _ :: _ :: _ :: _ :: _ :: _ :: _) ⟨rfl, rfl, rfl, rfl⟩ rfl ⟨rfl, trivial⟩ cal12 rfl rfl (c_law13_Ring hy5) ?_
    rintro v7 _ ⟨_, rfl, rfl⟩
    refine ⟨trivial, ?_⟩
    refine SL.pick [9, 10, 11, 12, 0, 1, 2, 3, 4, 5, 6, 7, 8] 13 ?_
    refine SL.call (vs := [_, _, vU32 1, vU32 7]) (Hin := [_, _, _, _, _]) (Hr := _ :: _ :: _ :: _ :: _ :: _ :: _ :: _ :: _) ⟨rfl, rfl, rfl, rfl⟩ rfl ⟨rfl, rfl, rfl, rfl, trivial⟩ cal31 rfl rfl (c_ref13_New hy6) ?_
    rintro _ _ (⟨hn, -, -⟩ | ⟨d_, b4, v8, v9, hn, rfl, rfl⟩)
    · rw [hd4] at hn; cases hn
    obtain rfl : d4 = d_ := Option.some.inj (hd4.symm.trans hn)
    refine ⟨trivial, ?_⟩
    refine SL.mv ⟨rfl, rfl, rfl, rfl⟩ rfl ?_
    refine SL.ext ⟨rfl, rfl, rfl, rfl⟩ rfl rfl ?_
    refine SL.ext ⟨rfl, rfl, rfl, rfl⟩ rfl rfl ?_
    refine SL.asg ⟨rfl, rfl, rfl, rfl⟩ rfl ?_
    refine SL.asg ⟨rfl, rfl, rfl, rfl⟩ rfl ?_
    refine SL.nx ?_
    refine SX.sr ?_
    obtain ⟨x1, ex1, h⟩ := retE h
    refine SL.mv ⟨rfl, rfl, rfl, rfl⟩ rfl ?_
    refine SL.mv ⟨rfl, rfl, rfl, rfl⟩ rfl ?_
    refine SL.mv ⟨rfl, rfl, rfl, rfl⟩ rfl ?_
    refine SL.mv ⟨rfl, rfl, rfl, rfl⟩ rfl ?_
    refine SL.bin ⟨rfl, rfl, rfl, rfl⟩ rfl rfl Bin.eqI ?_
    refine SL.mv ⟨rfl, rfl, rfl, rfl⟩ rfl ?_
    refine SL.and (c := decide (y6.2 = 0)) 47 3 50 rfl (fun hb k => ?_) (fun hb k => ?_) ?_
    · skip
      refine SL.mv ⟨rfl, rfl, rfl, rfl⟩ rfl ?_
      refine SL.bin ⟨rfl, rfl, rfl, rfl⟩ rfl rfl Bin.eqI ?_
      refine SL.pk ⟨rfl, rfl, rfl, rfl⟩ rfl rfl ?_
      exact k.mono (by repeat' (first | exact trivial | refine And.intro rfl ?_))
    · skip
      refine SL.pass rfl rfl rfl ?_
      refine SL.pass rfl rfl rfl ?_
      refine SL.pk ⟨rfl, rfl, rfl, rfl⟩ rfl rfl ?_
      exact k.mono (by repeat' (first | exact trivial | refine And.intro rfl ?_))
    refine SL.asg ⟨rfl, rfl, rfl, rfl⟩ rfl ?_
    refine SL.asg ⟨rfl, rfl, rfl, rfl⟩ rfl ?_
    refine SL.asg ⟨rfl, rfl, rfl, rfl⟩ rfl ?_
    refine SL.asgX (u := vB x1) ⟨rfl, rfl, rfl, rfl⟩ rfl (congrArg vB ex1) ?_
    refine SL.nx ?_
    refine SX.ret ?_
    obtain rfl := Option.some.inj h
    exact SQ.fret (res4 rfl rfl rfl rfl rfl) (ret_of (M := [_, _, _, _, _, _, _, _, _, _, _, _, _, _]) (.inr ⟨_, b3, v6, m3, b1, v1, m1, m2, b4, v8, v9, b2, v2, v3, v4, rfl, rfl, rfl⟩) fun _ hw => HpOk.pick (H := [_, _, _, _, _, _, _, _, _, _, _, _, _, _, _]) hw [8, 9, 10, 11, 12, 13, 14, 0, 1, 2, 3, 4, 5, 6] 15 rfl)

def f_law13_shown (n : Nat) (T : List UInt32) : Option Bool :=
  (f_law13_made n 6).bind fun y1 =>
  (y1.1).bind fun d1 =>
  (f_vault_Vault_Write T d1.1 d1.2.1 [97]).bind fun y2 =>
  (f_vault_Vault_Write T y2.2.2.1 y2.2.2.2 [98]).bind fun y3 =>
  (f_vault_Vault_Give y3.2.2.1 y3.2.2.2 2).bind fun y4 =>
  (f_vault_Vault_Write T y4.2 y3.2.2.2 [99]).bind fun y5 =>
  (f_vault_Vault_Read T y5.2.2.1 y5.2.2.2 y3.1).bind fun y6 =>
  (andO (((((((((y1.2 && (decide (y2.2.1 = 0))) && (decide (y3.2.1 = 0))) && (decide (y4.1 = 0))) && (decide (y5.2.1 = 0))) && (decide (y6.2 = 0))) && (decide (y2.1.page = 2))) && (decide (y3.1.page = 3))) && (decide (y5.1.page = 2))) && (decide (y6.1 = [98]))) ((f_vault_Vault_Seals y5.2.2.1 y5.2.2.2).bind fun y7 => some (decide (y7 = 3)))).bind fun y8 =>
  some y8
set_option maxRecDepth 100000 in
theorem c_law13_shown {n : Nat} {T : List UInt32} {r : Bool} (h : f_law13_shown n T = some r) (hS : ShaT K w0 T) : Con Tryd.prog K w0 9 [] [] H (fun u M => u = vB r ∧ M = []) := by
  unfold f_law13_shown at h
  refine Con.enter Tryd.func9 rfl rfl ?_
  refine SX.sr ?_
  refine SL.asg ⟨rfl, rfl, rfl, rfl⟩ rfl ?_
  refine SL.nx ?_
  refine SX.sr ?_
  obtain ⟨y1, hy1, h⟩ := bnd h
  obtain ⟨d1, hd1, h⟩ := bnd h
  refine SL.call (vs := [_]) (Hin := []) (Hr := _) ⟨rfl, rfl, rfl, rfl⟩ rfl ⟨rfl, trivial⟩ cal15 rfl rfl (c_law13_made hy1) ?_
  rintro _ _ (⟨hn, -, -⟩ | ⟨d_, b1, v1, m1, b2, v2, m2, m3, b3, v3, v4, b4, v5, v6, v7, hn, rfl, rfl⟩)
  · rw [hd1] at hn; cases hn
  obtain rfl : d1 = d_ := Option.some.inj (hd1.symm.trans hn)
  refine ⟨trivial, ?_⟩
  refine SL.mv ⟨rfl, rfl, rfl, rfl⟩ rfl ?_
  refine SL.ext ⟨rfl, rfl, rfl, rfl⟩ rfl rfl ?_
  refine SL.ext ⟨rfl, rfl, rfl, rfl⟩ rfl rfl ?_
  refine SL.ext ⟨rfl, rfl, rfl, rfl⟩ rfl rfl ?_
  refine SL.ext ⟨rfl, rfl, rfl, rfl⟩ rfl rfl ?_
  refine SL.asg ⟨rfl, rfl, rfl, rfl⟩ rfl ?_
  refine SL.asg ⟨rfl, rfl, rfl, rfl⟩ rfl ?_
  refine SL.asg ⟨rfl, rfl, rfl, rfl⟩ rfl ?_
  refine SL.asg ⟨rfl, rfl, rfl, rfl⟩ rfl ?_
  refine SL.nx ?_
  refine SX.sr ?_
  obtain ⟨y2, hy2, h⟩ := bnd h
  refine SL.mv ⟨rfl, rfl, rfl, rfl⟩ rfl ?_
  refine SL.call (vs := [_, _]) (Hin := [_, _, _, _, _, _, _]) (Hr := _ :: _ :: _ :: _ :: _ :: _ :: _ :: _) ⟨rfl, rfl, rfl, rfl⟩ rfl ⟨rfl, rfl, trivial⟩ cal16 rfl rfl (c_vault_Vault_Write hy2 hS) ?_
  rintro _ _ ⟨rfl, rfl⟩
  refine ⟨trivial, ?_⟩
  refine SL.mv ⟨rfl, rfl, rfl, rfl⟩ rfl ?_
  refine SL.ext ⟨rfl, rfl, rfl, rfl⟩ rfl rfl ?_
  refine SL.ext ⟨rfl, rfl, rfl, rfl⟩ rfl rfl ?_
  refine SL.alloc ⟨rfl, rfl, rfl, rfl⟩ ze41 (fun _ => trivial) fun b5 => ?_
  refine SL.st 0 ⟨rfl, rfl, rfl⟩ rfl rfl rfl sz41 rfl rfl rfl trivial ?_
  refine SL.asg ⟨rfl, rfl, rfl, rfl⟩ rfl ?_
  refine SL.nx ?_
  refine SX.sr ?_
  obtain ⟨y3, hy3, h⟩ := bnd h
  refine SL.mv ⟨rfl, rfl, rfl, rfl⟩ rfl ?_
  refine SL.pick [1, 2, 3, 4, 5, 6, 7, 0] 8 ?_
  refine SL.call (vs := [_, _]) (Hin := [_, _, _, _, _, _, _]) (Hr := _ :: _ :: _ :: _ :: _ :: _ :: _ :: _ :: _) ⟨rfl, rfl, rfl, rfl⟩ rfl ⟨rfl, rfl, trivial⟩ cal16 rfl rfl (c_vault_Vault_Write hy3 hS) ?_
  rintro _ _ ⟨rfl, rfl⟩
  refine ⟨trivial, ?_⟩
  refine SL.mv ⟨rfl, rfl, rfl, rfl⟩ rfl ?_
  refine SL.ext ⟨rfl, rfl, rfl, rfl⟩ rfl rfl ?_
  refine SL.ext ⟨rfl, rfl, rfl, rfl⟩ rfl rfl ?_
  refine SL.alloc ⟨rfl, rfl, rfl, rfl⟩ ze41 (fun _ => trivial) fun b6 => ?_
  refine SL.st 0 ⟨rfl, rfl, rfl⟩ rfl rfl rfl sz41 rfl rfl rfl trivial ?_
  refine SL.asg ⟨rfl, rfl, rfl, rfl⟩ rfl ?_
  refine SL.nx ?_
  refine SX.sr ?_
  obtain ⟨y4, hy4, h⟩ := bnd h
  refine SL.mv ⟨rfl, rfl, rfl, rfl⟩ rfl ?_
  refine SL.pick [1, 2, 3, 4, 5, 6, 7, 0] 8 ?_
  refine SL.call (vs := [_, vU32 2]) (Hin := [_, _, _, _, _, _, _]) (Hr := _ :: _ :: _ :: _ :: _ :: _ :: _ :: _ :: _ :: _) ⟨rfl, rfl, rfl, rfl⟩ rfl ⟨rfl, rfl, trivial⟩ cal25 rfl rfl (c_vault_Vault_Give hy4) ?_
  rintro _ _ ⟨rfl, rfl⟩
  refine ⟨trivial, ?_⟩
  refine SL.asg ⟨rfl, rfl, rfl, rfl⟩ rfl ?_
  refine SL.nx ?_
  refine SX.sr ?_
  obtain ⟨y5, hy5, h⟩ := bnd h
  refine SL.mv ⟨rfl, rfl, rfl, rfl⟩ rfl ?_
  refine SL.call (vs := [_, _]) (Hin := [_, _, _, _, _, _, _]) (Hr := _ :: _ :: _ :: _ :: _ :: _ :: _ :: _ :: _ :: _) ⟨rfl, rfl, rfl, rfl⟩ rfl ⟨rfl, rfl, trivial⟩ cal16 rfl rfl (c_vault_Vault_Write hy5 hS) ?_
  rintro _ _ ⟨rfl, rfl⟩
  refine ⟨trivial, ?_⟩
  refine SL.mv ⟨rfl, rfl, rfl, rfl⟩ rfl ?_
  refine SL.ext ⟨rfl, rfl, rfl, rfl⟩ rfl rfl ?_
  refine SL.ext ⟨rfl, rfl, rfl, rfl⟩ rfl rfl ?_
  refine SL.alloc ⟨rfl, rfl, rfl, rfl⟩ ze41 (fun _ => trivial) fun b7 => ?_
  refine SL.st 0 ⟨rfl, rfl, rfl⟩ rfl rfl rfl sz41 rfl rfl rfl trivial ?_
  refine SL.asg ⟨rfl, rfl, rfl, rfl⟩ rfl ?_
  refine SL.nx ?_
  refine SX.sr ?_
  obtain ⟨y6, hy6, h⟩ := bnd h
  refine SL.mv ⟨rfl, rfl, rfl, rfl⟩ rfl ?_
  refine SL.ldA [vU32 y3.1.page, vS y3.1.tag] ⟨rfl, rfl, rfl, rfl⟩ ag41 rfl rfl (cells_all 8 rfl) ?_
  refine SL.pick [1, 2, 3, 4, 5, 6, 7, 0] 8 ?_
  refine SL.call (vs := [_, _]) (Hin := [_, _, _, _, _, _, _]) (Hr := _ :: _ :: _ :: _ :: _ :: _ :: _ :: _ :: _ :: _ :: _) ⟨rfl, rfl, rfl, rfl⟩ rfl ⟨rfl, rfl, trivial⟩ cal19 rfl rfl ((c_vault_Vault_Read hy6 hS :)) ?_
  rintro _ _ ⟨rfl, rfl⟩
  refine ⟨trivial, ?_⟩
  refine SL.mv ⟨rfl, rfl, rfl, rfl⟩ rfl ?_
  refine SL.ext ⟨rfl, rfl, rfl, rfl⟩ rfl rfl ?_
  refine SL.ext ⟨rfl, rfl, rfl, rfl⟩ rfl rfl ?_
  refine SL.asg ⟨rfl, rfl, rfl, rfl⟩ rfl ?_
  refine SL.asg ⟨rfl, rfl, rfl, rfl⟩ rfl ?_
  refine SL.nx ?_
  refine SX.sr ?_
  obtain ⟨y8, hy8, h⟩ := bnd h
  refine SL.mv ⟨rfl, rfl, rfl, rfl⟩ rfl ?_
  refine SL.mv ⟨rfl, rfl, rfl, rfl⟩ rfl ?_
  refine SL.and (c := decide (y2.2.1 = 0)) 44 3 47 rfl (fun hb k => ?_) (fun hb k => ?_) ?_
  · skip
    refine SL.mv ⟨rfl, rfl, rfl, rfl⟩ rfl ?_
    refine SL.bin ⟨rfl, rfl, rfl, rfl⟩ rfl rfl Bin.eqI ?_
    refine SL.pk ⟨rfl, rfl, rfl, rfl⟩ rfl rfl ?_
    exact k.mono (by repeat' (first | exact trivial | refine And.intro rfl ?_))
  · skip
    refine SL.pass rfl rfl rfl ?_
    refine SL.pass rfl rfl rfl ?_
    refine SL.pk ⟨rfl, rfl, rfl, rfl⟩ rfl rfl ?_
    exact k.mono (by repeat' (first | exact trivial | refine And.intro rfl ?_))
  refine SL.mv ⟨rfl, rfl, rfl, rfl⟩ rfl ?_
  refine SL.and (c := decide (y3.2.1 = 0)) 48 3 51 rfl (fun hb k => ?_) (fun hb k => ?_) ?_
  · skip
    refine SL.mv ⟨rfl, rfl, rfl, rfl⟩ rfl ?_
    refine SL.bin ⟨rfl, rfl, rfl, rfl⟩ rfl rfl Bin.eqI ?_
    refine SL.pk ⟨rfl, rfl, rfl, rfl⟩ rfl rfl ?_
    exact k.mono (by repeat' (first | exact trivial | refine And.intro rfl ?_))
  · skip
    refine SL.pass rfl rfl rfl ?_
    refine SL.pass rfl rfl rfl ?_
    refine SL.pk ⟨rfl, rfl, rfl, rfl⟩ rfl rfl ?_
    exact k.mono (by repeat' (first | exact trivial | refine And.intro rfl ?_))
  refine SL.mv ⟨rfl, rfl, rfl, rfl⟩ rfl ?_
  refine SL.and (c := decide (y4.1 = 0)) 52 3 55 rfl (fun hb k => ?_) (fun hb k => ?_) ?_
  · skip
    refine SL.mv ⟨rfl, rfl, rfl, rfl⟩ rfl ?_
    refine SL.bin ⟨rfl, rfl, rfl, rfl⟩ rfl rfl Bin.eqI ?_
    refine SL.pk ⟨rfl, rfl, rfl, rfl⟩ rfl rfl ?_
    exact k.mono (by repeat' (first | exact trivial | refine And.intro rfl ?_))
  · skip
    refine SL.pass rfl rfl rfl ?_
    refine SL.pass rfl rfl rfl ?_
    refine SL.pk ⟨rfl, rfl, rfl, rfl⟩ rfl rfl ?_
    exact k.mono (by repeat' (first | exact trivial | refine And.intro rfl ?_))
  refine SL.mv ⟨rfl, rfl, rfl, rfl⟩ rfl ?_
  refine SL.and (c := decide (y5.2.1 = 0)) 56 3 59 rfl (fun hb k => ?_) (fun hb k => ?_) ?_
  · skip
    refine SL.mv ⟨rfl, rfl, rfl, rfl⟩ rfl ?_
    refine SL.bin ⟨rfl, rfl, rfl, rfl⟩ rfl rfl Bin.eqI ?_
    refine SL.pk ⟨rfl, rfl, rfl, rfl⟩ rfl rfl ?_
    exact k.mono (by repeat' (first | exact trivial | refine And.intro rfl ?_))
  · skip
    refine SL.pass rfl rfl rfl ?_
    refine SL.pass rfl rfl rfl ?_
    refine SL.pk ⟨rfl, rfl, rfl, rfl⟩ rfl rfl ?_
    exact k.mono (by repeat' (first | exact trivial | refine And.intro rfl ?_))
  refine SL.mv ⟨rfl, rfl, rfl, rfl⟩ rfl ?_
  refine SL.and (c := decide (y6.2 = 0)) 60 3 63 rfl (fun hb k => ?_) (fun hb k => ?_) ?_
  · skip
    refine SL.mv ⟨rfl, rfl, rfl, rfl⟩ rfl ?_
    refine SL.bin ⟨rfl, rfl, rfl, rfl⟩ rfl rfl Bin.eqI ?_
    refine SL.pk ⟨rfl, rfl, rfl, rfl⟩ rfl rfl ?_
    exact k.mono (by repeat' (first | exact trivial | refine And.intro rfl ?_))
  · skip
    refine SL.pass rfl rfl rfl ?_
    refine SL.pass rfl rfl rfl ?_
    refine SL.pk ⟨rfl, rfl, rfl, rfl⟩ rfl rfl ?_
    exact k.mono (by repeat' (first | exact trivial | refine And.intro rfl ?_))
  refine SL.mv ⟨rfl, rfl, rfl, rfl⟩ rfl ?_
  refine SL.and (c := decide (y2.1.page = 2)) 64 4 68 rfl (fun hb k => ?_) (fun hb k => ?_) ?_
  · skip
    refine SL.fa ⟨rfl, rfl, rfl, rfl⟩ rfl fo41_0 ?_
    refine SL.ld ⟨rfl, rfl, rfl, rfl⟩ sc22 rfl (cell_own 9 rfl rfl) ?_
    refine SL.bin ⟨rfl, rfl, rfl, rfl⟩ rfl rfl (Bin.eq32 (b := 2)) ?_
    refine SL.pk ⟨rfl, rfl, rfl, rfl⟩ rfl rfl ?_
    exact k.mono (by repeat' (first | exact trivial | refine And.intro rfl ?_))
  · skip
    refine SL.pass rfl rfl rfl ?_
    refine SL.pass rfl rfl rfl ?_
    refine SL.pass rfl rfl rfl ?_
    refine SL.pk ⟨rfl, rfl, rfl, rfl⟩ rfl rfl ?_
    exact k.mono (by repeat' (first | exact trivial | refine And.intro rfl ?_))
  refine SL.mv ⟨rfl, rfl, rfl, rfl⟩ rfl ?_
  refine SL.and (c := decide (y3.1.page = 3)) 69 4 73 rfl (fun hb k => ?_) (fun hb k => ?_) ?_
  · skip
    refine SL.fa ⟨rfl, rfl, rfl, rfl⟩ rfl fo41_0 ?_
    refine SL.ld ⟨rfl, rfl, rfl, rfl⟩ sc22 rfl (cell_own 8 rfl rfl) ?_
    refine SL.bin ⟨rfl, rfl, rfl, rfl⟩ rfl rfl (Bin.eq32 (b := 3)) ?_
    refine SL.pk ⟨rfl, rfl, rfl, rfl⟩ rfl rfl ?_
    exact k.mono (by repeat' (first | exact trivial | refine And.intro rfl ?_))
  · skip
    refine SL.pass rfl rfl rfl ?_
    refine SL.pass rfl rfl rfl ?_
    refine SL.pass rfl rfl rfl ?_
    refine SL.pk ⟨rfl, rfl, rfl, rfl⟩ rfl rfl ?_
    exact k.mono (by repeat' (first | exact trivial | refine And.intro rfl ?_))
  refine SL.mv ⟨rfl, rfl, rfl, rfl⟩ rfl ?_
  refine SL.and (c := decide (y5.1.page = 2)) 74 4 78 rfl (fun hb k => ?_) (fun hb k => ?_) ?_
  · skip
    refine SL.fa ⟨rfl, rfl, rfl, rfl⟩ rfl fo41_0 ?_
    refine SL.ld ⟨rfl, rfl, rfl, rfl⟩ sc22 rfl (cell_own 7 rfl rfl) ?_
    refine SL.bin ⟨rfl, rfl, rfl, rfl⟩ rfl rfl (Bin.eq32 (b := 2)) ?_
    refine SL.pk ⟨rfl, rfl, rfl, rfl⟩ rfl rfl ?_
    exact k.mono (by repeat' (first | exact trivial | refine And.intro rfl ?_))
  · skip
    refine SL.pass rfl rfl rfl ?_
    refine SL.pass rfl rfl rfl ?_
    refine SL.pass rfl rfl rfl ?_
    refine SL.pk ⟨rfl, rfl, rfl, rfl⟩ rfl rfl ?_
    exact k.mono (by repeat' (first | exact trivial | refine And.intro rfl ?_))
  refine SL.mv ⟨rfl, rfl, rfl, rfl⟩ rfl ?_
  refine SL.and (c := decide (y6.1 = [98])) 79 3 82 rfl (fun hb k => ?_) (fun hb k => ?_) ?_
  · skip
    refine SL.mv ⟨rfl, rfl, rfl, rfl⟩ rfl ?_
    refine SL.bin ⟨rfl, rfl, rfl, rfl⟩ rfl rfl Bin.eqS ?_
    refine SL.pk ⟨rfl, rfl, rfl, rfl⟩ rfl rfl ?_
    exact k.mono (by repeat' (first | exact trivial | refine And.intro rfl ?_))
  · skip
    refine SL.pass rfl rfl rfl ?_
    refine SL.pass rfl rfl rfl ?_
    refine SL.pk ⟨rfl, rfl, rfl, rfl⟩ rfl rfl ?_
    exact k.mono (by repeat' (first | exact trivial | refine And.intro rfl ?_))
  refine SL.mv ⟨rfl, rfl, rfl, rfl⟩ rfl ?_
  refine SL.andN 83 4 87 hy8 rfl (fun hb hg10 k => ?_) (fun hb k => ?_) ?_
  · skip
    obtain ⟨y7, hy7, hg10⟩ := bnd hg10
    obtain rfl := Option.some.inj hg10
    refine SL.mv ⟨rfl, rfl, rfl, rfl⟩ rfl ?_
    refine SL.call (vs := [_]) (Hin := [_, _, _, _, _, _, _]) (Hr := _ :: _ :: _ :: _ :: _ :: _ :: _ :: _ :: _ :: _ :: _) ⟨rfl, rfl, rfl, rfl⟩ rfl ⟨rfl, trivial⟩ cal14 rfl rfl (c_vault_Vault_Seals hy7) ?_
    rintro _ _ ⟨rfl, rfl⟩
    refine ⟨trivial, ?_⟩
    refine SL.bin ⟨rfl, rfl, rfl, rfl⟩ rfl rfl (Bin.eq64 (b := 3)) ?_
    refine SL.pk ⟨rfl, rfl, rfl, rfl⟩ rfl rfl ?_
    exact k.mono (by repeat' (first | exact trivial | refine And.intro rfl ?_))
  · skip
    refine SL.pass rfl rfl rfl ?_
    refine SL.pass rfl rfl rfl ?_
    refine SL.pass rfl rfl rfl ?_
    refine SL.pk ⟨rfl, rfl, rfl, rfl⟩ rfl rfl ?_
    exact k.mono (by repeat' (first | exact trivial | refine And.intro rfl ?_))
  refine SL.asg ⟨rfl, rfl, rfl, rfl⟩ rfl ?_
  refine SL.nx ?_
  refine SX.ret ?_
  obtain rfl := Option.some.inj h
  exact SQ.fret (res1 rfl rfl) (ret_of (M := []) ⟨rfl, rfl⟩ fun _ hw => HpOk.pick (H := [_, _, _, _, _, _, _, _, _, _, _, _, _, _, _, _, _]) hw [] 17 rfl)


end Go.Proofs.YtddjneafgddlcaaDoor

/- What the plain laws of a device stand on. No condition. -/

/- Plain laws of a device: what its printed operations answer, those that no sort is wanted for. No program's walk in sight. Condition: as each says. -/
namespace Go.Proofs.YtddjneafgddlcaaDoor
open Go

theorem zeros_eq {n : Int} (h0 : 0 ≤ n) (h1 : n ≤ 1048576) : f_ref07_Zeros n = some (List.replicate n.toNat 0) := by
  unfold f_ref07_Zeros mkI
  rw [if_pos ⟨h0, by omega, by omega⟩, some_bind]
def pOn (d : DevA) : Bool := !(d.isCut && decide (d.lasts = 0) || d.off)
def pTick (d : DevA) : DevA := { d with lasts := if d.isCut then wI (d.lasts - 1) else d.lasts, counts := wI (d.counts + 1) }
def pDead (d : DevA) : DevA := { d with off := true }
theorem spend_eq (d : DevA) : f_device_power_spend d = some (if pOn d then (0, pTick d) else (71, pDead d)) := by
  obtain ⟨off, isCut, lasts, counts, bl, pd, bd, rc, rt, rb⟩ := d
  unfold f_device_power_spend f_device_power_spend_j1 f_device_power_spend_j2
  by_cases h0 : lasts = 0 <;> cases off <;> cases isCut <;> simp [pOn, pTick, pDead, h0]
def okR (d : DevA) (r : DevA) : Int × DevA := if pOn d then (0, r) else (71, pDead d)
theorem has_eq (d : DevA) (p : UInt32) : f_device_Device_has d p = some (decide (p.toNat < d.blocks.length)) := by
  unfold f_device_Device_has
  rw [ret_eq]
  congr 1
  simp
theorem write_eq {d : DevA} {p : UInt32} {s : List UInt8} (hp : p.toNat < d.blocks.length) (hs : s.length = 256) (hm : d.pend.length < 9223372036854775807) : f_device_Device_Write d p s = some (okR d { pTick d with pend := mput d.pend p s }) := by
  unfold f_device_Device_Write f_device_Device_Write_j1
  rw [has_eq, some_bind, ret_eq, decide_eq_true hp, hs]
  simp only [spend_eq, some_bind]
  cases h : pOn d
  · simp [okR, h, pDead]
  · simp only [okR, h, if_true]
    have : (pTick d).pend = d.pend := rfl
    simp [mputI, this, hm]
theorem write_bad {d : DevA} {p : UInt32} {s : List UInt8} (hp : ¬ (p.toNat < d.blocks.length) ∨ s.length ≠ 256) : f_device_Device_Write d p s = some (2, d) := by
  unfold f_device_Device_Write
  rw [has_eq, some_bind, ret_eq]
  have : ((!decide (p.toNat < d.blocks.length)) || !decide ((s.length : Int) = 256)) = true := by
    rcases hp with hp | hp
    · simp [hp]
    · have : ¬ ((s.length : Int) = 256) := by omega
      simp [this]
  rw [this, cond_true]
theorem put_eq {d : DevA} {p : UInt32} {s : List UInt8} (hp : p.toNat < d.blocks.length) (hs : s.length = 256) : f_device_Device_Put d p s = some (0, { d with blocks := d.blocks.set p.toNat s, pend := mdel d.pend p }) := by
  unfold f_device_Device_Put
  rw [has_eq, some_bind, ret_eq, decide_eq_true hp, hs, nthI_nat, List.getElem?_eq_getElem hp]
  simp only [some_bind]
  rw [setI_of rfl hp]
  simp
theorem put_bad {d : DevA} {p : UInt32} {s : List UInt8} (hp : ¬ (p.toNat < d.blocks.length) ∨ s.length ≠ 256) : f_device_Device_Put d p s = some (2, d) := by
  unfold f_device_Device_Put
  rw [has_eq, some_bind, ret_eq]
  have : ((!decide (p.toNat < d.blocks.length)) || !decide ((s.length : Int) = 256)) = true := by
    rcases hp with hp | hp
    · simp [hp]
    · have : ¬ ((s.length : Int) = 256) := by omega
      simp [this]
  rw [this, cond_true]
def hold (d : DevA) (p : UInt32) : List UInt8 := (mget d.pend p).getD (d.blocks.getD p.toNat [])
theorem holds_eq {d : DevA} {p : UInt32} (hp : p.toNat < d.blocks.length) : f_device_Device_holds d p = some (hold d p) := by
  unfold f_device_Device_holds hold
  rw [ret_eq, ret_eq]
  cases h : mget d.pend p with
  | some s => simp
  | none =>
    rw [nthI_nat, List.getElem?_eq_getElem hp]
    simp [hp]
theorem read_eq {d : DevA} {p : UInt32} (hp : p.toNat < d.blocks.length) : f_device_Device_Read d p = some (if d.off then ([], 71) else if (mget d.bad p).getD false then ([], 70) else (hold d p, 0)) := by
  unfold f_device_Device_Read
  rw [has_eq, some_bind, ret_eq, decide_eq_true hp, holds_eq hp]
  cases d.off
  · cases h : (mget d.bad p).getD false <;> simp [ret_eq, h]
  · simp
theorem read_bad {d : DevA} {p : UInt32} (hp : ¬ p.toNat < d.blocks.length) : f_device_Device_Read d p = some ([], 2) := by
  unfold f_device_Device_Read
  rw [has_eq, some_bind, ret_eq, decide_eq_false hp]
  rfl
theorem nodup_u32 {l : List UInt32} {N : Nat} (hn : l.Nodup) (h : ∀ k ∈ l, k.toNat < N) : l.length ≤ N := by
  have h1 : (l.map UInt32.toNat).Nodup := by
    rw [List.nodup_iff_pairwise_ne, List.pairwise_map]
    exact hn.imp fun hne e => hne (UInt32.toNat_inj.1 e)
  have := nodup_len (l' := List.range N) h1 (fun a ha => by
    obtain ⟨k, hk, rfl⟩ := List.mem_map.1 ha
    exact List.mem_range.2 (h k hk))
  simpa using this
theorem new_eq {n : Int} (h1 : 4 ≤ n) (h2 : n ≤ 4096) : f_device_New n = some (some { off := false, isCut := false, lasts := 0, counts := 0, blocks := List.replicate n.toNat (List.replicate 256 0), pend := [], bad := [], rcnt := 0, rtag := List.replicate 32 0, rboots := 0 }, 0) := by
  unfold f_device_New rep0O srepO
  have e : (decide (n < 4) || decide (4096 < n)) = false := by simp; omega
  rw [e, cond_false]
  simp only [some_bind]
  rw [if_pos (by simp), some_bind, if_pos (by simp), some_bind, if_pos ⟨by omega, by omega⟩, some_bind]
  rfl
theorem loop_inv {α β : Type} {F : (α → Option β) → α → Option β} (P : Nat → α → Prop) (N : Nat) {z : Option β} (hs : ∀ i x, i < N → P i x → ∃ x', P (i + 1) x' ∧ ∀ k, F k x = k x') (he : ∀ x, P N x → ∀ k, F k x = z) {m : Nat} (hm : N < m) {x : α} (h0 : P 0 x) : loopN F m x = z := by
  have key : ∀ d i m x, i + d = N → d < m → P i x → loopN F m x = z := by
    intro d
    induction d with
    | zero =>
      intro i m x hi hm hp
      obtain rfl : i = N := by omega
      obtain ⟨m, rfl⟩ : ∃ k, m = k + 1 := ⟨m - 1, by omega⟩
      exact he x hp _
    | succ d ih =>
      intro i m x hi hm hp
      obtain ⟨m, rfl⟩ : ∃ k, m = k + 1 := ⟨m - 1, by omega⟩
      obtain ⟨x', hp', hx⟩ := hs i x (by omega) hp
      show F (loopN F m) x = z
      rw [hx]
      exact ih (i + 1) m x' (by omega) (by omega) hp'
  exact key N 0 m x (by omega) hm h0
theorem dev_eta (d : DevA) : ({ off := d.off, isCut := d.isCut, lasts := d.lasts, counts := d.counts, blocks := d.blocks, pend := d.pend, bad := d.bad, rcnt := d.rcnt, rtag := d.rtag, rboots := d.rboots } : DevA) = d := rfl
theorem okR_on {d r : DevA} (h : pOn d = true) : okR d r = (0, r) := by simp [okR, h]
theorem okR_off {d r : DevA} (h : pOn d = false) : okR d r = (71, pDead d) := by simp [okR, h]
end Go.Proofs.YtddjneafgddlcaaDoor

/- Where the reference's search for keys is printed. No condition. -/

/- Keys are found, by the reference: plain law. No condition beyond those stated. -/
namespace Go.Proofs.YtddjneafgddlcaaDoor
open Go

theorem right04 (l : List KeyA) (hl : l.length ≤ 1048576) {n : Nat} (hm : 16 < n) : f_ref04_Right n l = some (rightA l) := by
  unfold f_ref04_Right rightA
  by_cases h16 : l.length ≤ 16
  · rw [show decide (16 < (l.length : Int)) = false by simp; omega, show decide (l.length ≤ 16) = true by simp [h16]]
    simp only [cond_false, Bool.true_and]
    unfold f_ref04_Right_l1
    refine (congrArg (loopN _ n) ?_).trans ((loop_ind (fun i => (prevGen l i, (i : Int))) (fun i => some (((gensA l).drop i).all (·.2))) l.length (fun i hi k hk => ?_) (fun k => ?_) (by omega)).trans ?_)
    · rfl
    · have ei : ((i + 1 : Nat) : Int) = (i : Int) + 1 := by omega
      have st : (gensA l).drop i = ((l.getD i key0).gen, keyOk l i) :: (gensA l).drop (i + 1) := by
        rw [List.drop_eq_getElem_cons (by rw [gensA_length]; exact hi)]
        congr 1
        exact Option.some.inj ((List.getElem?_eq_getElem _).symm.trans (gensA_get l i hi))
      dsimp only at hk ⊢
      rw [st, List.all_cons]
      simp only [f_ref04_Right_l1_b, show decide ((i : Int) < (l.length : Int)) = true by simp; omega, cond_true]
      rw [nthI_getD (k := i) key0 rfl hi, some_bind, some_bind]
      have hko : keyOk l i = !((decide ((l.getD i key0).gen ≤ prevGen l i)) || (!decide (((l.getD i key0).secret.length : Int) = 32))) := by
        unfold keyOk
        rw [Bool.not_or, Bool.not_not]
        congr 1
        rw [Bool.eq_iff_iff]
        simp [UInt32.not_le]
      generalize hg : (decide ((l.getD i key0).gen ≤ prevGen l i)) = p at hko
      generalize (!decide (((l.getD i key0).secret.length : Int) = 32)) = q at hko
      have ho : orO p (some q) = some (p || q) := by cases p <;> rfl
      rw [ho, some_bind, hko]
      cases hpq : (p || q) with
      | true => simp only [cond_true, Bool.not_true, Bool.false_and]
      | false =>
        simp only [cond_false, Bool.not_false, Bool.true_and]
        rw [some_bind, ret_eq, wI_eq (by omega) (by omega), ← ei]
        exact hk
    · simp only [f_ref04_Right_l1_b, show decide ((l.length : Int) < (l.length : Int)) = false by simp, cond_false, f_ref04_Right_j1]
      rw [List.drop_of_length_le (by rw [gensA_length]; exact Nat.le_refl _)]
      rfl
    · simp
  · rw [show decide (16 < (l.length : Int)) = true by simp; omega, show decide (l.length ≤ 16) = false by simp; omega]
    rfl
theorem find04 (l : List KeyA) (g : UInt32) (hl : l.length ≤ 1048576) {n : Nat} (hm : 16 < n) : f_ref04_Find n l g = some (findA l g) := by
  unfold f_ref04_Find
  rw [right04 l hl hm, some_bind]
  cases hr : rightA l with
  | false =>
    simp only [Bool.not_false, cond_true]
    unfold findA
    rw [if_pos hr]
    rfl
  | true =>
    simp only [Bool.not_true, cond_false]
    have h16 := ((rightA_iff l).1 hr).1
    unfold f_ref04_Find_l1
    have hno : (∀ k ∈ l, k.gen ≠ g) → findA l g = (key0, 41) := fun h => by
      unfold findA
      rw [if_neg (by simp [hr])]
      split
      · rename_i k hk
        rw [if_neg (h k (List.mem_of_getElem? hk))]
      · rfl
    refine (congrArg (loopN _ n) ?_).trans (loop_pre (fun i => ((0 : UInt32), ([] : List UInt8), (i : Int))) (fun i => ∀ k ∈ l.take i, k.gen ≠ g) l.length (fun i hi hp k hk => ?_) (fun hp k => ?_) (by simp) (by omega))
    · rfl
    · have ei : ((i + 1 : Nat) : Int) = (i : Int) + 1 := by omega
      have hgi : l[i]? = some (l.getD i key0) := get_getD key0 hi
      dsimp only at hk ⊢
      simp only [f_ref04_Find_l1_b, show decide ((i : Int) < (l.length : Int)) = true by simp; omega, cond_true]
      rw [nthI_getD (k := i) key0 rfl hi, some_bind]
      by_cases hg : (l.getD i key0).gen = g
      · rw [show decide ((l.getD i key0).gen = g) = true by simp only [hg, decide_true]]
        simp only [cond_true]
        rw [some_bind, find_iff.2 ⟨hr, List.mem_of_getElem? hgi, hg⟩]
      · rw [show decide ((l.getD i key0).gen = g) = false by simp only [hg, decide_false]]
        simp only [cond_false]
        rw [ret_eq, wI_eq (by omega) (by omega), ← ei]
        refine hk fun k' hk' => ?_
        rw [List.take_add_one, hgi] at hk'
        rcases List.mem_append.1 hk' with h | h
        · exact hp k' h
        · simp only [Option.toList_some, List.mem_singleton] at h
          rw [h]; exact hg
    · simp only [f_ref04_Find_l1_b, show decide ((l.length : Int) < (l.length : Int)) = false by simp, cond_false, f_ref04_Find_j1]
      rw [List.take_length] at hp
      rw [hno hp]
      rfl
end Go.Proofs.YtddjneafgddlcaaDoor

/- Plain laws of a vault: what its printed operations answer. No program's walk in sight. Condition: as each says. -/
namespace Go.Proofs.YtddjneafgddlcaaDoor
open Go

/-! ### A block's place -/
def pageE (a b c d : UInt8) : UInt32 := ((a.toUInt32 ||| shl32 b.toUInt32 8) ||| shl32 c.toUInt32 16) ||| shl32 d.toUInt32 24
def pageOf (b : List UInt8) : UInt32 := pageE (b.getD 0 0) (b.getD 1 0) (b.getD 2 0) (b.getD 3 0)
theorem shl32_byte (b : UInt8) (k : Nat) (h : k ≤ 24) : (shl32 b.toUInt32 k).toNat = b.toNat * 2 ^ k := by
  have h1 := b.toNat_lt
  simp only [shl32, UInt32.toNat_ofNat', Nat.min_eq_left (show k ≤ 32 by omega), UInt8.toNat_toUInt32]
  refine Nat.mod_eq_of_lt ?_
  calc b.toNat * 2 ^ k < 2 ^ 8 * 2 ^ k := Nat.mul_lt_mul_of_pos_right h1 (Nat.two_pow_pos k)
    _ = 2 ^ (8 + k) := (Nat.pow_add 2 8 k).symm
    _ ≤ 2 ^ 32 := Nat.pow_le_pow_right (by decide) (by omega)
theorem or_shl {u v k : Nat} (h : u < 2 ^ k) : u ||| v * 2 ^ k = u + v * 2 ^ k := by
  rw [Nat.or_comm, Nat.mul_comm, ← Nat.two_pow_add_eq_or_of_lt h, Nat.add_comm]
theorem pageE_nat (a b c d : UInt8) : (pageE a b c d).toNat = a.toNat + b.toNat * 2 ^ 8 + c.toNat * 2 ^ 16 + d.toNat * 2 ^ 24 := by
  have ha := a.toNat_lt
  have hb := b.toNat_lt
  have hc := c.toNat_lt
  unfold pageE
  rw [UInt32.toNat_or, UInt32.toNat_or, UInt32.toNat_or, shl32_byte _ 8 (by decide), shl32_byte _ 16 (by decide), shl32_byte _ 24 (by decide), UInt8.toNat_toUInt32]
  rw [or_shl (u := a.toNat) (k := 8) (by omega), or_shl (k := 16) (by omega), or_shl (k := 24) (by omega)]
theorem pageOf_put (x : UInt32) (r : List UInt8) : pageOf (lePut x.toUInt64 4 ++ r) = x := by
  apply UInt32.toNat_inj.1
  have hx := x.toNat_lt
  unfold pageOf
  rw [pageE_nat]
  simp only [lePut_getD _ 4 _ (show 0 < 4 by decide), lePut_getD _ 4 _ (show 1 < 4 by decide), lePut_getD _ 4 _ (show 2 < 4 by decide), lePut_getD _ 4 _ (show 3 < 4 by decide), UInt64.toNat_toUInt8]
  rw [shr64_nat _ _ (by decide), shr64_nat _ _ (by decide), shr64_nat _ _ (by decide), shr64_nat _ _ (by decide)]
  simp only [UInt32.toNat_toUInt64]
  omega
theorem pageOf_blk (T : List UInt32) (k : KeyA) (h : HeadA) (s : List UInt8) : pageOf (blkA T k h s) = h.page := by
  rw [blkA, boundA, putA_eq]
  simp only [List.append_assoc]
  exact pageOf_put _ _
/-! ### Opening -/
theorem tag_eq {b : List UInt8} (h : b.length = 256) : tagO b = some (b.drop 224) := by
  unfold tagO
  rw [if_pos (by omega), h]
theorem open_at {T : List UInt32} {v : VltA} {d : DevA} {p : UInt32} {tag b : List UInt8} (hr : f_device_Device_Read d p = some (b, 0)) (hb : b.length = 256) (hl : v.ring.length ≤ 1099511627776) :
    f_vault_Vault_open T v d p tag = some (if b.drop 224 = tag ∧ pageOf b = p then openA T v.ring b else (head0, [], 61)) := by
  unfold f_vault_Vault_open
  have g : ∀ i : Nat, i < 4 → nthI b (i : Int) = some (b.getD i 0) := fun i hi => nthI_getD 0 rfl (by omega)
  have g0 := g 0 (by omega)
  have g1 := g 1 (by omega)
  have g2 := g 2 (by omega)
  have g3 := g 3 (by omega)
  rw [hr, some_bind]
  show (nthI b 0).bind _ = _
  rw [show nthI b 0 = some (b.getD 0 0) from g0, some_bind, show nthI b 1 = some (b.getD 1 0) from g1, some_bind, show nthI b 2 = some (b.getD 2 0) from g2, some_bind, show nthI b 3 = some (b.getD 3 0) from g3, some_bind, ret_eq, tag_eq hb, some_bind]
  change cond (!decide (b.drop 224 = tag) || !decide (pageOf b = p)) _ _ = _
  by_cases h : b.drop 224 = tag ∧ pageOf b = p
  · rw [if_pos h, decide_eq_true h.1, decide_eq_true h.2]
    unfold openO
    rw [if_pos ⟨hl, by show b.length ≤ _; omega⟩]
    rfl
  · rw [if_neg h]
    have : (!decide (b.drop 224 = tag) || !decide (pageOf b = p)) = true := by
      simp only [Bool.or_eq_true, Bool.not_eq_true', decide_eq_false_iff_not]
      exact Classical.not_and_iff_not_or_not.1 h
    rw [this]
    rfl
theorem right_ref {r : RefA} (h1 : 2 ≤ r.page.toNat) (h2 : r.tag.length = 32) : f_rows_RightRef r = some true := by
  unfold f_rows_RightRef
  have e1 : decide ((2 : UInt32) ≤ r.page) = true := by rw [decide_eq_true_eq, UInt32.le_iff_toNat_le]; exact h1
  have e2 : decide ((r.tag.length : Int) = 32) = true := by rw [decide_eq_true_eq]; omega
  rw [e1, e2]
  rfl
theorem read_at {T : List UInt32} {v : VltA} {d : DevA} {r : RefA} {b : List UInt8} (h1 : 2 ≤ r.page.toNat) (h2 : r.tag.length = 32) (hr : f_device_Device_Read d r.page = some (b, 0)) (hb : b.length = 256) (hl : v.ring.length ≤ 1099511627776) :
    f_vault_Vault_Read T v d r = some (if b.drop 224 = r.tag ∧ pageOf b = r.page then (openA T v.ring b).2 else ([], 61)) := by
  unfold f_vault_Vault_Read
  rw [right_ref h1 h2, some_bind, ret_eq]
  unfold f_vault_Vault_First
  rw [open_at hr hb hl]
  simp only [some_bind, Bool.not_true, cond_false]
  split <;> rfl
theorem gen_at {T : List UInt32} {v : VltA} {d : DevA} {r : RefA} {b : List UInt8} (h1 : 2 ≤ r.page.toNat) (h2 : r.tag.length = 32) (hr : f_device_Device_Read d r.page = some (b, 0)) (hb : b.length = 256) (hl : v.ring.length ≤ 1099511627776) :
    f_vault_Vault_Gen T v d r = some (if b.drop 224 = r.tag ∧ pageOf b = r.page then ((openA T v.ring b).1.gen, (openA T v.ring b).2.2) else (0, 61)) := by
  unfold f_vault_Vault_Gen
  rw [right_ref h1 h2, some_bind, ret_eq, open_at hr hb hl]
  simp only [some_bind, Bool.not_true, cond_false]
  split <;> rfl
/-! ### Sealing -/
/-- what a vault seals next, for a block -/
abbrev hd (v : VltA) (p : UInt32) : HeadA := ⟨p, v.gen, v.boot, v.seals⟩
/-- a device that goes on, of so many blocks -/
structure DOk (N c : Nat) (d : DevA) : Prop where
  blen : d.blocks.length = N
  nle : N ≤ 4096
  on : d.off = false
  uncut : d.isCut = false
  good : d.bad = []
  plen : d.pend.length ≤ c
  cle : c ≤ 100
theorem DOk.write {N c : Nat} {d : DevA} (D : DOk N c d) (hc : c + 1 ≤ 100) {p : UInt32} {b : List UInt8} (hp : p.toNat < N) (hb : b.length = 256) :
    f_device_Device_Write d p b = some (0, { d with counts := wI (d.counts + 1), pend := mput d.pend p b }) ∧ DOk N (c + 1) { d with counts := wI (d.counts + 1), pend := mput d.pend p b } := by
  have h0 : pOn d = true := by simp [pOn, D.on, D.uncut]
  constructor
  · rw [write_eq (by rw [D.blen]; exact hp) hb (by have := D.plen; have := D.cle; omega), okR_on h0]
    simp [pTick, D.uncut]
  · refine ⟨D.blen, D.nle, D.on, D.uncut, D.good, ?_, hc⟩
    have : (mdel d.pend p).length ≤ d.pend.length := List.length_filter_le ..
    have := D.plen
    show (mdel d.pend p).length + 1 ≤ c + 1
    omega
theorem DOk.read {N c : Nat} {d : DevA} (D : DOk N c d) {p : UInt32} (hp : p.toNat < N) : f_device_Device_Read d p = some (hold d p, 0) := by
  rw [read_eq (by rw [D.blen]; exact hp), D.on, D.good]
  rfl
theorem hold_put {d : DevA} {p q : UInt32} {b : List UInt8} {c : Int} : hold { d with counts := c, pend := mput d.pend p b } q = if p = q then b else hold d q := by
  unfold hold
  rw [mget_put]
  split <;> rfl
theorem sealO_eq {T : List UInt32} {l : List KeyA} {h : HeadA} {s : List UInt8} {k : KeyA} (hl : l.length ≤ 1099511627776) (hk : findA l h.gen = (k, 0)) (hs : s.length ≤ 198) : sealO T l h s = some (blkA T k h s, 0) := by
  unfold sealO sealA
  rw [if_pos ⟨hl, by omega⟩, hk]
  simp
  omega
theorem seal_at {T : List UInt32} {v : VltA} {d : DevA} {N c : Nat} {k : KeyA} {p : UInt32} {s : List UInt8} (D : DOk N c d) (hc : c + 1 ≤ 100) (hl : v.ring.length ≤ 1099511627776) (hk : findA v.ring v.gen = (k, 0)) (hp : p.toNat < N) (hs : s.length ≤ 198) :
    f_vault_Vault_seal T v d p s = some ((blkA T k (hd v p) s).drop 224, 0, { v with seals := v.seals + 1 }, { d with counts := wI (d.counts + 1), pend := mput d.pend p (blkA T k (hd v p) s) }) := by
  unfold f_vault_Vault_seal
  have hb := blkA_length T k (hd v p) hs
  rw [sealO_eq (h := hd v p) hl hk hs, some_bind, (D.write hc hp hb).1]
  simp only [some_bind, tag_eq hb]
  rfl
theorem free_full (v : VltA) : ∀ (k i : Nat), (∀ x, i ≤ x → x < i + k → takenA v (UInt32.ofNat x) = true) → freeFrom v i k = []
  | 0, i, _ => rfl
  | k + 1, i, h => by
    rw [freeFrom, if_pos (h i (Nat.le_refl _) (by omega))]
    exact free_full v k (i + 1) fun x h1 h2 => h x (by omega) (by omega)
theorem free_at (v : VltA) (j : Nat) (hj : takenA v (UInt32.ofNat j) = false) : ∀ (k i : Nat), i ≤ j → j < i + k → (∀ x, i ≤ x → x < j → takenA v (UInt32.ofNat x) = true) → freeFrom v i k = [UInt32.ofNat j]
  | 0, i, h1, h2, _ => by omega
  | k + 1, i, h1, h2, h => by
    by_cases e : i = j
    · subst e
      rw [freeFrom, if_neg (by rw [hj]; decide)]
    · rw [freeFrom, if_pos (h i (Nat.le_refl _) (by omega))]
      exact free_at v j hj k (i + 1) (by omega) (by omega) fun x h1 h2 => h x (by omega) (by omega)
theorem write_at {T : List UInt32} {v : VltA} {d : DevA} {N c : Nat} {k : KeyA} {j : Nat} {s : List UInt8} (D : DOk N c d) (hc : c + 1 ≤ 100) (hl : v.ring.length ≤ 1099511627776) (hk : findA v.ring v.gen = (k, 0)) (hs : s.length ≤ 198)
    (h2 : 2 ≤ j) (hj : j < N) (hfree : takenA v (UInt32.ofNat j) = false) (htk : ∀ x, 2 ≤ x → x < j → takenA v (UInt32.ofNat x) = true) (ht : v.taken.length ≤ 100) :
    f_vault_Vault_Write T v d s = some (⟨UInt32.ofNat j, (blkA T k (hd v (UInt32.ofNat j)) s).drop 224⟩, 0, { v with seals := v.seals + 1, taken := mput v.taken (UInt32.ofNat j) true }, { d with counts := wI (d.counts + 1), pend := mput d.pend (UInt32.ofNat j) (blkA T k (hd v (UInt32.ofNat j)) s) }) := by
  have hN := D.nle
  have hjn : (UInt32.ofNat j).toNat = j := by simp; omega
  unfold f_vault_Vault_Write freeO freesO
  rw [ret_eq, decide_eq_false (by omega), cond_false, some_bind, D.blen, if_pos (by omega), some_bind, free_at v j hfree (N - 2) 2 h2 (by omega) htk]
  show f_vault_Vault_Write_j1 T v d s (UInt32.ofNat j) = _
  unfold f_vault_Vault_Write_j1
  have h0 : decide (UInt32.ofNat j = 0) = false := by
    rw [decide_eq_false_iff_not]
    intro e
    have := congrArg UInt32.toNat e
    rw [hjn] at this
    simp at this
    omega
  rw [h0, cond_false, seal_at D hc hl hk (by rw [hjn]; exact hj) hs]
  simp only [some_bind, mputI]
  rw [if_pos (by omega)]
  rfl
theorem write_full {T : List UInt32} {v : VltA} {d : DevA} {N c : Nat} {s : List UInt8} (D : DOk N c d) (hs : s.length ≤ 198) (htk : ∀ x, 2 ≤ x → x < N → takenA v (UInt32.ofNat x) = true) :
    f_vault_Vault_Write T v d s = some (⟨0, []⟩, 110, v, d) := by
  have hN := D.nle
  unfold f_vault_Vault_Write freeO freesO
  rw [ret_eq, decide_eq_false (by omega), cond_false, some_bind, D.blen, if_pos (by omega), some_bind, free_full v (N - 2) 2 (fun x h1 h2 => htk x h1 (by omega))]
  rfl
theorem taken_put {v : VltA} {p q : UInt32} {b : Bool} {u : UInt64} : takenA { v with seals := u, taken := mput v.taken p b } q = if p = q then b else takenA v q := by
  unfold takenA
  rw [mget_put]
  split <;> rfl
/-! ### Rings -/
def keyN (i : Nat) : KeyA := ⟨UInt32.ofNat (i + 1), List.replicate 32 (UInt8.ofNat (65 + i))⟩
def ringA (m : Nat) : List KeyA := (List.range m).map keyN
theorem ringA_length (m : Nat) : (ringA m).length = m := by simp [ringA]
theorem ringA_succ (m : Nat) : ringA (m + 1) = ringA m ++ [keyN m] := by simp [ringA, List.range_succ]
theorem ring_eq (m : Nat) (hm : m ≤ 30) {n : Nat} (hn : 40 ≤ n) : f_law13_Ring n (m : Int) = some (ringA m) := by
  unfold f_law13_Ring f_law13_Ring_l1
  refine loop_all (fun i => (ringA i, ((i + 1 : Nat) : Int))) m ?_ ?_ (by omega)
  · intro i hi k
    simp only [f_law13_Ring_l1_b]
    rw [decide_eq_true (by omega), cond_true]
    unfold f_law13_Ring_l2
    refine loop_all (fun j => (List.replicate j (UInt8.ofNat (65 + i)), (j : Int))) 32 ?_ ?_ (by omega)
    · intro j hj k'
      simp only [f_law13_Ring_l2_b]
      rw [decide_eq_true (by omega), cond_true, appL_eq (by simp; omega) (by simp; omega), some_bind, ret_eq]
      have e : toU8 (wI (64 + ((i + 1 : Nat) : Int))) = UInt8.ofNat (65 + i) := by
        rw [wI_eq (by omega) (by omega)]
        unfold toU8
        congr 1
        omega
      rw [e, wI_eq (by omega) (by omega), ← List.replicate_succ']
      rfl
    · intro k'
      simp only [f_law13_Ring_l2_b]
      rw [decide_eq_false (by omega), cond_false]
      unfold f_law13_Ring_j3
      rw [appL_eq (by simp [ringA_length]; omega) (by simp [ringA_length]; omega), some_bind]
      unfold f_law13_Ring_j2
      rw [ret_eq, wI_eq (by omega) (by omega)]
      have e : toU32 ((i + 1 : Nat) : Int) = UInt32.ofNat (i + 1) := by
        unfold toU32
        congr 1
        omega
      rw [e, ringA_succ]
      rfl
  · intro k
    simp only [f_law13_Ring_l1_b]
    rw [decide_eq_false (by omega), cond_false]
    rfl
theorem keyN_gen {i : Nat} (h : i < 30) : (keyN i).gen.toNat = i + 1 := by simp [keyN]; omega
theorem ringA_right (m : Nat) (hm : m ≤ 16) : rightA (ringA m) = true := by
  refine (right_iff _).2 ⟨by rw [ringA_length]; exact hm, ?_, ?_⟩
  · unfold ringA
    rw [List.pairwise_map]
    refine List.Pairwise.imp_of_mem ?_ List.pairwise_lt_range
    intro a b ha hb hlt
    have h1 := List.mem_range.1 ha
    have h2 := List.mem_range.1 hb
    rw [UInt32.lt_iff_toNat_lt, keyN_gen (by omega), keyN_gen (by omega)]
    omega
  · intro k hk
    obtain ⟨i, hi, rfl⟩ := List.mem_map.1 hk
    have h1 := List.mem_range.1 hi
    refine ⟨?_, by simp [keyN]⟩
    rw [UInt32.lt_iff_toNat_lt, keyN_gen (by omega)]
    simp
theorem findA_ring {m i : Nat} (hm : m ≤ 16) (hi : i < m) : findA (ringA m) (keyN i).gen = (keyN i, 0) :=
  find_iff.2 ⟨ringA_right m hm, List.mem_map.2 ⟨i, List.mem_range.2 hi, rfl⟩, rfl⟩
theorem findA_none {l : List KeyA} {g : UInt32} (hr : rightA l = true) (h : ∀ k ∈ l, k.gen ≠ g) : findA l g = (key0, 41) := by
  unfold findA
  rw [if_neg (by rw [hr]; decide)]
  split
  · rename_i k hk
    rw [if_neg (h k (List.mem_of_getElem? hk))]
  · rfl
end Go.Proofs.YtddjneafgddlcaaDoor
