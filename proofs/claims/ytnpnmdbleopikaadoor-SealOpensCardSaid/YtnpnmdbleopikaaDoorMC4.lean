/- The texts U1, U2, U3, one behind the other, of the proof of ROpens: each bears its own sentence. Conditions: as each says. -/
import Derived.Test.YtnpnmdbleopikaaDoorMC1
import Derived.Test.YtnpnmdbleopikaaDoorMC2
import Derived.Test.YtnpnmdbleopikaaDoorMC3

/- Plain functions of the references and the laws, printed from the loaded program, and the walks that show that the program computes them. Condition: the plain function yields. -/
namespace Go.Proofs.YtnpnmdbleopikaaDoor
open Go
variable {K : Nat → Prop} {w0 : World} {H : List Chunk}

def f_ref01_turned (p0 : UInt32) (p1 : Int) : Option UInt32 :=
  (shN p1).bind fun n1 =>
  (shN (wI (32 - p1))).bind fun n2 =>
  ret ((shl32 p0 n1) ||| (shr32 p0 n2)) fun x1 =>
  some x1
set_option maxRecDepth 100000 in
theorem c_ref01_turned {p0 : UInt32} {p1 : Int} {r : UInt32} (h : f_ref01_turned p0 p1 = some r)  : Con Tryd.prog K w0 101 [vU32 p0, vI p1] [] H (fun u M => u = vU32 r ∧ M = []) := by
  unfold f_ref01_turned at h
  refine Con.enter Tryd.func101 rfl rfl ?_
  refine SX.sr ?_
  refine SL.asg ⟨rfl, rfl, rfl, rfl⟩ rfl ?_
  refine SL.nx ?_
  refine SX.seq ?_
  obtain ⟨n1, hn1, h⟩ := bnd h
  obtain ⟨n2, hn2, h⟩ := bnd h
  obtain ⟨x1, ex1, h⟩ := retE h
  refine SX.drawI mix [] (Pl.of [(true, 0), (true, 1), (true, 2), (true, 3), (true, 4), (true, 5), (true, 6), (true, 7), (true, 8)]) (by kernel_rfl) ?_
  refine SL.mv ⟨rfl, rfl, rfl, rfl⟩ rfl ?_
  refine SL.mv ⟨rfl, rfl, rfl, rfl⟩ rfl ?_
  refine SL.bin ⟨rfl, rfl, rfl, rfl⟩ rfl rfl (Bin.shl32O hn1) ?_
  refine SL.mv ⟨rfl, rfl, rfl, rfl⟩ rfl ?_
  refine SL.mv ⟨rfl, rfl, rfl, rfl⟩ rfl ?_
  refine SL.bin ⟨rfl, rfl, rfl, rfl⟩ rfl rfl Bin.subW ?_
  refine SL.bin ⟨rfl, rfl, rfl, rfl⟩ rfl rfl (Bin.shr32O hn2) ?_
  refine SL.bin ⟨rfl, rfl, rfl, rfl⟩ rfl rfl Bin.or32 ?_
  refine SL.asgX (u := vU32 x1) ⟨rfl, rfl, rfl, rfl⟩ rfl (by rw [ex1]) ?_
  refine SL.nx ?_
  refine SX.ret ?_
  obtain rfl := Option.some.inj h
  exact SQ.fret (res1 rfl rfl) (ret_of (M := []) ⟨rfl, rfl⟩ fun _ hw => HpOk.pick (H := []) hw [] 0 rfl)

def f_ref01_Quarter (p0 : UInt32) (p1 : UInt32) (p2 : UInt32) (p3 : UInt32) : Option (List UInt32) :=
  ret (p0 + p1) fun a_1 =>
  (f_ref01_turned (p3 ^^^ a_1) 16).bind fun y1 =>
  ret (p2 + y1) fun x1 =>
  (f_ref01_turned (p1 ^^^ x1) 12).bind fun y2 =>
  ret (a_1 + y2) fun a_2 =>
  (f_ref01_turned (y1 ^^^ a_2) 8).bind fun y3 =>
  ret (x1 + y3) fun x2 =>
  (f_ref01_turned (y2 ^^^ x2) 7).bind fun y4 =>
  some [a_2, y4, x2, y3]
set_option maxRecDepth 100000 in
theorem c_ref01_Quarter {p0 : UInt32} {p1 : UInt32} {p2 : UInt32} {p3 : UInt32} {r : List UInt32} (h : f_ref01_Quarter p0 p1 p2 p3 = some r)  : Con Tryd.prog K w0 93 [vU32 p0, vU32 p1, vU32 p2, vU32 p3] [] H (fun u M => u = .agg (arr vU32 r) ∧ r.length = 4 ∧ M = []) := by
  unfold f_ref01_Quarter at h
  refine Con.enter Tryd.func93 rfl rfl ?_
  refine SX.sr ?_
  refine SL.alloc ⟨rfl, rfl, rfl, rfl⟩ ze129 (fun _ => trivial) fun b1 => ?_
  refine SL.nx ?_
  refine SX.sr ?_
  obtain ⟨a_1, ea_1, h⟩ := retE h
  refine SL.mv ⟨rfl, rfl, rfl, rfl⟩ rfl ?_
  refine SL.mv ⟨rfl, rfl, rfl, rfl⟩ rfl ?_
  refine SL.bin ⟨rfl, rfl, rfl, rfl⟩ rfl rfl Bin.add32 ?_
  refine SL.asgX (u := vU32 a_1) ⟨rfl, rfl, rfl, rfl⟩ rfl (by rw [ea_1]) ?_
  refine SL.nx ?_
  refine SX.sr ?_
  obtain ⟨y1, hy1, h⟩ := bnd h
  refine SL.mv ⟨rfl, rfl, rfl, rfl⟩ rfl ?_
  refine SL.mv ⟨rfl, rfl, rfl, rfl⟩ rfl ?_
  refine SL.bin ⟨rfl, rfl, rfl, rfl⟩ rfl rfl Bin.xor32 ?_
  refine SL.call (vs := [_, _]) (Hin := []) (Hr := _ :: _) ⟨rfl, rfl, rfl, rfl⟩ rfl ⟨rfl, rfl, trivial⟩ cal101 rfl rfl (c_ref01_turned hy1) ?_
  rintro _ _ ⟨rfl, rfl⟩
  refine ⟨trivial, ?_⟩
  refine SL.asg ⟨rfl, rfl, rfl, rfl⟩ rfl ?_
  refine SL.nx ?_
  refine SX.sr ?_
  obtain ⟨x1, ex1, h⟩ := retE h
  refine SL.mv ⟨rfl, rfl, rfl, rfl⟩ rfl ?_
  refine SL.mv ⟨rfl, rfl, rfl, rfl⟩ rfl ?_
  refine SL.bin ⟨rfl, rfl, rfl, rfl⟩ rfl rfl Bin.add32 ?_
  refine SL.asgX (u := vU32 x1) ⟨rfl, rfl, rfl, rfl⟩ rfl (by rw [ex1]) ?_
  refine SL.nx ?_
  refine SX.sr ?_
  obtain ⟨y2, hy2, h⟩ := bnd h
  refine SL.mv ⟨rfl, rfl, rfl, rfl⟩ rfl ?_
  refine SL.mv ⟨rfl, rfl, rfl, rfl⟩ rfl ?_
  refine SL.bin ⟨rfl, rfl, rfl, rfl⟩ rfl rfl Bin.xor32 ?_
  refine SL.call (vs := [_, _]) (Hin := []) (Hr := _ :: _) ⟨rfl, rfl, rfl, rfl⟩ rfl ⟨rfl, rfl, trivial⟩ cal101 rfl rfl (c_ref01_turned hy2) ?_
  rintro _ _ ⟨rfl, rfl⟩
  refine ⟨trivial, ?_⟩
  refine SL.asg ⟨rfl, rfl, rfl, rfl⟩ rfl ?_
  refine SL.nx ?_
  refine SX.sr ?_
  obtain ⟨a_2, ea_2, h⟩ := retE h
  refine SL.mv ⟨rfl, rfl, rfl, rfl⟩ rfl ?_
  refine SL.mv ⟨rfl, rfl, rfl, rfl⟩ rfl ?_
  refine SL.bin ⟨rfl, rfl, rfl, rfl⟩ rfl rfl Bin.add32 ?_
  refine SL.asgX (u := vU32 a_2) ⟨rfl, rfl, rfl, rfl⟩ rfl (by rw [ea_2]) ?_
  refine SL.nx ?_
  refine SX.sr ?_
  obtain ⟨y3, hy3, h⟩ := bnd h
  refine SL.mv ⟨rfl, rfl, rfl, rfl⟩ rfl ?_
  refine SL.mv ⟨rfl, rfl, rfl, rfl⟩ rfl ?_
  refine SL.bin ⟨rfl, rfl, rfl, rfl⟩ rfl rfl Bin.xor32 ?_
  refine SL.call (vs := [_, _]) (Hin := []) (Hr := _ :: _) ⟨rfl, rfl, rfl, rfl⟩ rfl ⟨rfl, rfl, trivial⟩ cal101 rfl rfl (c_ref01_turned hy3) ?_
  rintro _ _ ⟨rfl, rfl⟩
  refine ⟨trivial, ?_⟩
  refine SL.asg ⟨rfl, rfl, rfl, rfl⟩ rfl ?_
  refine SL.nx ?_
  refine SX.sr ?_
  obtain ⟨x2, ex2, h⟩ := retE h
  refine SL.mv ⟨rfl, rfl, rfl, rfl⟩ rfl ?_
  refine SL.mv ⟨rfl, rfl, rfl, rfl⟩ rfl ?_
  refine SL.bin ⟨rfl, rfl, rfl, rfl⟩ rfl rfl Bin.add32 ?_
  refine SL.asgX (u := vU32 x2) ⟨rfl, rfl, rfl, rfl⟩ rfl (by rw [ex2]) ?_
  refine SL.nx ?_
  refine SX.sr ?_
  obtain ⟨y4, hy4, h⟩ := bnd h
  refine SL.mv ⟨rfl, rfl, rfl, rfl⟩ rfl ?_
  refine SL.mv ⟨rfl, rfl, rfl, rfl⟩ rfl ?_
  refine SL.bin ⟨rfl, rfl, rfl, rfl⟩ rfl rfl Bin.xor32 ?_
  refine SL.call (vs := [_, _]) (Hin := []) (Hr := _ :: _) ⟨rfl, rfl, rfl, rfl⟩ rfl ⟨rfl, rfl, trivial⟩ cal101 rfl rfl (c_ref01_turned hy4) ?_
  rintro _ _ ⟨rfl, rfl⟩
  refine ⟨trivial, ?_⟩
  refine SL.asg ⟨rfl, rfl, rfl, rfl⟩ rfl ?_
  refine SL.nx ?_
  refine SX.sr ?_
  refine SL.mv ⟨rfl, rfl, rfl, rfl⟩ rfl ?_
  refine SL.mv ⟨rfl, rfl, rfl, rfl⟩ rfl ?_
  refine SL.mv ⟨rfl, rfl, rfl, rfl⟩ rfl ?_
  refine SL.mv ⟨rfl, rfl, rfl, rfl⟩ rfl ?_
  refine SL.bld [_, _, _, _] ⟨rfl, rfl, rfl, rfl⟩ pl129 pk129 ze129 ⟨rfl, rfl, rfl, rfl, trivial⟩ rfl ?_
  refine SL.st 0 ⟨rfl, rfl, rfl⟩ rfl rfl rfl sz129 rfl rfl rfl trivial ?_
  refine SL.nx ?_
  refine SX.ret ?_
  obtain rfl := Option.some.inj h
  exact SQ.fret (resv1 rfl (resv.ag 0 (([a_2, y4, x2, y3]).map vU32) ag129 rfl rfl rfl rfl)) (ret_of (M := []) ⟨rfl, rfl, rfl⟩ fun _ hw => HpOk.pick (H := [_]) hw [] 1 rfl)

def f_ref01_word (p0 : List UInt8) (p1 : Int) : Option UInt32 :=
  (nthI p0 p1).bind fun c1 =>
  (nthI p0 (wI (p1 + 1))).bind fun c2 =>
  (nthI p0 (wI (p1 + 2))).bind fun c3 =>
  (nthI p0 (wI (p1 + 3))).bind fun c4 =>
  ret (((c1.toUInt32 ||| (shl32 c2.toUInt32 8)) ||| (shl32 c3.toUInt32 16)) ||| (shl32 c4.toUInt32 24)) fun x1 =>
  some x1
set_option maxRecDepth 100000 in
theorem c_ref01_word {p0 : List UInt8} {p1 : Int} {r : UInt32} (h : f_ref01_word p0 p1 = some r)  : Con Tryd.prog K w0 92 [vS p0, vI p1] [] H (fun u M => u = vU32 r ∧ M = []) := by
  unfold f_ref01_word at h
  refine Con.enter Tryd.func92 rfl rfl ?_
  refine SX.sr ?_
  refine SL.asg ⟨rfl, rfl, rfl, rfl⟩ rfl ?_
  refine SL.nx ?_
  refine SX.seq ?_
  obtain ⟨c1, hc1, h⟩ := bnd h
  obtain ⟨c2, hc2, h⟩ := bnd h
  obtain ⟨c3, hc3, h⟩ := bnd h
  obtain ⟨c4, hc4, h⟩ := bnd h
  obtain ⟨x1, ex1, h⟩ := retE h
  refine SX.drawI mix [] (Pl.of [(true, 0), (true, 1), (true, 2), (true, 3), (true, 4), (true, 5), (true, 6), (true, 7), (true, 8), (true, 9), (true, 10), (true, 11), (true, 12), (true, 13), (true, 14), (true, 15), (true, 16), (true, 17), (true, 18), (true, 19), (true, 20), (true, 21), (true, 22), (true, 23), (true, 24), (true, 25)]) (by kernel_rfl) ?_
  refine SL.mv ⟨rfl, rfl, rfl, rfl⟩ rfl ?_
  refine SL.mv ⟨rfl, rfl, rfl, rfl⟩ rfl ?_
  refine SL.ixN hc1 ⟨rfl, rfl, rfl, rfl⟩ ty9 rfl rfl ?_
  refine SL.cv ⟨rfl, rfl, rfl, rfl⟩ rfl (Cv.u8_32 ty5 ty22) ?_
  refine SL.mv ⟨rfl, rfl, rfl, rfl⟩ rfl ?_
  refine SL.mv ⟨rfl, rfl, rfl, rfl⟩ rfl ?_
  refine SL.bin ⟨rfl, rfl, rfl, rfl⟩ rfl rfl Bin.addW ?_
  refine SL.ixN hc2 ⟨rfl, rfl, rfl, rfl⟩ ty9 rfl rfl ?_
  refine SL.cv ⟨rfl, rfl, rfl, rfl⟩ rfl (Cv.u8_32 ty5 ty22) ?_
  refine SL.bin ⟨rfl, rfl, rfl, rfl⟩ rfl rfl (Bin.shl32 (n := 8)) ?_
  refine SL.bin ⟨rfl, rfl, rfl, rfl⟩ rfl rfl Bin.or32 ?_
  refine SL.mv ⟨rfl, rfl, rfl, rfl⟩ rfl ?_
  refine SL.mv ⟨rfl, rfl, rfl, rfl⟩ rfl ?_
  refine SL.bin ⟨rfl, rfl, rfl, rfl⟩ rfl rfl Bin.addW ?_
  refine SL.ixN hc3 ⟨rfl, rfl, rfl, rfl⟩ ty9 rfl rfl ?_
  refine SL.cv ⟨rfl, rfl, rfl, rfl⟩ rfl (Cv.u8_32 ty5 ty22) ?_
  refine SL.bin ⟨rfl, rfl, rfl, rfl⟩ rfl rfl (Bin.shl32 (n := 16)) ?_
  refine SL.bin ⟨rfl, rfl, rfl, rfl⟩ rfl rfl Bin.or32 ?_
  refine SL.mv ⟨rfl, rfl, rfl, rfl⟩ rfl ?_
  refine SL.mv ⟨rfl, rfl, rfl, rfl⟩ rfl ?_
  refine SL.bin ⟨rfl, rfl, rfl, rfl⟩ rfl rfl Bin.addW ?_
  refine SL.ixN hc4 ⟨rfl, rfl, rfl, rfl⟩ ty9 rfl rfl ?_
  refine SL.cv ⟨rfl, rfl, rfl, rfl⟩ rfl (Cv.u8_32 ty5 ty22) ?_
  refine SL.bin ⟨rfl, rfl, rfl, rfl⟩ rfl rfl (Bin.shl32 (n := 24)) ?_
  refine SL.bin ⟨rfl, rfl, rfl, rfl⟩ rfl rfl Bin.or32 ?_
  refine SL.asgX (u := vU32 x1) ⟨rfl, rfl, rfl, rfl⟩ rfl (by rw [ex1]) ?_
  refine SL.nx ?_
  refine SX.ret ?_
  obtain rfl := Option.some.inj h
  exact SQ.fret (res1 rfl rfl) (ret_of (M := []) ⟨rfl, rfl⟩ fun _ hw => HpOk.pick (H := []) hw [] 0 rfl)

def f_ref01_State_j2 (l5 : List UInt32) : Option (List UInt32) :=
  some l5
def f_ref01_State_l2_b (p2 : List UInt8) (nx_f_ref01_State_l2 : List UInt32 × Int → Option (List UInt32)) (l6 : List UInt32) (a2 : Int) : Option (List UInt32) :=
  cond (decide (a2 < 3))
  (
    (f_ref01_word p2 (wI (4 * a2))).bind fun y2 =>
    (appL 4 l6 [y2]).bind fun l7 =>
    ret (wI (a2 + 1)) fun i_2 =>
    nx_f_ref01_State_l2 (l7, i_2))
  (
    f_ref01_State_j2 l6)
def f_ref01_State_l2 (p2 : List UInt8) : Nat → (List UInt32 × Int) → Option (List UInt32) := loopN fun nx x => f_ref01_State_l2_b p2 nx x.1 x.2
def f_ref01_State_j1 (n : Nat) (p1 : UInt32) (p2 : List UInt8) (l1 : List UInt32) : Option (List UInt32) :=
  (appL 4 l1 [p1]).bind fun l4 =>
  f_ref01_State_l2 p2 n (l4, 0)
def f_ref01_State_l1_b (n : Nat) (p0 : List UInt8) (p1 : UInt32) (p2 : List UInt8) (nx_f_ref01_State_l1 : List UInt32 × Int → Option (List UInt32)) (l2 : List UInt32) (a1 : Int) : Option (List UInt32) :=
  cond (decide (a1 < 8))
  (
    (f_ref01_word p0 (wI (4 * a1))).bind fun y1 =>
    (appL 4 l2 [y1]).bind fun l3 =>
    ret (wI (a1 + 1)) fun i_1 =>
    nx_f_ref01_State_l1 (l3, i_1))
  (
    f_ref01_State_j1 n p1 p2 l2)
def f_ref01_State_l1 (n : Nat) (p0 : List UInt8) (p1 : UInt32) (p2 : List UInt8) : Nat → (List UInt32 × Int) → Option (List UInt32) := loopN fun nx x => f_ref01_State_l1_b n p0 p1 p2 nx x.1 x.2
def f_ref01_State (n : Nat) (p0 : List UInt8) (p1 : UInt32) (p2 : List UInt8) : Option (List UInt32) :=
  f_ref01_State_l1 n p0 p1 p2 n ([1634760805, 857760878, 2036477234, 1797285236], 0)
set_option maxRecDepth 100000 in
theorem c_ref01_State {n : Nat} {p0 : List UInt8} {p1 : UInt32} {p2 : List UInt8} {r : List UInt32} (h : f_ref01_State n p0 p1 p2 = some r)  : Con Tryd.prog K w0 78 [vS p0, vU32 p1, vS p2] [] H (fun u M => ∃ v0 : Value, u = v0 ∧ M = [rowT 22 1 v0 eU32 r]) := by
  unfold f_ref01_State at h
  refine Con.enter Tryd.func78 rfl rfl ?_
  refine SX.sr ?_
  refine SL.nilT 22 1 eU32 ?_
  refine SL.asg ⟨rfl, rfl, rfl, rfl⟩ rfl ?_
  refine SL.nx ?_
  refine SX.sr ?_
  refine SL.bsl [_, _, _, _] ⟨rfl, rfl, rfl, rfl⟩ ty104 sz22 ze22 ⟨rfl, rfl, rfl, rfl, trivial⟩ rfl rfl rfl (by simp [Value.cells]) rfl rfl (fun _ => trivial) fun b1 => ?_
  refine SL.ownT eU32 1 ([1634760805, 857760878, 2036477234, 1797285236] : List UInt32) rfl (fun _ => rfl) rfl ?_
  refine SL.asg ⟨rfl, rfl, rfl, rfl⟩ rfl ?_
  refine SL.nx ?_
  refine SX.meetD (α := List UInt32 × Value) (fun x => f_ref01_State_j1 n p1 p2 x.1 = some r) (fun x => [(1, vU32 p1), (2, vS p2), (7, x.2)]) (fun x => rowT 22 1 x.2 eU32 x.1 :: H) ?_ (fun x D h => ?_)
  · skip
    refine SX.sr ?_
    refine SL.asg ⟨rfl, rfl, rfl, rfl⟩ rfl ?_
    refine SL.nx ?_
    refine SX.block ?_
    refine SX.heap (SX.mono (SX.loop (α := Nat × List UInt32 × Value × Int) (fun x => f_ref01_State_l1 n p0 p1 p2 x.1 (x.2.1, x.2.2.2) = some r) (fun x => [(0, vS p0), (1, vU32 p1), (2, vS p2), (7, x.2.2.1), (8, vI x.2.2.2)]) (fun x => rowT 22 1 x.2.2.1 eU32 x.2.1 :: H) (fun x => x.1) (fun x D h => ?_) (n, [1634760805, 857760878, 2036477234, 1797285236], .slice (some ⟨b1, 0, none⟩) 4 4, 0) h) (by repeat' (first | exact trivial | refine And.intro rfl ?_))) (fun _ hw => HpOk.pick (H := [_, _]) hw [0] 2 rfl)
    obtain ⟨m1, l2, v2, a1⟩ := x
    dsimp only at h
    rcases m1 with _ | m1
    · cases (show (none : Option _) = some r from h)
    replace h : f_ref01_State_l1_b n p0 p1 p2 (f_ref01_State_l1 n p0 p1 p2 m1) l2 a1 = some r := h
    unfold f_ref01_State_l1_b at h
    refine SX.re [(0, vS p0), (1, vU32 p1), (2, vS p2), (7, v2), (8, vI a1)] (rowT 22 1 v2 eU32 l2 :: H) ?_ (by repeat' (first | exact trivial | refine And.intro rfl ?_))
    refine SX.seq ?_
    refine SX.sr ?_
    refine SL.mv ⟨rfl, rfl, rfl, rfl⟩ rfl ?_
    refine SL.bin ⟨rfl, rfl, rfl, rfl⟩ rfl rfl Bin.ltI ?_
    refine SL.nx ?_
    refine SX.cond rfl (fun hc1 => ?_) (fun hc1 => ?_)
    · skip
      replace h := cT hc1 h
      refine SX.skip ?_
      refine SQ.thn ?_
      refine SX.seq ?_
      refine SX.block ?_
      refine SX.region ?_
      obtain ⟨y1, hy1, h⟩ := bnd h
      obtain ⟨l3, hl3, h⟩ := bnd h
      refine SL.mv ⟨rfl, rfl, rfl, rfl⟩ rfl ?_
      refine SL.mv ⟨rfl, rfl, rfl, rfl⟩ rfl ?_
      refine SL.mv ⟨rfl, rfl, rfl, rfl⟩ rfl ?_
      refine SL.bin ⟨rfl, rfl, rfl, rfl⟩ rfl rfl Bin.mulW ?_
      refine SL.call (vs := [_, _]) (Hin := []) (Hr := _ :: _) ⟨rfl, rfl, rfl, rfl⟩ rfl ⟨rfl, rfl, trivial⟩ cal92 rfl rfl (c_ref01_word hy1) ?_
      rintro _ _ ⟨rfl, rfl⟩
      refine ⟨trivial, ?_⟩
      refine SL.bsl [_] ⟨rfl, rfl, rfl, rfl⟩ ty104 sz22 ze22 ⟨rfl, trivial⟩ rfl rfl rfl (by simp [Value.cells]) rfl rfl (fun _ => trivial) fun b2 => ?_
      refine SL.ownT eU32 1 ([y1] : List UInt32) rfl (fun _ => rfl) rfl ?_
      refine SL.appT 1 hl3 (sz := 1) (enc := eU32) (fun _ => rfl) ⟨rfl, rfl, rfl, rfl⟩ ty104 sz22 by22 ze22 rfl (by decide) rfl rfl rfl rfl (cells_rowA (sz := 1) (enc := eU32) 0 (fun _ => rfl) rfl) (by simp [eU32, Value.oneCell']) (fun _ => trivial) fun v3 => ?_
      refine SL.asg ⟨rfl, rfl, rfl, rfl⟩ rfl ?_
      refine SL.nil ?_
      refine SQ.blk ?_
      refine SQ.thn ?_
      refine SX.region ?_
      obtain ⟨i_1, ei_1, h⟩ := retE h
      refine SL.mv ⟨rfl, rfl, rfl, rfl⟩ rfl ?_
      refine SL.bin ⟨rfl, rfl, rfl, rfl⟩ rfl rfl Bin.addW ?_
      refine SL.asgX (u := vI i_1) ⟨rfl, rfl, rfl, rfl⟩ rfl (by rw [ei_1]) ?_
      refine SL.nil ?_
      exact SQ.again (m1, l3, v3, i_1) h (Nat.lt_succ_self _) (by repeat' (first | exact trivial | refine And.intro rfl ?_)) (fun _ hw => HpOk.pick (H := [_, _]) hw [1] 2 rfl)
    · skip
      replace h := cF hc1 h
      refine SX.exit ?_
      refine SQ.thnE ?_
      refine SQ.lpE ?_
      refine SQ.blkE ?_
      exact SQ.midD (l2, v2) h (by repeat' (first | exact trivial | refine And.intro rfl ?_)) (fun _ hw => HpOk.pick (H := [_]) hw [0] 1 rfl)
  · skip
    obtain ⟨l1, v1⟩ := x
    dsimp only at h
    unfold f_ref01_State_j1 at h
    refine SX.re [(1, vU32 p1), (2, vS p2), (7, v1)] (rowT 22 1 v1 eU32 l1 :: H) ?_ (by repeat' (first | exact trivial | refine And.intro rfl ?_))
    refine SX.sr ?_
    obtain ⟨l4, hl4, h⟩ := bnd h
    refine SL.mv ⟨rfl, rfl, rfl, rfl⟩ rfl ?_
    refine SL.mv ⟨rfl, rfl, rfl, rfl⟩ rfl ?_
    refine SL.bsl [_] ⟨rfl, rfl, rfl, rfl⟩ ty104 sz22 ze22 ⟨rfl, trivial⟩ rfl rfl rfl (by simp [Value.cells]) rfl rfl (fun _ => trivial) fun b3 => ?_
    refine SL.ownT eU32 1 ([p1] : List UInt32) rfl (fun _ => rfl) rfl ?_
    refine SL.appT 1 hl4 (sz := 1) (enc := eU32) (fun _ => rfl) ⟨rfl, rfl, rfl, rfl⟩ ty104 sz22 by22 ze22 rfl (by decide) rfl rfl rfl rfl (cells_rowA (sz := 1) (enc := eU32) 0 (fun _ => rfl) rfl) (by simp [eU32, Value.oneCell']) (fun _ => trivial) fun v4 => ?_
    refine SL.asg ⟨rfl, rfl, rfl, rfl⟩ rfl ?_
    refine SL.nx ?_
    refine SX.meetD (α := List UInt32 × Value) (fun x => f_ref01_State_j2 x.1 = some r) (fun x => [(7, x.2)]) (fun x => rowT 22 1 x.2 eU32 x.1 :: H) ?_ (fun x D h => ?_)
    · skip
      refine SX.sr ?_
      refine SL.asg ⟨rfl, rfl, rfl, rfl⟩ rfl ?_
      refine SL.nx ?_
      refine SX.block ?_
      refine SX.heap (SX.mono (SX.loop (α := Nat × List UInt32 × Value × Int) (fun x => f_ref01_State_l2 p2 x.1 (x.2.1, x.2.2.2) = some r) (fun x => [(2, vS p2), (7, x.2.2.1), (9, vI x.2.2.2)]) (fun x => rowT 22 1 x.2.2.1 eU32 x.2.1 :: H) (fun x => x.1) (fun x D h => ?_) (n, l4, v4, 0) h) (by repeat' (first | exact trivial | refine And.intro rfl ?_))) (fun _ hw => HpOk.pick (H := [_, _]) hw [1] 2 rfl)
      obtain ⟨m2, l6, v6, a2⟩ := x
      dsimp only at h
      rcases m2 with _ | m2
      · cases (show (none : Option _) = some r from h)
      replace h : f_ref01_State_l2_b p2 (f_ref01_State_l2 p2 m2) l6 a2 = some r := h
      unfold f_ref01_State_l2_b at h
      refine SX.re [(2, vS p2), (7, v6), (9, vI a2)] (rowT 22 1 v6 eU32 l6 :: H) ?_ (by repeat' (first | exact trivial | refine And.intro rfl ?_))
      refine SX.seq ?_
      refine SX.sr ?_
      refine SL.mv ⟨rfl, rfl, rfl, rfl⟩ rfl ?_
      refine SL.bin ⟨rfl, rfl, rfl, rfl⟩ rfl rfl Bin.ltI ?_
      refine SL.nx ?_
      refine SX.cond rfl (fun hc2 => ?_) (fun hc2 => ?_)
      · skip
        replace h := cT hc2 h
        refine SX.skip ?_
        refine SQ.thn ?_
        refine SX.seq ?_
        refine SX.block ?_
        refine SX.region ?_
        obtain ⟨y2, hy2, h⟩ := bnd h
        obtain ⟨l7, hl7, h⟩ := bnd h
        refine SL.mv ⟨rfl, rfl, rfl, rfl⟩ rfl ?_
        refine SL.mv ⟨rfl, rfl, rfl, rfl⟩ rfl ?_
        refine SL.mv ⟨rfl, rfl, rfl, rfl⟩ rfl ?_
        refine SL.bin ⟨rfl, rfl, rfl, rfl⟩ rfl rfl Bin.mulW ?_
        refine SL.call (vs := [_, _]) (Hin := []) (Hr := _ :: _) ⟨rfl, rfl, rfl, rfl⟩ rfl ⟨rfl, rfl, trivial⟩ cal92 rfl rfl (c_ref01_word hy2) ?_
        rintro _ _ ⟨rfl, rfl⟩
        refine ⟨trivial, ?_⟩
        refine SL.bsl [_] ⟨rfl, rfl, rfl, rfl⟩ ty104 sz22 ze22 ⟨rfl, trivial⟩ rfl rfl rfl (by simp [Value.cells]) rfl rfl (fun _ => trivial) fun b4 => ?_
        refine SL.ownT eU32 1 ([y2] : List UInt32) rfl (fun _ => rfl) rfl ?_
        refine SL.appT 1 hl7 (sz := 1) (enc := eU32) (fun _ => rfl) ⟨rfl, rfl, rfl, rfl⟩ ty104 sz22 by22 ze22 rfl (by decide) rfl rfl rfl rfl (cells_rowA (sz := 1) (enc := eU32) 0 (fun _ => rfl) rfl) (by simp [eU32, Value.oneCell']) (fun _ => trivial) fun v7 => ?_
        refine SL.asg ⟨rfl, rfl, rfl, rfl⟩ rfl ?_
        refine SL.nil ?_
        refine SQ.blk ?_
        refine SQ.thn ?_
        refine SX.region ?_
        obtain ⟨i_2, ei_2, h⟩ := retE h
        refine SL.mv ⟨rfl, rfl, rfl, rfl⟩ rfl ?_
        refine SL.bin ⟨rfl, rfl, rfl, rfl⟩ rfl rfl Bin.addW ?_
        refine SL.asgX (u := vI i_2) ⟨rfl, rfl, rfl, rfl⟩ rfl (by rw [ei_2]) ?_
        refine SL.nil ?_
        exact SQ.again (m2, l7, v7, i_2) h (Nat.lt_succ_self _) (by repeat' (first | exact trivial | refine And.intro rfl ?_)) (fun _ hw => HpOk.pick (H := [_, _]) hw [1] 2 rfl)
      · skip
        replace h := cF hc2 h
        refine SX.exit ?_
        refine SQ.thnE ?_
        refine SQ.lpE ?_
        refine SQ.blkE ?_
        exact SQ.midD (l6, v6) h (by repeat' (first | exact trivial | refine And.intro rfl ?_)) (fun _ hw => HpOk.pick (H := [_]) hw [0] 1 rfl)
    · skip
      obtain ⟨l5, v5⟩ := x
      dsimp only at h
      unfold f_ref01_State_j2 at h
      refine SX.re [(7, v5)] (rowT 22 1 v5 eU32 l5 :: H) ?_ (by repeat' (first | exact trivial | refine And.intro rfl ?_))
      refine SX.sr ?_
      refine SL.mv ⟨rfl, rfl, rfl, rfl⟩ rfl ?_
      refine SL.asg ⟨rfl, rfl, rfl, rfl⟩ rfl ?_
      refine SL.nx ?_
      refine SX.ret ?_
      obtain rfl := Option.some.inj h
      exact SQ.fret (res1 rfl rfl) (ret_of (M := [_]) ⟨v5, rfl, rfl⟩ fun _ hw => HpOk.pick (H := [_]) hw [0] 1 rfl)

def f_ref01_at (p0 : List UInt32) (p1 : Int) (p2 : Int) (p3 : Int) (p4 : Int) : Option (List UInt32) :=
  (nthI p0 p1).bind fun x1 =>
  (nthI p0 p2).bind fun x2 =>
  (nthI p0 p3).bind fun x3 =>
  (nthI p0 p4).bind fun x4 =>
  (f_ref01_Quarter x1 x2 x3 x4).bind fun y1 =>
  (nthI y1 0).bind fun x5 =>
  (nthI p0 p1).bind fun x6 =>
  (setI p0 p1 x5).bind fun l1 =>
  (nthI y1 1).bind fun x7 =>
  (nthI l1 p2).bind fun x8 =>
  (setI l1 p2 x7).bind fun l2 =>
  (nthI y1 2).bind fun x9 =>
  (nthI l2 p3).bind fun x10 =>
  (setI l2 p3 x9).bind fun l3 =>
  (nthI y1 3).bind fun x11 =>
  (nthI l3 p4).bind fun x12 =>
  (setI l3 p4 x11).bind fun l4 =>
  some l4
set_option maxRecDepth 100000 in
theorem c_ref01_at {v0_ : Value} {p0 : List UInt32} {p1 : Int} {p2 : Int} {p3 : Int} {p4 : Int} {r : List UInt32} (h : f_ref01_at p0 p1 p2 p3 p4 = some r)  : Con Tryd.prog K w0 79 [v0_, vI p1, vI p2, vI p3, vI p4] [rowT 22 1 v0_ eU32 p0] H (fun u M => u = .tuple #[] ∧ M = [rowT 22 1 v0_ eU32 r]) := by
  unfold f_ref01_at at h
  refine Con.enter Tryd.func79 rfl rfl ?_
  refine SX.seq ?_
  obtain ⟨x1, hx1, h⟩ := bnd h
  obtain ⟨x2, hx2, h⟩ := bnd h
  obtain ⟨x3, hx3, h⟩ := bnd h
  obtain ⟨x4, hx4, h⟩ := bnd h
  obtain ⟨y1, hy1, h⟩ := bnd h
  refine SX.drawI mix [0] (Pl.ap [(true, 0), (true, 1), (true, 2), (true, 3), (true, 4), (true, 5), (true, 6), (true, 7), (true, 8), (true, 9), (true, 10), (true, 11), (true, 12), (true, 13), (true, 14), (true, 15)] (.alt 16 (Pl.of [(false, 17), (false, 18)]) (.cons (false, 17) (Pl.of [(false, 16), (false, 18)])))) (by kernel_rfl) ?_
  refine SL.mv ⟨rfl, rfl, rfl, rfl⟩ rfl ?_
  refine SL.mv ⟨rfl, rfl, rfl, rfl⟩ rfl ?_
  refine SL.iaT 0 hx1 ⟨rfl, rfl, rfl, rfl⟩ ty104 sz22 rfl rfl rfl fun g1 m1 cp1 hv1 => ?_
  refine SL.ld ⟨rfl, rfl, rfl, rfl⟩ sc22 rfl (cell_rowT (sz := 1) (enc := eU32) 0 0 (fun _ => rfl) rfl hv1 hx1 rfl) ?_
  refine SL.mv ⟨rfl, rfl, rfl, rfl⟩ rfl ?_
  refine SL.mv ⟨rfl, rfl, rfl, rfl⟩ rfl ?_
  refine SL.iaT 0 hx2 ⟨rfl, rfl, rfl, rfl⟩ ty104 sz22 rfl rfl rfl fun g2 m2 cp2 hv2 => ?_
  refine SL.ld ⟨rfl, rfl, rfl, rfl⟩ sc22 rfl (cell_rowT (sz := 1) (enc := eU32) 0 0 (fun _ => rfl) rfl hv2 hx2 rfl) ?_
  refine SL.mv ⟨rfl, rfl, rfl, rfl⟩ rfl ?_
  refine SL.mv ⟨rfl, rfl, rfl, rfl⟩ rfl ?_
  refine SL.iaT 0 hx3 ⟨rfl, rfl, rfl, rfl⟩ ty104 sz22 rfl rfl rfl fun g3 m3 cp3 hv3 => ?_
  refine SL.ld ⟨rfl, rfl, rfl, rfl⟩ sc22 rfl (cell_rowT (sz := 1) (enc := eU32) 0 0 (fun _ => rfl) rfl hv3 hx3 rfl) ?_
  refine SL.mv ⟨rfl, rfl, rfl, rfl⟩ rfl ?_
  refine SL.mv ⟨rfl, rfl, rfl, rfl⟩ rfl ?_
  refine SL.iaT 0 hx4 ⟨rfl, rfl, rfl, rfl⟩ ty104 sz22 rfl rfl rfl fun g4 m4 cp4 hv4 => ?_
  refine SL.ld ⟨rfl, rfl, rfl, rfl⟩ sc22 rfl (cell_rowT (sz := 1) (enc := eU32) 0 0 (fun _ => rfl) rfl hv4 hx4 rfl) ?_
  refine SL.two ?_ ?_
  · skip
    refine SL.call (vs := [_, _, _, _]) (Hin := []) (Hr := _ :: _) ⟨rfl, rfl, rfl, rfl⟩ rfl ⟨rfl, rfl, rfl, rfl, trivial⟩ cal93 rfl rfl (c_ref01_Quarter hy1) ?_
    rintro _ _ ⟨rfl, hn1, rfl⟩
    refine ⟨⟨⟨0, rfl⟩, trivial⟩, ?_⟩
    refine SL.alloc ⟨rfl, rfl, rfl, rfl⟩ ze129 (fun _ => ⟨⟨1, rfl⟩, trivial⟩) fun b1 => ?_
    refine SL.stF 0 ⟨rfl, rfl, rfl⟩ rfl rfl rfl sz129 ((arr_size ..).trans hn1) rfl (arr_one (f := vU32) (fun _ => rfl) y1) ⟨⟨1, rfl⟩, trivial⟩ ?_
    refine SL.nx ?_
    refine SX.sr ?_
    obtain ⟨x5, hx5, h⟩ := bnd h
    obtain ⟨x6, hx6, h⟩ := bnd h
    obtain ⟨l1, hl1, h⟩ := bnd h
    refine SL.mv ⟨rfl, rfl, rfl, rfl⟩ rfl ?_
    refine SL.mv ⟨rfl, rfl, rfl, rfl⟩ rfl ?_
    refine SL.iaAN (xs := y1) hx5 ⟨rfl, rfl, rfl, rfl⟩ ty129 sz22 rfl rfl hn1 ?_
    refine SL.ld ⟨rfl, rfl, rfl, rfl⟩ sc22 rfl (cell_own 0 rfl (arr_get (nthI_some hx5).2.2)) ?_
    refine SL.iaT 1 hx6 ⟨rfl, rfl, rfl, rfl⟩ ty104 sz22 rfl rfl rfl fun g5 m5 cp5 hv5 => ?_
    refine SL.stTN (sz := 1) (enc := eU32) 1 hl1 (fun _ => rfl) ⟨rfl, rfl, rfl⟩ rfl rfl rfl rfl hv5 sz22 (by simp [Value.oneCell']) trivial ?_
    refine SL.nx ?_
    refine SX.sr ?_
    obtain ⟨x7, hx7, h⟩ := bnd h
    obtain ⟨x8, hx8, h⟩ := bnd h
    obtain ⟨l2, hl2, h⟩ := bnd h
    refine SL.mv ⟨rfl, rfl, rfl, rfl⟩ rfl ?_
    refine SL.mv ⟨rfl, rfl, rfl, rfl⟩ rfl ?_
    refine SL.iaAN (xs := y1) hx7 ⟨rfl, rfl, rfl, rfl⟩ ty129 sz22 rfl rfl hn1 ?_
    refine SL.ld ⟨rfl, rfl, rfl, rfl⟩ sc22 rfl (cell_own 0 rfl (arr_get (nthI_some hx7).2.2)) ?_
    refine SL.iaT 1 hx8 ⟨rfl, rfl, rfl, rfl⟩ ty104 sz22 rfl rfl rfl fun g6 m6 cp6 hv6 => ?_
    refine SL.stTN (sz := 1) (enc := eU32) 1 hl2 (fun _ => rfl) ⟨rfl, rfl, rfl⟩ rfl rfl rfl rfl hv6 sz22 (by simp [Value.oneCell']) trivial ?_
    refine SL.nx ?_
    refine SX.sr ?_
    obtain ⟨x9, hx9, h⟩ := bnd h
    obtain ⟨x10, hx10, h⟩ := bnd h
    obtain ⟨l3, hl3, h⟩ := bnd h
    refine SL.mv ⟨rfl, rfl, rfl, rfl⟩ rfl ?_
    refine SL.mv ⟨rfl, rfl, rfl, rfl⟩ rfl ?_
    refine SL.iaAN (xs := y1) hx9 ⟨rfl, rfl, rfl, rfl⟩ ty129 sz22 rfl rfl hn1 ?_
    refine SL.ld ⟨rfl, rfl, rfl, rfl⟩ sc22 rfl (cell_own 0 rfl (arr_get (nthI_some hx9).2.2)) ?_
    refine SL.iaT 1 hx10 ⟨rfl, rfl, rfl, rfl⟩ ty104 sz22 rfl rfl rfl fun g7 m7 cp7 hv7 => ?_
    refine SL.stTN (sz := 1) (enc := eU32) 1 hl3 (fun _ => rfl) ⟨rfl, rfl, rfl⟩ rfl rfl rfl rfl hv7 sz22 (by simp [Value.oneCell']) trivial ?_
    refine SL.nx ?_
    refine SX.region ?_
    obtain ⟨x11, hx11, h⟩ := bnd h
    obtain ⟨x12, hx12, h⟩ := bnd h
    obtain ⟨l4, hl4, h⟩ := bnd h
    refine SL.mv ⟨rfl, rfl, rfl, rfl⟩ rfl ?_
    refine SL.mv ⟨rfl, rfl, rfl, rfl⟩ rfl ?_
    refine SL.iaAN (xs := y1) hx11 ⟨rfl, rfl, rfl, rfl⟩ ty129 sz22 rfl rfl hn1 ?_
    refine SL.ld ⟨rfl, rfl, rfl, rfl⟩ sc22 rfl (cell_own 0 rfl (arr_get (nthI_some hx11).2.2)) ?_
    refine SL.iaT 1 hx12 ⟨rfl, rfl, rfl, rfl⟩ ty104 sz22 rfl rfl rfl fun g8 m8 cp8 hv8 => ?_
    refine SL.stTN (sz := 1) (enc := eU32) 1 hl4 (fun _ => rfl) ⟨rfl, rfl, rfl⟩ rfl rfl rfl rfl hv8 sz22 (by simp [Value.oneCell']) trivial ?_
    refine SL.nil ?_
    obtain rfl := Option.some.inj h
    exact SQ.fend (res0 rfl) (ret_of (M := [_]) ⟨rfl, rfl⟩ fun _ hw => HpOk.pick (H := [_, _]) hw [1] 2 rfl)
  · skip
    refine SL.alloc ⟨rfl, rfl, rfl, rfl⟩ ze129 (fun _ => ⟨⟨1, rfl⟩, trivial⟩) fun b1 => ?_
    refine SL.call (vs := [_, _, _, _]) (Hin := []) (Hr := _ :: _ :: _) ⟨rfl, rfl, rfl, rfl⟩ rfl ⟨rfl, rfl, rfl, rfl, trivial⟩ cal93 rfl rfl (c_ref01_Quarter hy1) ?_
    rintro _ _ ⟨rfl, hn1, rfl⟩
    refine ⟨⟨⟨1, rfl⟩, trivial⟩, ?_⟩
    refine SL.stF 0 ⟨rfl, rfl, rfl⟩ rfl rfl rfl sz129 ((arr_size ..).trans hn1) rfl (arr_one (f := vU32) (fun _ => rfl) y1) ⟨⟨1, rfl⟩, trivial⟩ ?_
    refine SL.nx ?_
    refine SX.sr ?_
    obtain ⟨x5, hx5, h⟩ := bnd h
    obtain ⟨x6, hx6, h⟩ := bnd h
    obtain ⟨l1, hl1, h⟩ := bnd h
    refine SL.mv ⟨rfl, rfl, rfl, rfl⟩ rfl ?_
    refine SL.mv ⟨rfl, rfl, rfl, rfl⟩ rfl ?_
    refine SL.iaAN (xs := y1) hx5 ⟨rfl, rfl, rfl, rfl⟩ ty129 sz22 rfl rfl hn1 ?_
    refine SL.ld ⟨rfl, rfl, rfl, rfl⟩ sc22 rfl (cell_own 0 rfl (arr_get (nthI_some hx5).2.2)) ?_
    refine SL.iaT 1 hx6 ⟨rfl, rfl, rfl, rfl⟩ ty104 sz22 rfl rfl rfl fun g5 m5 cp5 hv5 => ?_
    refine SL.stTN (sz := 1) (enc := eU32) 1 hl1 (fun _ => rfl) ⟨rfl, rfl, rfl⟩ rfl rfl rfl rfl hv5 sz22 (by simp [Value.oneCell']) trivial ?_
    refine SL.nx ?_
    refine SX.sr ?_
    obtain ⟨x7, hx7, h⟩ := bnd h
    obtain ⟨x8, hx8, h⟩ := bnd h
    obtain ⟨l2, hl2, h⟩ := bnd h
    refine SL.mv ⟨rfl, rfl, rfl, rfl⟩ rfl ?_
    refine SL.mv ⟨rfl, rfl, rfl, rfl⟩ rfl ?_
    refine SL.iaAN (xs := y1) hx7 ⟨rfl, rfl, rfl, rfl⟩ ty129 sz22 rfl rfl hn1 ?_
    refine SL.ld ⟨rfl, rfl, rfl, rfl⟩ sc22 rfl (cell_own 0 rfl (arr_get (nthI_some hx7).2.2)) ?_
    refine SL.iaT 1 hx8 ⟨rfl, rfl, rfl, rfl⟩ ty104 sz22 rfl rfl rfl fun g6 m6 cp6 hv6 => ?_
    refine SL.stTN (sz := 1) (enc := eU32) 1 hl2 (fun _ => rfl) ⟨rfl, rfl, rfl⟩ rfl rfl rfl rfl hv6 sz22 (by simp [Value.oneCell']) trivial ?_
    refine SL.nx ?_
    refine SX.sr ?_
    obtain ⟨x9, hx9, h⟩ := bnd h
    obtain ⟨x10, hx10, h⟩ := bnd h
    obtain ⟨l3, hl3, h⟩ := bnd h
    refine SL.mv ⟨rfl, rfl, rfl, rfl⟩ rfl ?_
    refine SL.mv ⟨rfl, rfl, rfl, rfl⟩ rfl ?_
    refine SL.iaAN (xs := y1) hx9 ⟨rfl, rfl, rfl, rfl⟩ ty129 sz22 rfl rfl hn1 ?_
    refine SL.ld ⟨rfl, rfl, rfl, rfl⟩ sc22 rfl (cell_own 0 rfl (arr_get (nthI_some hx9).2.2)) ?_
    refine SL.iaT 1 hx10 ⟨rfl, rfl, rfl, rfl⟩ ty104 sz22 rfl rfl rfl fun g7 m7 cp7 hv7 => ?_
    refine SL.stTN (sz := 1) (enc := eU32) 1 hl3 (fun _ => rfl) ⟨rfl, rfl, rfl⟩ rfl rfl rfl rfl hv7 sz22 (by simp [Value.oneCell']) trivial ?_
    refine SL.nx ?_
    refine SX.region ?_
    obtain ⟨x11, hx11, h⟩ := bnd h
    obtain ⟨x12, hx12, h⟩ := bnd h
    obtain ⟨l4, hl4, h⟩ := bnd h
    refine SL.mv ⟨rfl, rfl, rfl, rfl⟩ rfl ?_
    refine SL.mv ⟨rfl, rfl, rfl, rfl⟩ rfl ?_
    refine SL.iaAN (xs := y1) hx11 ⟨rfl, rfl, rfl, rfl⟩ ty129 sz22 rfl rfl hn1 ?_
    refine SL.ld ⟨rfl, rfl, rfl, rfl⟩ sc22 rfl (cell_own 0 rfl (arr_get (nthI_some hx11).2.2)) ?_
    refine SL.iaT 1 hx12 ⟨rfl, rfl, rfl, rfl⟩ ty104 sz22 rfl rfl rfl fun g8 m8 cp8 hv8 => ?_
    refine SL.stTN (sz := 1) (enc := eU32) 1 hl4 (fun _ => rfl) ⟨rfl, rfl, rfl⟩ rfl rfl rfl rfl hv8 sz22 (by simp [Value.oneCell']) trivial ?_
    refine SL.nil ?_
    obtain rfl := Option.some.inj h
    exact SQ.fend (res0 rfl) (ret_of (M := [_]) ⟨rfl, rfl⟩ fun _ hw => HpOk.pick (H := [_, _]) hw [1] 2 rfl)

def f_ref01_Block_j2 (l4 : List UInt8) : Option (List UInt8 × Int) :=
  some (l4, 0)
def f_ref01_Block_l2_b (y1 : List UInt32) (l2 : List UInt32) (nx_f_ref01_Block_l2 : List UInt8 × Int → Option (List UInt8 × Int)) (l5 : List UInt8) (a2 : Int) : Option (List UInt8 × Int) :=
  cond (decide (a2 < 16))
  (
    (nthI l2 a2).bind fun x2 =>
    (nthI y1 a2).bind fun x3 =>
    ret (x2 + x3) fun x4 =>
    (appL 1 l5 [x4.toUInt8, (shr32 x4 8).toUInt8, (shr32 x4 16).toUInt8, (shr32 x4 24).toUInt8]).bind fun l6 =>
    ret (wI (a2 + 1)) fun x5 =>
    nx_f_ref01_Block_l2 (l6, x5))
  (
    f_ref01_Block_j2 l5)
def f_ref01_Block_l2 (y1 : List UInt32) (l2 : List UInt32) : Nat → (List UInt8 × Int) → Option (List UInt8 × Int) := loopN fun nx x => f_ref01_Block_l2_b y1 l2 nx x.1 x.2
def f_ref01_Block_j1 (n : Nat) (y1 : List UInt32) (l2 : List UInt32) : Option (List UInt8 × Int) :=
  f_ref01_Block_l2 y1 l2 n ([], 0)
def f_ref01_Block_l1_b (n : Nat) (y1 : List UInt32) (nx_f_ref01_Block_l1 : List UInt32 × Int → Option (List UInt8 × Int)) (l3 : List UInt32) (a1 : Int) : Option (List UInt8 × Int) :=
  cond (decide (a1 < 10))
  (
    (f_ref01_at l3 0 4 8 12).bind fun y2 =>
    (f_ref01_at y2 1 5 9 13).bind fun y3 =>
    (f_ref01_at y3 2 6 10 14).bind fun y4 =>
    (f_ref01_at y4 3 7 11 15).bind fun y5 =>
    (f_ref01_at y5 0 5 10 15).bind fun y6 =>
    (f_ref01_at y6 1 6 11 12).bind fun y7 =>
    (f_ref01_at y7 2 7 8 13).bind fun y8 =>
    (f_ref01_at y8 3 4 9 14).bind fun y9 =>
    ret (wI (a1 + 1)) fun x1 =>
    nx_f_ref01_Block_l1 (y9, x1))
  (
    f_ref01_Block_j1 n y1 l3)
def f_ref01_Block_l1 (n : Nat) (y1 : List UInt32) : Nat → (List UInt32 × Int) → Option (List UInt8 × Int) := loopN fun nx x => f_ref01_Block_l1_b n y1 nx x.1 x.2
def f_ref01_Block (n : Nat) (p0 : List UInt8) (p1 : UInt32) (p2 : List UInt8) : Option (List UInt8 × Int) :=
  cond ((!decide ((p0.length : Int) = 32)) || (!decide ((p2.length : Int) = 12)))
  (
    some ([], 2))
  (
    (f_ref01_State n p0 p1 p2).bind fun y1 =>
    (appL 4 [] y1).bind fun l1 =>
    f_ref01_Block_l1 n y1 n (l1, 0))
set_option maxRecDepth 100000 in
theorem c_ref01_Block {n : Nat} {p0 : List UInt8} {p1 : UInt32} {p2 : List UInt8} {r : List UInt8 × Int} (h : f_ref01_Block n p0 p1 p2 = some r)  : Con Tryd.prog K w0 57 [vS p0, vU32 p1, vS p2] [] H (fun u M => u = .tuple #[vS r.1, vI r.2] ∧ M = []) := by
  unfold f_ref01_Block at h
  refine Con.enter Tryd.func57 rfl rfl ?_
  refine SX.sr ?_
  refine SL.asg ⟨rfl, rfl, rfl, rfl⟩ rfl ?_
  refine SL.asg ⟨rfl, rfl, rfl, rfl⟩ rfl ?_
  refine SL.nx ?_
  refine SX.seq ?_
  refine SX.sr ?_
  refine SL.mv ⟨rfl, rfl, rfl, rfl⟩ rfl ?_
  refine SL.lenS ⟨rfl, rfl, rfl, rfl⟩ ty9 rfl ?_
  refine SL.bin ⟨rfl, rfl, rfl, rfl⟩ rfl rfl Bin.neI ?_
  refine SL.mv ⟨rfl, rfl, rfl, rfl⟩ rfl ?_
  refine SL.or (c := !decide ((p2.length : Int) = 12)) 17 4 21 rfl (fun hb k => ?_) (fun hb k => ?_) ?_
  · skip
    refine SL.pass rfl rfl rfl ?_
    refine SL.pass rfl rfl rfl ?_
    refine SL.pass rfl rfl rfl ?_
    refine SL.pk ⟨rfl, rfl, rfl, rfl⟩ rfl rfl ?_
    exact k.mono (by repeat' (first | exact trivial | refine And.intro rfl ?_))
  · skip
    refine SL.mv ⟨rfl, rfl, rfl, rfl⟩ rfl ?_
    refine SL.lenS ⟨rfl, rfl, rfl, rfl⟩ ty9 rfl ?_
    refine SL.bin ⟨rfl, rfl, rfl, rfl⟩ rfl rfl Bin.neI ?_
    refine SL.pk ⟨rfl, rfl, rfl, rfl⟩ rfl rfl ?_
    exact k.mono (by repeat' (first | exact trivial | refine And.intro rfl ?_))
  refine SL.nx ?_
  refine SX.cond rfl (fun hc1 => ?_) (fun hc1 => ?_)
  · skip
    replace h := cT hc1 h
    refine SX.sr ?_
    refine SL.asg ⟨rfl, rfl, rfl, rfl⟩ rfl ?_
    refine SL.asg ⟨rfl, rfl, rfl, rfl⟩ rfl ?_
    refine SL.nx ?_
    refine SX.ret ?_
    refine SQ.thnR ?_
    obtain rfl := Option.some.inj h
    exact SQ.fret (res2 rfl rfl rfl) (ret_of (M := []) ⟨rfl, rfl⟩ fun _ hw => HpOk.pick (H := []) hw [] 0 rfl)
  · skip
    replace h := cF hc1 h
    refine SX.skip ?_
    refine SQ.thn ?_
    refine SX.sr ?_
    obtain ⟨y1, hy1, h⟩ := bnd h
    refine SL.mv ⟨rfl, rfl, rfl, rfl⟩ rfl ?_
    refine SL.mv ⟨rfl, rfl, rfl, rfl⟩ rfl ?_
    refine SL.mv ⟨rfl, rfl, rfl, rfl⟩ rfl ?_
    refine SL.call (vs := [_, _, _]) (Hin := []) (Hr := _) ⟨rfl, rfl, rfl, rfl⟩ rfl ⟨rfl, rfl, rfl, trivial⟩ cal78 rfl rfl (c_ref01_State hy1) ?_
    rintro v1 _ ⟨_, rfl, rfl⟩
    refine ⟨trivial, ?_⟩
    refine SL.asg ⟨rfl, rfl, rfl, rfl⟩ rfl ?_
    refine SL.nx ?_
    refine SX.sr ?_
    obtain ⟨l1, hl1, h⟩ := bnd h
    refine SL.mkT (n := 16) eU32 ⟨rfl, rfl, rfl, rfl⟩ ty104 sz22 by22 ze22 rfl rfl rfl rfl rfl (fun _ => trivial) fun v2 => ?_
    refine SL.mv ⟨rfl, rfl, rfl, rfl⟩ rfl ?_
    refine SL.appR 0 1 hl1 (sz := 1) (enc := eU32) (fun _ => rfl) ⟨rfl, rfl, rfl, rfl⟩ ty104 sz22 by22 ze22 rfl (by decide) rfl rfl rfl rfl (by simp [eU32, Value.oneCell']) (fun _ => trivial) fun v3 => ?_
    refine SL.asg ⟨rfl, rfl, rfl, rfl⟩ rfl ?_
    refine SL.nx ?_
    refine SX.meetD (α := List UInt32 × Value) (fun x => f_ref01_Block_j1 n y1 x.1 = some r) (fun x => [(8, v1), (9, x.2)]) (fun x => rowT 22 1 v1 eU32 y1 :: rowT 22 1 x.2 eU32 x.1 :: H) ?_ (fun x D h => ?_)
    · skip
      refine SX.sr ?_
      refine SL.asg ⟨rfl, rfl, rfl, rfl⟩ rfl ?_
      refine SL.nx ?_
      refine SX.block ?_
      refine SX.heap (SX.mono (SX.loop (α := Nat × List UInt32 × Value × Int) (fun x => f_ref01_Block_l1 n y1 x.1 (x.2.1, x.2.2.2) = some r) (fun x => [(8, v1), (9, x.2.2.1), (10, vI x.2.2.2)]) (fun x => rowT 22 1 v1 eU32 y1 :: rowT 22 1 x.2.2.1 eU32 x.2.1 :: H) (fun x => x.1) (fun x D h => ?_) (n, l1, v3, 0) h) (by repeat' (first | exact trivial | refine And.intro rfl ?_))) (fun _ hw => HpOk.pick (H := [_, _]) hw [1, 0] 2 rfl)
      obtain ⟨m1, l3, v5, a1⟩ := x
      dsimp only at h
      rcases m1 with _ | m1
      · cases (show (none : Option _) = some r from h)
      replace h : f_ref01_Block_l1_b n y1 (f_ref01_Block_l1 n y1 m1) l3 a1 = some r := h
      unfold f_ref01_Block_l1_b at h
      refine SX.re [(8, v1), (9, v5), (10, vI a1)] (rowT 22 1 v1 eU32 y1 :: rowT 22 1 v5 eU32 l3 :: H) ?_ (by repeat' (first | exact trivial | refine And.intro rfl ?_))
      refine SX.seq ?_
      refine SX.sr ?_
      refine SL.mv ⟨rfl, rfl, rfl, rfl⟩ rfl ?_
      refine SL.bin ⟨rfl, rfl, rfl, rfl⟩ rfl rfl Bin.ltI ?_
      refine SL.nx ?_
      refine SX.cond rfl (fun hc2 => ?_) (fun hc2 => ?_)
      · skip
        replace h := cT hc2 h
        refine SX.skip ?_
        refine SQ.thn ?_
        refine SX.seq ?_
        refine SX.block ?_
        refine SX.sr ?_
        obtain ⟨y2, hy2, h⟩ := bnd h
        refine SL.mv ⟨rfl, rfl, rfl, rfl⟩ rfl ?_
        refine SL.pick [1, 0] 2 ?_
        refine SL.call (vs := [_, _, _, _, _]) (Hin := [_]) (Hr := _ :: _) ⟨rfl, rfl, rfl, rfl⟩ rfl ⟨rfl, rfl, rfl, rfl, rfl, trivial⟩ cal79 rfl rfl (c_ref01_at hy2) ?_
        rintro _ _ ⟨rfl, rfl⟩
        refine ⟨trivial, ?_⟩
        refine SL.nx ?_
        refine SX.sr ?_
        obtain ⟨y3, hy3, h⟩ := bnd h
        refine SL.mv ⟨rfl, rfl, rfl, rfl⟩ rfl ?_
        refine SL.call (vs := [_, _, _, _, _]) (Hin := [_]) (Hr := _ :: _) ⟨rfl, rfl, rfl, rfl⟩ rfl ⟨rfl, rfl, rfl, rfl, rfl, trivial⟩ cal79 rfl rfl (c_ref01_at hy3) ?_
        rintro _ _ ⟨rfl, rfl⟩
        refine ⟨trivial, ?_⟩
        refine SL.nx ?_
        refine SX.sr ?_
        obtain ⟨y4, hy4, h⟩ := bnd h
        refine SL.mv ⟨rfl, rfl, rfl, rfl⟩ rfl ?_
        refine SL.call (vs := [_, _, _, _, _]) (Hin := [_]) (Hr := _ :: _) ⟨rfl, rfl, rfl, rfl⟩ rfl ⟨rfl, rfl, rfl, rfl, rfl, trivial⟩ cal79 rfl rfl (c_ref01_at hy4) ?_
        rintro _ _ ⟨rfl, rfl⟩
        refine ⟨trivial, ?_⟩
        refine SL.nx ?_
        refine SX.sr ?_
        obtain ⟨y5, hy5, h⟩ := bnd h
        refine SL.mv ⟨rfl, rfl, rfl, rfl⟩ rfl ?_
        refine SL.call (vs := [_, _, _, _, _]) (Hin := [_]) (Hr := _ :: _) ⟨rfl, rfl, rfl, rfl⟩ rfl ⟨rfl, rfl, rfl, rfl, rfl, trivial⟩ cal79 rfl rfl (c_ref01_at hy5) ?_
        rintro _ _ ⟨rfl, rfl⟩
        refine ⟨trivial, ?_⟩
        refine SL.nx ?_
        refine SX.sr ?_
        obtain ⟨y6, hy6, h⟩ := bnd h
        refine SL.mv ⟨rfl, rfl, rfl, rfl⟩ rfl ?_
        refine SL.call (vs := [_, _, _, _, _]) (Hin := [_]) (Hr := _ :: _) ⟨rfl, rfl, rfl, rfl⟩ rfl ⟨rfl, rfl, rfl, rfl, rfl, trivial⟩ cal79 rfl rfl (c_ref01_at hy6) ?_
        rintro _ _ ⟨rfl, rfl⟩
        refine ⟨trivial, ?_⟩
        refine SL.nx ?_
        refine SX.sr ?_
        obtain ⟨y7, hy7, h⟩ := bnd h
        refine SL.mv ⟨rfl, rfl, rfl, rfl⟩ rfl ?_
        refine SL.call (vs := [_, _, _, _, _]) (Hin := [_]) (Hr := _ :: _) ⟨rfl, rfl, rfl, rfl⟩ rfl ⟨rfl, rfl, rfl, rfl, rfl, trivial⟩ cal79 rfl rfl (c_ref01_at hy7) ?_
        rintro _ _ ⟨rfl, rfl⟩
        refine ⟨trivial, ?_⟩
        refine SL.nx ?_
        refine SX.sr ?_
        obtain ⟨y8, hy8, h⟩ := bnd h
        refine SL.mv ⟨rfl, rfl, rfl, rfl⟩ rfl ?_
        refine SL.call (vs := [_, _, _, _, _]) (Hin := [_]) (Hr := _ :: _) ⟨rfl, rfl, rfl, rfl⟩ rfl ⟨rfl, rfl, rfl, rfl, rfl, trivial⟩ cal79 rfl rfl (c_ref01_at hy8) ?_
        rintro _ _ ⟨rfl, rfl⟩
        refine ⟨trivial, ?_⟩
        refine SL.nx ?_
        refine SX.region ?_
        obtain ⟨y9, hy9, h⟩ := bnd h
        refine SL.mv ⟨rfl, rfl, rfl, rfl⟩ rfl ?_
        refine SL.call (vs := [_, _, _, _, _]) (Hin := [_]) (Hr := _ :: _) ⟨rfl, rfl, rfl, rfl⟩ rfl ⟨rfl, rfl, rfl, rfl, rfl, trivial⟩ cal79 rfl rfl (c_ref01_at hy9) ?_
        rintro _ _ ⟨rfl, rfl⟩
        refine ⟨trivial, ?_⟩
        refine SL.nil ?_
        refine SQ.blk ?_
        refine SQ.thn ?_
        refine SX.region ?_
        obtain ⟨x1, ex1, h⟩ := retE h
        refine SL.mv ⟨rfl, rfl, rfl, rfl⟩ rfl ?_
        refine SL.bin ⟨rfl, rfl, rfl, rfl⟩ rfl rfl Bin.addW ?_
        refine SL.asgX (u := vI x1) ⟨rfl, rfl, rfl, rfl⟩ rfl (by rw [ex1]) ?_
        refine SL.nil ?_
        exact SQ.again (m1, y9, v5, x1) h (Nat.lt_succ_self _) (by repeat' (first | exact trivial | refine And.intro rfl ?_)) (fun _ hw => HpOk.pick (H := [_, _]) hw [1, 0] 2 rfl)
      · skip
        replace h := cF hc2 h
        refine SX.exit ?_
        refine SQ.thnE ?_
        refine SQ.lpE ?_
        refine SQ.blkE ?_
        exact SQ.midD (l3, v5) h (by repeat' (first | exact trivial | refine And.intro rfl ?_)) (fun _ hw => HpOk.pick (H := [_, _]) hw [0, 1] 2 rfl)
    · skip
      obtain ⟨l2, v4⟩ := x
      dsimp only at h
      unfold f_ref01_Block_j1 at h
      refine SX.re [(8, v1), (9, v4)] (rowT 22 1 v1 eU32 y1 :: rowT 22 1 v4 eU32 l2 :: H) ?_ (by repeat' (first | exact trivial | refine And.intro rfl ?_))
      refine SX.sr ?_
      refine SL.nilT 5 1 eU8 ?_
      refine SL.asg ⟨rfl, rfl, rfl, rfl⟩ rfl ?_
      refine SL.nx ?_
      refine SX.meetD (α := List UInt8 × Value) (fun x => f_ref01_Block_j2 x.1 = some r) (fun x => [(11, x.2)]) (fun x => rowT 5 1 x.2 eU8 x.1 :: H) ?_ (fun x D h => ?_)
      · skip
        refine SX.sr ?_
        refine SL.asg ⟨rfl, rfl, rfl, rfl⟩ rfl ?_
        refine SL.nx ?_
        refine SX.block ?_
        refine SX.heap (SX.mono (SX.loop (α := Nat × List UInt8 × Value × Int) (fun x => f_ref01_Block_l2 y1 l2 x.1 (x.2.1, x.2.2.2) = some r) (fun x => [(8, v1), (9, v4), (11, x.2.2.1), (12, vI x.2.2.2)]) (fun x => rowT 22 1 v1 eU32 y1 :: rowT 22 1 v4 eU32 l2 :: rowT 5 1 x.2.2.1 eU8 x.2.1 :: H) (fun x => x.1) (fun x D h => ?_) (n, [], .slice none 0 0, 0) h) (by repeat' (first | exact trivial | refine And.intro rfl ?_))) (fun _ hw => HpOk.pick (H := [_, _, _]) hw [1, 2, 0] 3 rfl)
        obtain ⟨m2, l5, v7, a2⟩ := x
        dsimp only at h
        rcases m2 with _ | m2
        · cases (show (none : Option _) = some r from h)
        replace h : f_ref01_Block_l2_b y1 l2 (f_ref01_Block_l2 y1 l2 m2) l5 a2 = some r := h
        unfold f_ref01_Block_l2_b at h
        refine SX.re [(8, v1), (9, v4), (11, v7), (12, vI a2)] (rowT 22 1 v1 eU32 y1 :: rowT 22 1 v4 eU32 l2 :: rowT 5 1 v7 eU8 l5 :: H) ?_ (by repeat' (first | exact trivial | refine And.intro rfl ?_))
        refine SX.seq ?_
        refine SX.sr ?_
        refine SL.mv ⟨rfl, rfl, rfl, rfl⟩ rfl ?_
        refine SL.bin ⟨rfl, rfl, rfl, rfl⟩ rfl rfl Bin.ltI ?_
        refine SL.nx ?_
        refine SX.cond rfl (fun hc3 => ?_) (fun hc3 => ?_)
        · skip
          replace h := cT hc3 h
          refine SX.skip ?_
          refine SQ.thn ?_
          refine SX.seq ?_
          refine SX.block ?_
          refine SX.seq ?_
          obtain ⟨x2, hx2, h⟩ := bnd h
          obtain ⟨x3, hx3, h⟩ := bnd h
          obtain ⟨x4, ex4, h⟩ := retE h
          refine SX.drawI mix [0, 1] (Pl.of [(true, 0), (true, 1), (true, 2), (true, 3), (true, 4), (true, 5), (true, 6), (true, 7), (true, 8), (true, 9)]) (by kernel_rfl) ?_
          refine SL.mv ⟨rfl, rfl, rfl, rfl⟩ rfl ?_
          refine SL.mv ⟨rfl, rfl, rfl, rfl⟩ rfl ?_
          refine SL.iaT 1 hx2 ⟨rfl, rfl, rfl, rfl⟩ ty104 sz22 rfl rfl rfl fun g1 m3 cp1 hv1 => ?_
          refine SL.ld ⟨rfl, rfl, rfl, rfl⟩ sc22 rfl (cell_rowT (sz := 1) (enc := eU32) 1 0 (fun _ => rfl) rfl hv1 hx2 rfl) ?_
          refine SL.mv ⟨rfl, rfl, rfl, rfl⟩ rfl ?_
          refine SL.mv ⟨rfl, rfl, rfl, rfl⟩ rfl ?_
          refine SL.iaT 0 hx3 ⟨rfl, rfl, rfl, rfl⟩ ty104 sz22 rfl rfl rfl fun g2 m4 cp2 hv2 => ?_
          refine SL.ld ⟨rfl, rfl, rfl, rfl⟩ sc22 rfl (cell_rowT (sz := 1) (enc := eU32) 0 0 (fun _ => rfl) rfl hv2 hx3 rfl) ?_
          refine SL.bin ⟨rfl, rfl, rfl, rfl⟩ rfl rfl Bin.add32 ?_
          refine SL.asgX (u := vU32 x4) ⟨rfl, rfl, rfl, rfl⟩ rfl (by rw [ex4]) ?_
          refine SL.nx ?_
          refine SX.region ?_
          obtain ⟨l6, hl6, h⟩ := bnd h
          refine SL.mv ⟨rfl, rfl, rfl, rfl⟩ rfl ?_
          refine SL.mv ⟨rfl, rfl, rfl, rfl⟩ rfl ?_
          refine SL.cv ⟨rfl, rfl, rfl, rfl⟩ rfl (Cv.u32_8 ty22 ty5) ?_
          refine SL.mv ⟨rfl, rfl, rfl, rfl⟩ rfl ?_
          refine SL.bin ⟨rfl, rfl, rfl, rfl⟩ rfl rfl (Bin.shr32 (n := 8)) ?_
          refine SL.cv ⟨rfl, rfl, rfl, rfl⟩ rfl (Cv.u32_8 ty22 ty5) ?_
          refine SL.mv ⟨rfl, rfl, rfl, rfl⟩ rfl ?_
          refine SL.bin ⟨rfl, rfl, rfl, rfl⟩ rfl rfl (Bin.shr32 (n := 16)) ?_
          refine SL.cv ⟨rfl, rfl, rfl, rfl⟩ rfl (Cv.u32_8 ty22 ty5) ?_
          refine SL.mv ⟨rfl, rfl, rfl, rfl⟩ rfl ?_
          refine SL.bin ⟨rfl, rfl, rfl, rfl⟩ rfl rfl (Bin.shr32 (n := 24)) ?_
          refine SL.cv ⟨rfl, rfl, rfl, rfl⟩ rfl (Cv.u32_8 ty22 ty5) ?_
          refine SL.bsl [_, _, _, _] ⟨rfl, rfl, rfl, rfl⟩ ty41 sz5 ze5 ⟨rfl, rfl, rfl, rfl, trivial⟩ rfl rfl rfl (by simp [Value.cells]) rfl rfl (fun _ => trivial) fun b1 => ?_
          refine SL.ownT eU8 1 ([x4.toUInt8, (shr32 x4 8).toUInt8, (shr32 x4 16).toUInt8, (shr32 x4 24).toUInt8] : List UInt8) rfl (fun _ => rfl) rfl ?_
          refine SL.appT 3 hl6 (sz := 1) (enc := eU8) (fun _ => rfl) ⟨rfl, rfl, rfl, rfl⟩ ty41 sz5 by5 ze5 rfl (by decide) rfl rfl rfl rfl (cells_rowA (sz := 1) (enc := eU8) 0 (fun _ => rfl) rfl) (by simp [eU8, Value.oneCell']) (fun _ => trivial) fun v8 => ?_
          refine SL.asg ⟨rfl, rfl, rfl, rfl⟩ rfl ?_
          refine SL.nil ?_
          refine SQ.blk ?_
          refine SQ.thn ?_
          refine SX.region ?_
          obtain ⟨x5, ex5, h⟩ := retE h
          refine SL.mv ⟨rfl, rfl, rfl, rfl⟩ rfl ?_
          refine SL.bin ⟨rfl, rfl, rfl, rfl⟩ rfl rfl Bin.addW ?_
          refine SL.asgX (u := vI x5) ⟨rfl, rfl, rfl, rfl⟩ rfl (by rw [ex5]) ?_
          refine SL.nil ?_
          exact SQ.again (m2, l6, v8, x5) h (Nat.lt_succ_self _) (by repeat' (first | exact trivial | refine And.intro rfl ?_)) (fun _ hw => HpOk.pick (H := [_, _, _, _]) hw [1, 2, 3] 4 rfl)
        · skip
          replace h := cF hc3 h
          refine SX.exit ?_
          refine SQ.thnE ?_
          refine SQ.lpE ?_
          refine SQ.blkE ?_
          exact SQ.midD (l5, v7) h (by repeat' (first | exact trivial | refine And.intro rfl ?_)) (fun _ hw => HpOk.pick (H := [_, _, _]) hw [2] 3 rfl)
      · skip
        obtain ⟨l4, v6⟩ := x
        dsimp only at h
        unfold f_ref01_Block_j2 at h
        refine SX.re [(11, v6)] (rowT 5 1 v6 eU8 l4 :: H) ?_ (by repeat' (first | exact trivial | refine And.intro rfl ?_))
        refine SX.sr ?_
        refine SL.mv ⟨rfl, rfl, rfl, rfl⟩ rfl ?_
        refine SL.btsT 0 ⟨rfl, rfl, rfl, rfl⟩ ty41 ty5 ty9 rfl rfl ?_
        refine SL.asg ⟨rfl, rfl, rfl, rfl⟩ rfl ?_
        refine SL.asg ⟨rfl, rfl, rfl, rfl⟩ rfl ?_
        refine SL.nx ?_
        refine SX.ret ?_
        obtain rfl := Option.some.inj h
        exact SQ.fret (res2 rfl rfl rfl) (ret_of (M := []) ⟨rfl, rfl⟩ fun _ hw => HpOk.pick (H := [_]) hw [] 1 rfl)

def f_ref01_Xor_j1 (l1 : List UInt8) : Option (List UInt8 × Int) :=
  some (l1, 0)
def f_ref01_Xor_j2 (p2 : List UInt8) (l2 : List UInt8) (a2 : Int) (nx_f_ref01_Xor_l1 : List UInt8 × List UInt8 × Int → Option (List UInt8 × Int)) (a3 : List UInt8) : Option (List UInt8 × Int) :=
  (nthI p2 a2).bind fun c1 =>
  (remI a2 64).bind fun q3 =>
  (nthI a3 q3).bind fun c2 =>
  (appL 1 l2 [c1 ^^^ c2]).bind fun l3 =>
  ret (wI (a2 + 1)) fun i_1 =>
  nx_f_ref01_Xor_l1 (l3, a3, i_1)
def f_ref01_Xor_l1_b (n : Nat) (p0 : List UInt8) (p1 : List UInt8) (p2 : List UInt8) (nx_f_ref01_Xor_l1 : List UInt8 × List UInt8 × Int → Option (List UInt8 × Int)) (l2 : List UInt8) (a1 : List UInt8) (a2 : Int) : Option (List UInt8 × Int) :=
  cond (decide (a2 < (p2.length : Int)))
  (
    (remI a2 64).bind fun q1 =>
    cond (decide (q1 = 0))
    (
      (quoI a2 64).bind fun q2 =>
      (f_ref01_Block n p0 (toU32 q2) p1).bind fun y1 =>
      f_ref01_Xor_j2 p2 l2 a2 nx_f_ref01_Xor_l1 y1.1)
    (
      f_ref01_Xor_j2 p2 l2 a2 nx_f_ref01_Xor_l1 a1))
  (
    f_ref01_Xor_j1 l2)
def f_ref01_Xor_l1 (n : Nat) (p0 : List UInt8) (p1 : List UInt8) (p2 : List UInt8) : Nat → (List UInt8 × List UInt8 × Int) → Option (List UInt8 × Int) := loopN fun nx x => f_ref01_Xor_l1_b n p0 p1 p2 nx x.1 x.2.1 x.2.2
def f_ref01_Xor (n : Nat) (p0 : List UInt8) (p1 : List UInt8) (p2 : List UInt8) : Option (List UInt8 × Int) :=
  cond (((!decide ((p0.length : Int) = 32)) || (!decide ((p1.length : Int) = 12))) || (decide (1048576 < (p2.length : Int))))
  (
    some ([], 2))
  (
    f_ref01_Xor_l1 n p0 p1 p2 n ([], [], 0))
set_option maxRecDepth 100000 in
theorem c_ref01_Xor {n : Nat} {p0 : List UInt8} {p1 : List UInt8} {p2 : List UInt8} {r : List UInt8 × Int} (h : f_ref01_Xor n p0 p1 p2 = some r)  : Con Tryd.prog K w0 42 [vS p0, vS p1, vS p2] [] H (fun u M => u = .tuple #[vS r.1, vI r.2] ∧ M = []) := by
  unfold f_ref01_Xor at h
  refine Con.enter Tryd.func42 rfl rfl ?_
  refine SX.sr ?_
  refine SL.asg ⟨rfl, rfl, rfl, rfl⟩ rfl ?_
  refine SL.asg ⟨rfl, rfl, rfl, rfl⟩ rfl ?_
  refine SL.nx ?_
  refine SX.seq ?_
  refine SX.sr ?_
  refine SL.mv ⟨rfl, rfl, rfl, rfl⟩ rfl ?_
  refine SL.lenS ⟨rfl, rfl, rfl, rfl⟩ ty9 rfl ?_
  refine SL.bin ⟨rfl, rfl, rfl, rfl⟩ rfl rfl Bin.neI ?_
  refine SL.mv ⟨rfl, rfl, rfl, rfl⟩ rfl ?_
  refine SL.or (c := !decide ((p1.length : Int) = 12)) 16 4 20 rfl (fun hb k => ?_) (fun hb k => ?_) ?_
  · skip
    refine SL.pass rfl rfl rfl ?_
    refine SL.pass rfl rfl rfl ?_
    refine SL.pass rfl rfl rfl ?_
    refine SL.pk ⟨rfl, rfl, rfl, rfl⟩ rfl rfl ?_
    exact k.mono (by repeat' (first | exact trivial | refine And.intro rfl ?_))
  · skip
    refine SL.mv ⟨rfl, rfl, rfl, rfl⟩ rfl ?_
    refine SL.lenS ⟨rfl, rfl, rfl, rfl⟩ ty9 rfl ?_
    refine SL.bin ⟨rfl, rfl, rfl, rfl⟩ rfl rfl Bin.neI ?_
    refine SL.pk ⟨rfl, rfl, rfl, rfl⟩ rfl rfl ?_
    exact k.mono (by repeat' (first | exact trivial | refine And.intro rfl ?_))
  refine SL.mv ⟨rfl, rfl, rfl, rfl⟩ rfl ?_
  refine SL.or (c := decide (1048576 < (p2.length : Int))) 21 4 25 rfl (fun hb k => ?_) (fun hb k => ?_) ?_
  · skip
    refine SL.pass rfl rfl rfl ?_
    refine SL.pass rfl rfl rfl ?_
    refine SL.pass rfl rfl rfl ?_
    refine SL.pk ⟨rfl, rfl, rfl, rfl⟩ rfl rfl ?_
    exact k.mono (by repeat' (first | exact trivial | refine And.intro rfl ?_))
  · skip
    refine SL.mv ⟨rfl, rfl, rfl, rfl⟩ rfl ?_
    refine SL.lenS ⟨rfl, rfl, rfl, rfl⟩ ty9 rfl ?_
    refine SL.bin ⟨rfl, rfl, rfl, rfl⟩ rfl rfl Bin.gtI ?_
    refine SL.pk ⟨rfl, rfl, rfl, rfl⟩ rfl rfl ?_
    exact k.mono (by repeat' (first | exact trivial | refine And.intro rfl ?_))
  refine SL.nx ?_
  refine SX.cond rfl (fun hc1 => ?_) (fun hc1 => ?_)
  · skip
    replace h := cT hc1 h
    refine SX.sr ?_
    refine SL.asg ⟨rfl, rfl, rfl, rfl⟩ rfl ?_
    refine SL.asg ⟨rfl, rfl, rfl, rfl⟩ rfl ?_
    refine SL.nx ?_
    refine SX.ret ?_
    refine SQ.thnR ?_
    obtain rfl := Option.some.inj h
    exact SQ.fret (res2 rfl rfl rfl) (ret_of (M := []) ⟨rfl, rfl⟩ fun _ hw => HpOk.pick (H := []) hw [] 0 rfl)
  · skip
    replace h := cF hc1 h
    refine SX.skip ?_
    refine SQ.thn ?_
    refine SX.sr ?_
    refine SL.nilT 5 1 eU8 ?_
    refine SL.asg ⟨rfl, rfl, rfl, rfl⟩ rfl ?_
    refine SL.nx ?_
    refine SX.sr ?_
    refine SL.asg ⟨rfl, rfl, rfl, rfl⟩ rfl ?_
    refine SL.nx ?_
    refine SX.meetD (α := List UInt8 × Value) (fun x => f_ref01_Xor_j1 x.1 = some r) (fun x => [(8, x.2)]) (fun x => rowT 5 1 x.2 eU8 x.1 :: H) ?_ (fun x D h => ?_)
    · skip
      refine SX.sr ?_
      refine SL.asg ⟨rfl, rfl, rfl, rfl⟩ rfl ?_
      refine SL.nx ?_
      refine SX.block ?_
      refine SX.heap (SX.mono (SX.loop (α := Nat × List UInt8 × Value × List UInt8 × Int) (fun x => f_ref01_Xor_l1 n p0 p1 p2 x.1 (x.2.1, x.2.2.2.1, x.2.2.2.2) = some r) (fun x => [(0, vS p0), (1, vS p1), (2, vS p2), (8, x.2.2.1), (9, vS x.2.2.2.1), (10, vI x.2.2.2.2)]) (fun x => rowT 5 1 x.2.2.1 eU8 x.2.1 :: H) (fun x => x.1) (fun x D h => ?_) (n, [], .slice none 0 0, [], 0) h) (by repeat' (first | exact trivial | refine And.intro rfl ?_))) (fun _ hw => HpOk.pick (H := [_]) hw [0] 1 rfl)
      obtain ⟨m1, l2, v2, a1, a2⟩ := x
      dsimp only at h
      rcases m1 with _ | m1
      · cases (show (none : Option _) = some r from h)
      replace h : f_ref01_Xor_l1_b n p0 p1 p2 (f_ref01_Xor_l1 n p0 p1 p2 m1) l2 a1 a2 = some r := h
      unfold f_ref01_Xor_l1_b at h
      refine SX.re [(0, vS p0), (1, vS p1), (2, vS p2), (8, v2), (9, vS a1), (10, vI a2)] (rowT 5 1 v2 eU8 l2 :: H) ?_ (by repeat' (first | exact trivial | refine And.intro rfl ?_))
      refine SX.seq ?_
      refine SX.sr ?_
      refine SL.mv ⟨rfl, rfl, rfl, rfl⟩ rfl ?_
      refine SL.mv ⟨rfl, rfl, rfl, rfl⟩ rfl ?_
      refine SL.lenS ⟨rfl, rfl, rfl, rfl⟩ ty9 rfl ?_
      refine SL.bin ⟨rfl, rfl, rfl, rfl⟩ rfl rfl Bin.ltI ?_
      refine SL.nx ?_
      refine SX.cond rfl (fun hc2 => ?_) (fun hc2 => ?_)
      · skip
        replace h := cT hc2 h
        refine SX.skip ?_
        refine SQ.thn ?_
        refine SX.seq ?_
        refine SX.block ?_
        refine SX.meetD (α := List UInt8) (fun x => f_ref01_Xor_j2 p2 l2 a2 (f_ref01_Xor_l1 n p0 p1 p2 m1) x = some r) (fun x => [(0, vS p0), (1, vS p1), (2, vS p2), (8, v2), (9, vS x), (10, vI a2)]) (fun x => rowT 5 1 v2 eU8 l2 :: H) ?_ (fun a3 D h => ?_)
        · skip
          refine SX.sr ?_
          obtain ⟨q1, hq1, h⟩ := bnd h
          refine SL.mv ⟨rfl, rfl, rfl, rfl⟩ rfl ?_
          refine SL.bin ⟨rfl, rfl, rfl, rfl⟩ rfl rfl (Bin.modO hq1) ?_
          refine SL.bin ⟨rfl, rfl, rfl, rfl⟩ rfl rfl Bin.eqI ?_
          refine SL.nx ?_
          refine SX.cond rfl (fun hc3 => ?_) (fun hc3 => ?_)
          · skip
            replace h := cT hc3 h
            refine SX.sr ?_
            obtain ⟨q2, hq2, h⟩ := bnd h
            obtain ⟨y1, hy1, h⟩ := bnd h
            refine SL.mv ⟨rfl, rfl, rfl, rfl⟩ rfl ?_
            refine SL.mv ⟨rfl, rfl, rfl, rfl⟩ rfl ?_
            refine SL.bin ⟨rfl, rfl, rfl, rfl⟩ rfl rfl (Bin.divO hq2) ?_
            refine SL.cv ⟨rfl, rfl, rfl, rfl⟩ rfl (Cv.i_32 ty3 ty22) ?_
            refine SL.mv ⟨rfl, rfl, rfl, rfl⟩ rfl ?_
            refine SL.call (vs := [_, _, _]) (Hin := []) (Hr := _ :: _) ⟨rfl, rfl, rfl, rfl⟩ rfl ⟨rfl, rfl, rfl, trivial⟩ cal57 rfl rfl (c_ref01_Block hy1) ?_
            rintro _ _ ⟨rfl, rfl⟩
            refine ⟨trivial, ?_⟩
            refine SL.mv ⟨rfl, rfl, rfl, rfl⟩ rfl ?_
            refine SL.ext ⟨rfl, rfl, rfl, rfl⟩ rfl rfl ?_
            refine SL.ext ⟨rfl, rfl, rfl, rfl⟩ rfl rfl ?_
            refine SL.asg ⟨rfl, rfl, rfl, rfl⟩ rfl ?_
            refine SL.asg ⟨rfl, rfl, rfl, rfl⟩ rfl ?_
            refine SL.nx ?_
            refine SX.region ?_
            refine SL.mv ⟨rfl, rfl, rfl, rfl⟩ rfl ?_
            refine SL.asg ⟨rfl, rfl, rfl, rfl⟩ rfl ?_
            refine SL.nil ?_
            exact SQ.midD y1.1 h (by repeat' (first | exact trivial | refine And.intro rfl ?_)) (fun _ hw => HpOk.pick (H := [_]) hw [0] 1 rfl)
          · skip
            replace h := cF hc3 h
            refine SX.skip ?_
            exact SQ.midD a1 h (by repeat' (first | exact trivial | refine And.intro rfl ?_)) (fun _ hw => HpOk.pick (H := [_]) hw [0] 1 rfl)
        · skip
          unfold f_ref01_Xor_j2 at h
          refine SX.re [(0, vS p0), (1, vS p1), (2, vS p2), (8, v2), (9, vS a3), (10, vI a2)] (rowT 5 1 v2 eU8 l2 :: H) ?_ (by repeat' (first | exact trivial | refine And.intro rfl ?_))
          obtain ⟨c1, hc1, h⟩ := bnd h
          obtain ⟨q3, hq3, h⟩ := bnd h
          obtain ⟨c2, hc2, h⟩ := bnd h
          obtain ⟨l3, hl3, h⟩ := bnd h
          refine SX.drawI mix [] (Pl.ap [(true, 0), (true, 1), (true, 2), (true, 3), (true, 4), (true, 5), (true, 6), (true, 7), (true, 8), (false, 9)] (.last 10 (Pl.of [(false, 11)]))) (by kernel_rfl) ?_
          refine SL.mv ⟨rfl, rfl, rfl, rfl⟩ rfl ?_
          refine SL.mv ⟨rfl, rfl, rfl, rfl⟩ rfl ?_
          refine SL.mv ⟨rfl, rfl, rfl, rfl⟩ rfl ?_
          refine SL.ixN hc1 ⟨rfl, rfl, rfl, rfl⟩ ty9 rfl rfl ?_
          refine SL.mv ⟨rfl, rfl, rfl, rfl⟩ rfl ?_
          refine SL.mv ⟨rfl, rfl, rfl, rfl⟩ rfl ?_
          refine SL.bin ⟨rfl, rfl, rfl, rfl⟩ rfl rfl (Bin.modO hq3) ?_
          refine SL.ixN hc2 ⟨rfl, rfl, rfl, rfl⟩ ty9 rfl rfl ?_
          refine SL.bin ⟨rfl, rfl, rfl, rfl⟩ rfl rfl Bin.xor8 ?_
          refine SL.bsl [_] ⟨rfl, rfl, rfl, rfl⟩ ty41 sz5 ze5 ⟨rfl, trivial⟩ rfl rfl rfl (by simp [Value.cells]) rfl rfl (fun _ => trivial) fun b1 => ?_
          refine SL.ownT eU8 1 ([c1 ^^^ c2] : List UInt8) rfl (fun _ => rfl) rfl ?_
          refine SL.last ?_
          refine SL.appT 1 hl3 (sz := 1) (enc := eU8) (fun _ => rfl) ⟨rfl, rfl, rfl, rfl⟩ ty41 sz5 by5 ze5 rfl (by decide) rfl rfl rfl rfl (cells_rowA (sz := 1) (enc := eU8) 0 (fun _ => rfl) rfl) (by simp [eU8, Value.oneCell']) (fun _ => trivial) fun v3 => ?_
          refine SL.asg ⟨rfl, rfl, rfl, rfl⟩ rfl ?_
          refine SL.nil ?_
          refine SQ.blk ?_
          refine SQ.thn ?_
          refine SX.region ?_
          obtain ⟨i_1, ei_1, h⟩ := retE h
          refine SL.mv ⟨rfl, rfl, rfl, rfl⟩ rfl ?_
          refine SL.bin ⟨rfl, rfl, rfl, rfl⟩ rfl rfl Bin.addW ?_
          refine SL.asgX (u := vI i_1) ⟨rfl, rfl, rfl, rfl⟩ rfl (by rw [ei_1]) ?_
          refine SL.nil ?_
          exact SQ.again (m1, l3, v3, a3, i_1) h (Nat.lt_succ_self _) (by repeat' (first | exact trivial | refine And.intro rfl ?_)) (fun _ hw => HpOk.pick (H := [_, _]) hw [1] 2 rfl)
      · skip
        replace h := cF hc2 h
        refine SX.exit ?_
        refine SQ.thnE ?_
        refine SQ.lpE ?_
        refine SQ.blkE ?_
        exact SQ.midD (l2, v2) h (by repeat' (first | exact trivial | refine And.intro rfl ?_)) (fun _ hw => HpOk.pick (H := [_]) hw [0] 1 rfl)
    · skip
      obtain ⟨l1, v1⟩ := x
      dsimp only at h
      unfold f_ref01_Xor_j1 at h
      refine SX.re [(8, v1)] (rowT 5 1 v1 eU8 l1 :: H) ?_ (by repeat' (first | exact trivial | refine And.intro rfl ?_))
      refine SX.sr ?_
      refine SL.mv ⟨rfl, rfl, rfl, rfl⟩ rfl ?_
      refine SL.btsT 0 ⟨rfl, rfl, rfl, rfl⟩ ty41 ty5 ty9 rfl rfl ?_
      refine SL.asg ⟨rfl, rfl, rfl, rfl⟩ rfl ?_
      refine SL.asg ⟨rfl, rfl, rfl, rfl⟩ rfl ?_
      refine SL.nx ?_
      refine SX.ret ?_
      obtain rfl := Option.some.inj h
      exact SQ.fret (res2 rfl rfl rfl) (ret_of (M := []) ⟨rfl, rfl⟩ fun _ hw => HpOk.pick (H := [_]) hw [] 1 rfl)


end Go.Proofs.YtnpnmdbleopikaaDoor

/- Plain functions of the references and the laws, printed from the loaded program, and the walks that show that the program computes them. Condition: the plain function yields. -/
namespace Go.Proofs.YtnpnmdbleopikaaDoor
open Go
variable {K : Nat → Prop} {w0 : World} {H : List Chunk}

def f_ref02_turned (p0 : UInt32) (p1 : Int) : Option UInt32 :=
  (shN p1).bind fun n1 =>
  (shN (wI (32 - p1))).bind fun n2 =>
  ret ((shr32 p0 n1) ||| (shl32 p0 n2)) fun x1 =>
  some x1
set_option maxRecDepth 100000 in
theorem c_ref02_turned {p0 : UInt32} {p1 : Int} {r : UInt32} (h : f_ref02_turned p0 p1 = some r)  : Con Tryd.prog K w0 91 [vU32 p0, vI p1] [] H (fun u M => u = vU32 r ∧ M = []) := by
  unfold f_ref02_turned at h
  refine Con.enter Tryd.func91 rfl rfl ?_
  refine SX.sr ?_
  refine SL.asg ⟨rfl, rfl, rfl, rfl⟩ rfl ?_
  refine SL.nx ?_
  refine SX.seq ?_
  obtain ⟨n1, hn1, h⟩ := bnd h
  obtain ⟨n2, hn2, h⟩ := bnd h
  obtain ⟨x1, ex1, h⟩ := retE h
  refine SX.drawI mix [] (Pl.of [(true, 0), (true, 1), (true, 2), (true, 3), (true, 4), (true, 5), (true, 6), (true, 7), (true, 8)]) (by kernel_rfl) ?_
  refine SL.mv ⟨rfl, rfl, rfl, rfl⟩ rfl ?_
  refine SL.mv ⟨rfl, rfl, rfl, rfl⟩ rfl ?_
  refine SL.bin ⟨rfl, rfl, rfl, rfl⟩ rfl rfl (Bin.shr32O hn1) ?_
  refine SL.mv ⟨rfl, rfl, rfl, rfl⟩ rfl ?_
  refine SL.mv ⟨rfl, rfl, rfl, rfl⟩ rfl ?_
  refine SL.bin ⟨rfl, rfl, rfl, rfl⟩ rfl rfl Bin.subW ?_
  refine SL.bin ⟨rfl, rfl, rfl, rfl⟩ rfl rfl (Bin.shl32O hn2) ?_
  refine SL.bin ⟨rfl, rfl, rfl, rfl⟩ rfl rfl Bin.or32 ?_
  refine SL.asgX (u := vU32 x1) ⟨rfl, rfl, rfl, rfl⟩ rfl (by rw [ex1]) ?_
  refine SL.nx ?_
  refine SX.ret ?_
  obtain rfl := Option.some.inj h
  exact SQ.fret (res1 rfl rfl) (ret_of (M := []) ⟨rfl, rfl⟩ fun _ hw => HpOk.pick (H := []) hw [] 0 rfl)

def f_ref02_first : Option (List UInt32) :=
  some [1779033703, 3144134277, 1013904242, 2773480762, 1359893119, 2600822924, 528734635, 1541459225]
set_option maxRecDepth 100000 in
theorem c_ref02_first  {r : List UInt32} (h : f_ref02_first = some r)  : Con Tryd.prog K w0 74 [] [] H (fun u M => ∃ v0 : Value, u = v0 ∧ M = [rowT 22 1 v0 eU32 r]) := by
  unfold f_ref02_first at h
  refine Con.enter Tryd.func74 rfl rfl ?_
  refine SX.sr ?_
  refine SL.nilT 22 1 eU32 ?_
  refine SL.asg ⟨rfl, rfl, rfl, rfl⟩ rfl ?_
  refine SL.nx ?_
  refine SX.sr ?_
  refine SL.bsl [_, _, _, _, _, _, _, _] ⟨rfl, rfl, rfl, rfl⟩ ty104 sz22 ze22 ⟨rfl, rfl, rfl, rfl, rfl, rfl, rfl, rfl, trivial⟩ rfl rfl rfl (by simp [Value.cells]) rfl rfl (fun _ => trivial) fun b1 => ?_
  refine SL.ownT eU32 1 ([1779033703, 3144134277, 1013904242, 2773480762, 1359893119, 2600822924, 528734635, 1541459225] : List UInt32) rfl (fun _ => rfl) rfl ?_
  refine SL.asg ⟨rfl, rfl, rfl, rfl⟩ rfl ?_
  refine SL.nx ?_
  refine SX.ret ?_
  obtain rfl := Option.some.inj h
  exact SQ.fret (res1 rfl rfl) (ret_of (M := [_]) ⟨(.slice (some ⟨b1, 0, none⟩) 8 8), rfl, rfl⟩ fun _ hw => HpOk.pick (H := [_, _]) hw [0] 2 rfl)

def f_ref02_part_j4 (l9 : List UInt32) : Option (List UInt32) :=
  some l9
def f_ref02_part_l3_b (p0 : List UInt32) (nx_f_ref02_part_l3 : List UInt32 × Int → Option (List UInt32)) (l10 : List UInt32) (a3 : Int) : Option (List UInt32) :=
  cond (decide (a3 < 8))
  (
    (nthI l10 a3).bind fun x27 =>
    (nthI p0 a3).bind fun x28 =>
    (nthI l10 a3).bind fun x29 =>
    (setI l10 a3 (x27 + x28)).bind fun l11 =>
    ret (wI (a3 + 1)) fun x30 =>
    nx_f_ref02_part_l3 (l11, x30))
  (
    f_ref02_part_j4 l10)
def f_ref02_part_l3 (p0 : List UInt32) : Nat → (List UInt32 × Int) → Option (List UInt32) := loopN fun nx x => f_ref02_part_l3_b p0 nx x.1 x.2
def f_ref02_part_j3 (n : Nat) (p0 : List UInt32) (l7 : List UInt32) : Option (List UInt32) :=
  f_ref02_part_l3 p0 n (l7, 0)
def f_ref02_part_l2_b (n : Nat) (T : List UInt32) (p0 : List UInt32) (l1 : List UInt32) (nx_f_ref02_part_l2 : List UInt32 × Int → Option (List UInt32)) (l8 : List UInt32) (a2 : Int) : Option (List UInt32) :=
  cond (decide (a2 < 64))
  (
    (nthI l8 0).bind fun x6 =>
    (nthI l8 4).bind fun x7 =>
    (nthI l8 7).bind fun x8 =>
    (f_ref02_turned x7 6).bind fun y5 =>
    (f_ref02_turned x7 11).bind fun y6 =>
    (f_ref02_turned x7 25).bind fun y7 =>
    (nthI l8 5).bind fun x9 =>
    (nthI l8 6).bind fun x10 =>
    (nthI T a2).bind fun x11 =>
    (nthI l1 a2).bind fun x12 =>
    ret ((((x8 + ((y5 ^^^ y6) ^^^ y7)) + ((x7 &&& x9) ^^^ ((4294967295 ^^^ x7) &&& x10))) + x11) + x12) fun x13 =>
    (f_ref02_turned x6 2).bind fun y8 =>
    (f_ref02_turned x6 13).bind fun y9 =>
    (f_ref02_turned x6 22).bind fun y10 =>
    (nthI l8 1).bind fun x14 =>
    (nthI l8 2).bind fun x15 =>
    (nthI l8 1).bind fun x16 =>
    (nthI l8 2).bind fun x17 =>
    ret (((y8 ^^^ y9) ^^^ y10) + (((x6 &&& x14) ^^^ (x6 &&& x15)) ^^^ (x16 &&& x17))) fun x18 =>
    (nthI l8 0).bind fun x19 =>
    (nthI l8 1).bind fun x20 =>
    (nthI l8 2).bind fun x21 =>
    (nthI l8 3).bind fun x22 =>
    (nthI l8 4).bind fun x23 =>
    (nthI l8 5).bind fun x24 =>
    (nthI l8 6).bind fun x25 =>
    ret (wI (a2 + 1)) fun x26 =>
    nx_f_ref02_part_l2 ([x13 + x18, x19, x20, x21, x22 + x13, x23, x24, x25], x26))
  (
    f_ref02_part_j3 n p0 l8)
def f_ref02_part_l2 (n : Nat) (T : List UInt32) (p0 : List UInt32) (l1 : List UInt32) : Nat → (List UInt32 × Int) → Option (List UInt32) := loopN fun nx x => f_ref02_part_l2_b n T p0 l1 nx x.1 x.2
def f_ref02_part_j1 (n : Nat) (T : List UInt32) (p0 : List UInt32) (l1 : List UInt32) : Option (List UInt32) :=
  (appL 4 [] p0).bind fun l6 =>
  f_ref02_part_l2 n T p0 l1 n (l6, 0)
def f_ref02_part_j2 (a1 : Int) (nx_f_ref02_part_l1 : List UInt32 × Int → Option (List UInt32)) (l3 : List UInt32) : Option (List UInt32) :=
  ret (wI (a1 + 1)) fun x5 =>
  nx_f_ref02_part_l1 (l3, x5)
def f_ref02_part_l1_b (n : Nat) (T : List UInt32) (p0 : List UInt32) (p1 : List UInt8) (nx_f_ref02_part_l1 : List UInt32 × Int → Option (List UInt32)) (l2 : List UInt32) (a1 : Int) : Option (List UInt32) :=
  cond (decide (a1 < 64))
  (
    cond (decide (a1 < 16))
    (
      (nthI p1 (wI (4 * a1))).bind fun c1 =>
      (nthI p1 (wI ((wI (4 * a1)) + 1))).bind fun c2 =>
      (nthI p1 (wI ((wI (4 * a1)) + 2))).bind fun c3 =>
      (nthI p1 (wI ((wI (4 * a1)) + 3))).bind fun c4 =>
      (appL 4 l2 [(((shl32 c1.toUInt32 24) ||| (shl32 c2.toUInt32 16)) ||| (shl32 c3.toUInt32 8)) ||| c4.toUInt32]).bind fun l4 =>
      f_ref02_part_j2 a1 nx_f_ref02_part_l1 l4)
    (
      (nthI l2 (wI (a1 - 15))).bind fun x1 =>
      (nthI l2 (wI (a1 - 2))).bind fun x2 =>
      (nthI l2 (wI (a1 - 16))).bind fun x3 =>
      (f_ref02_turned x1 7).bind fun y1 =>
      (f_ref02_turned x1 18).bind fun y2 =>
      (nthI l2 (wI (a1 - 7))).bind fun x4 =>
      (f_ref02_turned x2 17).bind fun y3 =>
      (f_ref02_turned x2 19).bind fun y4 =>
      (appL 4 l2 [((x3 + ((y1 ^^^ y2) ^^^ (shr32 x1 3))) + x4) + ((y3 ^^^ y4) ^^^ (shr32 x2 10))]).bind fun l5 =>
      f_ref02_part_j2 a1 nx_f_ref02_part_l1 l5))
  (
    f_ref02_part_j1 n T p0 l2)
def f_ref02_part_l1 (n : Nat) (T : List UInt32) (p0 : List UInt32) (p1 : List UInt8) : Nat → (List UInt32 × Int) → Option (List UInt32) := loopN fun nx x => f_ref02_part_l1_b n T p0 p1 nx x.1 x.2
def f_ref02_part (n : Nat) (T : List UInt32) (p0 : List UInt32) (p1 : List UInt8) : Option (List UInt32) :=
  f_ref02_part_l1 n T p0 p1 n ([], 0)
set_option maxRecDepth 100000 in
theorem c_ref02_part {n : Nat} {T : List UInt32} {v0_ : Value} {p0 : List UInt32} {p1 : List UInt8} {r : List UInt32} (h : f_ref02_part n T p0 p1 = some r) (hT : TabN K w0 1 64 T) (hs0_ : SlOf K w0 eU32 1 v0_ p0) : Con Tryd.prog K w0 75 [v0_, vS p1] [] H (fun u M => ∃ v0 : Value, u = v0 ∧ M = [rowT 22 1 v0 eU32 r]) := by
  unfold f_ref02_part at h
  refine Con.enter Tryd.func75 rfl rfl ?_
  refine SX.sr ?_
  refine SL.nilT 22 1 eU32 ?_
  refine SL.asg ⟨rfl, rfl, rfl, rfl⟩ rfl ?_
  refine SL.nx ?_
  refine SX.sr ?_
  refine SL.nilT 22 1 eU32 ?_
  refine SL.asg ⟨rfl, rfl, rfl, rfl⟩ rfl ?_
  refine SL.nx ?_
  refine SX.meetD (α := List UInt32 × Value) (fun x => f_ref02_part_j1 n T p0 x.1 = some r) (fun x => [(0, v0_), (5, x.2)]) (fun x => rowT 22 1 x.2 eU32 x.1 :: H) ?_ (fun x D h => ?_)
  · skip
    refine SX.sr ?_
    refine SL.asg ⟨rfl, rfl, rfl, rfl⟩ rfl ?_
    refine SL.nx ?_
    refine SX.block ?_
    refine SX.heap (SX.mono (SX.loop (α := Nat × List UInt32 × Value × Int) (fun x => f_ref02_part_l1 n T p0 p1 x.1 (x.2.1, x.2.2.2) = some r) (fun x => [(0, v0_), (1, vS p1), (5, x.2.2.1), (6, vI x.2.2.2)]) (fun x => rowT 22 1 x.2.2.1 eU32 x.2.1 :: H) (fun x => x.1) (fun x D h => ?_) (n, [], .slice none 0 0, 0) h) (by repeat' (first | exact trivial | refine And.intro rfl ?_))) (fun _ hw => HpOk.pick (H := [_, _]) hw [0] 2 rfl)
    obtain ⟨m1, l2, v2, a1⟩ := x
    dsimp only at h
    rcases m1 with _ | m1
    · cases (show (none : Option _) = some r from h)
    replace h : f_ref02_part_l1_b n T p0 p1 (f_ref02_part_l1 n T p0 p1 m1) l2 a1 = some r := h
    unfold f_ref02_part_l1_b at h
    refine SX.re [(0, v0_), (1, vS p1), (5, v2), (6, vI a1)] (rowT 22 1 v2 eU32 l2 :: H) ?_ (by repeat' (first | exact trivial | refine And.intro rfl ?_))
    refine SX.seq ?_
    refine SX.sr ?_
    refine SL.mv ⟨rfl, rfl, rfl, rfl⟩ rfl ?_
    refine SL.bin ⟨rfl, rfl, rfl, rfl⟩ rfl rfl Bin.ltI ?_
    refine SL.nx ?_
    refine SX.cond rfl (fun hc1 => ?_) (fun hc1 => ?_)
    · skip
      replace h := cT hc1 h
      refine SX.skip ?_
      refine SQ.thn ?_
      refine SX.meetD (α := List UInt32 × Value) (fun x => f_ref02_part_j2 a1 (f_ref02_part_l1 n T p0 p1 m1) x.1 = some r) (fun x => [(0, v0_), (1, vS p1), (5, x.2), (6, vI a1)]) (fun x => rowT 22 1 x.2 eU32 x.1 :: H) ?_ (fun x D h => ?_)
      · skip
        refine SX.block ?_
        refine SX.seq ?_
        refine SX.sr ?_
        refine SL.mv ⟨rfl, rfl, rfl, rfl⟩ rfl ?_
        refine SL.bin ⟨rfl, rfl, rfl, rfl⟩ rfl rfl Bin.ltI ?_
        refine SL.nx ?_
        refine SX.cond rfl (fun hc2 => ?_) (fun hc2 => ?_)
        · skip
          replace h := cT hc2 h
          refine SX.seq ?_
          obtain ⟨c1, hc1, h⟩ := bnd h
          obtain ⟨c2, hc2, h⟩ := bnd h
          obtain ⟨c3, hc3, h⟩ := bnd h
          obtain ⟨c4, hc4, h⟩ := bnd h
          obtain ⟨l4, hl4, h⟩ := bnd h
          refine SX.drawI mix [] (Pl.ap [(true, 0), (true, 1), (true, 2), (true, 3), (true, 4), (true, 5), (true, 6), (true, 7), (true, 8), (true, 9), (true, 10), (true, 11), (true, 12), (true, 13), (true, 14), (true, 15), (true, 16), (true, 17), (true, 18), (true, 19), (true, 20), (true, 21), (true, 22), (true, 23), (true, 24), (true, 25), (true, 26), (true, 27), (true, 28), (true, 29), (false, 30)] (.last 31 (Pl.of [(false, 32)]))) (by kernel_rfl) ?_
          refine SL.mv ⟨rfl, rfl, rfl, rfl⟩ rfl ?_
          refine SL.mv ⟨rfl, rfl, rfl, rfl⟩ rfl ?_
          refine SL.mv ⟨rfl, rfl, rfl, rfl⟩ rfl ?_
          refine SL.bin ⟨rfl, rfl, rfl, rfl⟩ rfl rfl Bin.mulW ?_
          refine SL.ixN hc1 ⟨rfl, rfl, rfl, rfl⟩ ty9 rfl rfl ?_
          refine SL.cv ⟨rfl, rfl, rfl, rfl⟩ rfl (Cv.u8_32 ty5 ty22) ?_
          refine SL.bin ⟨rfl, rfl, rfl, rfl⟩ rfl rfl (Bin.shl32 (n := 24)) ?_
          refine SL.mv ⟨rfl, rfl, rfl, rfl⟩ rfl ?_
          refine SL.mv ⟨rfl, rfl, rfl, rfl⟩ rfl ?_
          refine SL.bin ⟨rfl, rfl, rfl, rfl⟩ rfl rfl Bin.mulW ?_
          refine SL.bin ⟨rfl, rfl, rfl, rfl⟩ rfl rfl Bin.addW ?_
          refine SL.ixN hc2 ⟨rfl, rfl, rfl, rfl⟩ ty9 rfl rfl ?_
          refine SL.cv ⟨rfl, rfl, rfl, rfl⟩ rfl (Cv.u8_32 ty5 ty22) ?_
          refine SL.bin ⟨rfl, rfl, rfl, rfl⟩ rfl rfl (Bin.shl32 (n := 16)) ?_
          refine SL.bin ⟨rfl, rfl, rfl, rfl⟩ rfl rfl Bin.or32 ?_
          refine SL.mv ⟨rfl, rfl, rfl, rfl⟩ rfl ?_
          refine SL.mv ⟨rfl, rfl, rfl, rfl⟩ rfl ?_
          refine SL.bin ⟨rfl, rfl, rfl, rfl⟩ rfl rfl Bin.mulW ?_
          refine SL.bin ⟨rfl, rfl, rfl, rfl⟩ rfl rfl Bin.addW ?_
          refine SL.ixN hc3 ⟨rfl, rfl, rfl, rfl⟩ ty9 rfl rfl ?_
          refine SL.cv ⟨rfl, rfl, rfl, rfl⟩ rfl (Cv.u8_32 ty5 ty22) ?_
          refine SL.bin ⟨rfl, rfl, rfl, rfl⟩ rfl rfl (Bin.shl32 (n := 8)) ?_
          refine SL.bin ⟨rfl, rfl, rfl, rfl⟩ rfl rfl Bin.or32 ?_
          refine SL.mv ⟨rfl, rfl, rfl, rfl⟩ rfl ?_
          refine SL.mv ⟨rfl, rfl, rfl, rfl⟩ rfl ?_
          refine SL.bin ⟨rfl, rfl, rfl, rfl⟩ rfl rfl Bin.mulW ?_
          refine SL.bin ⟨rfl, rfl, rfl, rfl⟩ rfl rfl Bin.addW ?_
          refine SL.ixN hc4 ⟨rfl, rfl, rfl, rfl⟩ ty9 rfl rfl ?_
          refine SL.cv ⟨rfl, rfl, rfl, rfl⟩ rfl (Cv.u8_32 ty5 ty22) ?_
          refine SL.bin ⟨rfl, rfl, rfl, rfl⟩ rfl rfl Bin.or32 ?_
          refine SL.bsl [_] ⟨rfl, rfl, rfl, rfl⟩ ty104 sz22 ze22 ⟨rfl, trivial⟩ rfl rfl rfl (by simp [Value.cells]) rfl rfl (fun _ => trivial) fun b1 => ?_
          refine SL.ownT eU32 1 ([(((shl32 c1.toUInt32 24) ||| (shl32 c2.toUInt32 16)) ||| (shl32 c3.toUInt32 8)) ||| c4.toUInt32] : List UInt32) rfl (fun _ => rfl) rfl ?_
          refine SL.last ?_
          refine SL.appT 1 hl4 (sz := 1) (enc := eU32) (fun _ => rfl) ⟨rfl, rfl, rfl, rfl⟩ ty104 sz22 by22 ze22 rfl (by decide) rfl rfl rfl rfl (cells_rowA (sz := 1) (enc := eU32) 0 (fun _ => rfl) rfl) (by simp [eU32, Value.oneCell']) (fun _ => trivial) fun v4 => ?_
          refine SL.asg ⟨rfl, rfl, rfl, rfl⟩ rfl ?_
          refine SL.nx ?_
          refine SX.exit ?_
          refine SQ.thnE ?_
          refine SQ.blkE ?_
          exact SQ.midD (l4, v4) h (by repeat' (first | exact trivial | refine And.intro rfl ?_)) (fun _ hw => HpOk.pick (H := [_, _]) hw [1] 2 rfl)
        · skip
          replace h := cF hc2 h
          refine SX.skip ?_
          refine SQ.thn ?_
          refine SX.sr ?_
          obtain ⟨x1, hx1, h⟩ := bnd h
          refine SL.mv ⟨rfl, rfl, rfl, rfl⟩ rfl ?_
          refine SL.mv ⟨rfl, rfl, rfl, rfl⟩ rfl ?_
          refine SL.bin ⟨rfl, rfl, rfl, rfl⟩ rfl rfl Bin.subW ?_
          refine SL.iaT 0 hx1 ⟨rfl, rfl, rfl, rfl⟩ ty104 sz22 rfl rfl rfl fun g1 m2 cp1 hv1 => ?_
          refine SL.ld ⟨rfl, rfl, rfl, rfl⟩ sc22 rfl (cell_rowT (sz := 1) (enc := eU32) 0 0 (fun _ => rfl) rfl hv1 hx1 rfl) ?_
          refine SL.asg ⟨rfl, rfl, rfl, rfl⟩ rfl ?_
          refine SL.nx ?_
          refine SX.sr ?_
          obtain ⟨x2, hx2, h⟩ := bnd h
          refine SL.mv ⟨rfl, rfl, rfl, rfl⟩ rfl ?_
          refine SL.mv ⟨rfl, rfl, rfl, rfl⟩ rfl ?_
          refine SL.bin ⟨rfl, rfl, rfl, rfl⟩ rfl rfl Bin.subW ?_
          refine SL.iaT 0 hx2 ⟨rfl, rfl, rfl, rfl⟩ ty104 sz22 rfl rfl rfl fun g2 m3 cp2 hv2 => ?_
          refine SL.ld ⟨rfl, rfl, rfl, rfl⟩ sc22 rfl (cell_rowT (sz := 1) (enc := eU32) 0 0 (fun _ => rfl) rfl hv2 hx2 rfl) ?_
          refine SL.asg ⟨rfl, rfl, rfl, rfl⟩ rfl ?_
          refine SL.nx ?_
          obtain ⟨x3, hx3, h⟩ := bnd h
          obtain ⟨y1, hy1, h⟩ := bnd h
          obtain ⟨y2, hy2, h⟩ := bnd h
          obtain ⟨x4, hx4, h⟩ := bnd h
          obtain ⟨y3, hy3, h⟩ := bnd h
          obtain ⟨y4, hy4, h⟩ := bnd h
          obtain ⟨l5, hl5, h⟩ := bnd h
          refine SX.drawI mix [0] (Pl.ap [(true, 0), (true, 1), (true, 2), (true, 3), (true, 4), (true, 5), (true, 6), (true, 8), (true, 11), (true, 12), (true, 15), (true, 16), (true, 17), (true, 18), (true, 19), (true, 21), (true, 23), (true, 26), (true, 27), (false, 7), (false, 9), (true, 10), (true, 13), (true, 14), (true, 20), (false, 22), (false, 24), (true, 25), (true, 28), (true, 29), (false, 30)] (.last 31 (Pl.of [(false, 32)]))) (by kernel_rfl) ?_
          refine SL.mv ⟨rfl, rfl, rfl, rfl⟩ rfl ?_
          refine SL.mv ⟨rfl, rfl, rfl, rfl⟩ rfl ?_
          refine SL.mv ⟨rfl, rfl, rfl, rfl⟩ rfl ?_
          refine SL.bin ⟨rfl, rfl, rfl, rfl⟩ rfl rfl Bin.subW ?_
          refine SL.iaT 0 hx3 ⟨rfl, rfl, rfl, rfl⟩ ty104 sz22 rfl rfl rfl fun g3 m4 cp3 hv3 => ?_
          refine SL.ld ⟨rfl, rfl, rfl, rfl⟩ sc22 rfl (cell_rowT (sz := 1) (enc := eU32) 0 0 (fun _ => rfl) rfl hv3 hx3 rfl) ?_
          refine SL.mv ⟨rfl, rfl, rfl, rfl⟩ rfl ?_
          refine SL.mv ⟨rfl, rfl, rfl, rfl⟩ rfl ?_
          refine SL.mv ⟨rfl, rfl, rfl, rfl⟩ rfl ?_
          refine SL.bin ⟨rfl, rfl, rfl, rfl⟩ rfl rfl (Bin.shr32 (n := 3)) ?_
          refine SL.mv ⟨rfl, rfl, rfl, rfl⟩ rfl ?_
          refine SL.mv ⟨rfl, rfl, rfl, rfl⟩ rfl ?_
          refine SL.bin ⟨rfl, rfl, rfl, rfl⟩ rfl rfl Bin.subW ?_
          refine SL.iaT 0 hx4 ⟨rfl, rfl, rfl, rfl⟩ ty104 sz22 rfl rfl rfl fun g4 m5 cp4 hv4 => ?_
          refine SL.ld ⟨rfl, rfl, rfl, rfl⟩ sc22 rfl (cell_rowT (sz := 1) (enc := eU32) 0 0 (fun _ => rfl) rfl hv4 hx4 rfl) ?_
          refine SL.mv ⟨rfl, rfl, rfl, rfl⟩ rfl ?_
          refine SL.mv ⟨rfl, rfl, rfl, rfl⟩ rfl ?_
          refine SL.mv ⟨rfl, rfl, rfl, rfl⟩ rfl ?_
          refine SL.bin ⟨rfl, rfl, rfl, rfl⟩ rfl rfl (Bin.shr32 (n := 10)) ?_
          refine SL.call (vs := [_, _]) (Hin := []) (Hr := _ :: _) ⟨rfl, rfl, rfl, rfl⟩ rfl ⟨rfl, rfl, trivial⟩ cal91 rfl rfl (c_ref02_turned hy1) ?_
          rintro _ _ ⟨rfl, rfl⟩
          refine ⟨⟨⟨0, rfl⟩, trivial⟩, ?_⟩
          refine SL.call (vs := [_, _]) (Hin := []) (Hr := _ :: _) ⟨rfl, rfl, rfl, rfl⟩ rfl ⟨rfl, rfl, trivial⟩ cal91 rfl rfl (c_ref02_turned hy2) ?_
          rintro _ _ ⟨rfl, rfl⟩
          refine ⟨⟨⟨0, rfl⟩, trivial⟩, ?_⟩
          refine SL.bin ⟨rfl, rfl, rfl, rfl⟩ rfl rfl Bin.xor32 ?_
          refine SL.bin ⟨rfl, rfl, rfl, rfl⟩ rfl rfl Bin.xor32 ?_
          refine SL.bin ⟨rfl, rfl, rfl, rfl⟩ rfl rfl Bin.add32 ?_
          refine SL.bin ⟨rfl, rfl, rfl, rfl⟩ rfl rfl Bin.add32 ?_
          refine SL.call (vs := [_, _]) (Hin := []) (Hr := _ :: _) ⟨rfl, rfl, rfl, rfl⟩ rfl ⟨rfl, rfl, trivial⟩ cal91 rfl rfl (c_ref02_turned hy3) ?_
          rintro _ _ ⟨rfl, rfl⟩
          refine ⟨⟨⟨0, rfl⟩, trivial⟩, ?_⟩
          refine SL.call (vs := [_, _]) (Hin := []) (Hr := _ :: _) ⟨rfl, rfl, rfl, rfl⟩ rfl ⟨rfl, rfl, trivial⟩ cal91 rfl rfl (c_ref02_turned hy4) ?_
          rintro _ _ ⟨rfl, rfl⟩
          refine ⟨⟨⟨0, rfl⟩, trivial⟩, ?_⟩
          refine SL.bin ⟨rfl, rfl, rfl, rfl⟩ rfl rfl Bin.xor32 ?_
          refine SL.bin ⟨rfl, rfl, rfl, rfl⟩ rfl rfl Bin.xor32 ?_
          refine SL.bin ⟨rfl, rfl, rfl, rfl⟩ rfl rfl Bin.add32 ?_
          refine SL.bsl [_] ⟨rfl, rfl, rfl, rfl⟩ ty104 sz22 ze22 ⟨rfl, trivial⟩ rfl rfl rfl (by simp [Value.cells]) rfl rfl (fun _ => ⟨⟨1, rfl⟩, trivial⟩) fun b2 => ?_
          refine SL.ownT eU32 1 ([((x3 + ((y1 ^^^ y2) ^^^ (shr32 x1 3))) + x4) + ((y3 ^^^ y4) ^^^ (shr32 x2 10))] : List UInt32) rfl (fun _ => rfl) rfl ?_
          refine SL.last ?_
          refine SL.appT 1 hl5 (sz := 1) (enc := eU32) (fun _ => rfl) ⟨rfl, rfl, rfl, rfl⟩ ty104 sz22 by22 ze22 rfl (by decide) rfl rfl rfl rfl (cells_rowA (sz := 1) (enc := eU32) 0 (fun _ => rfl) rfl) (by simp [eU32, Value.oneCell']) (fun _ => trivial) fun v5 => ?_
          refine SL.asg ⟨rfl, rfl, rfl, rfl⟩ rfl ?_
          refine SL.nil ?_
          refine SQ.blk ?_
          exact SQ.midD (l5, v5) h (by repeat' (first | exact trivial | refine And.intro rfl ?_)) (fun _ hw => HpOk.pick (H := [_, _]) hw [1] 2 rfl)
      · skip
        obtain ⟨l3, v3⟩ := x
        dsimp only at h
        unfold f_ref02_part_j2 at h
        refine SX.re [(0, v0_), (1, vS p1), (5, v3), (6, vI a1)] (rowT 22 1 v3 eU32 l3 :: H) ?_ (by repeat' (first | exact trivial | refine And.intro rfl ?_))
        refine SX.region ?_
        obtain ⟨x5, ex5, h⟩ := retE h
        refine SL.mv ⟨rfl, rfl, rfl, rfl⟩ rfl ?_
        refine SL.bin ⟨rfl, rfl, rfl, rfl⟩ rfl rfl Bin.addW ?_
        refine SL.asgX (u := vI x5) ⟨rfl, rfl, rfl, rfl⟩ rfl (by rw [ex5]) ?_
        refine SL.nil ?_
        exact SQ.again (m1, l3, v3, x5) h (Nat.lt_succ_self _) (by repeat' (first | exact trivial | refine And.intro rfl ?_)) (fun _ hw => HpOk.pick (H := [_]) hw [0] 1 rfl)
    · skip
      replace h := cF hc1 h
      refine SX.exit ?_
      refine SQ.thnE ?_
      refine SQ.lpE ?_
      refine SQ.blkE ?_
      exact SQ.midD (l2, v2) h (by repeat' (first | exact trivial | refine And.intro rfl ?_)) (fun _ hw => HpOk.pick (H := [_]) hw [0] 1 rfl)
  · skip
    obtain ⟨l1, v1⟩ := x
    dsimp only at h
    unfold f_ref02_part_j1 at h
    refine SX.re [(0, v0_), (5, v1)] (rowT 22 1 v1 eU32 l1 :: H) ?_ (by repeat' (first | exact trivial | refine And.intro rfl ?_))
    refine SX.sr ?_
    obtain ⟨l6, hl6, h⟩ := bnd h
    refine SL.mkT (n := 8) eU32 ⟨rfl, rfl, rfl, rfl⟩ ty104 sz22 by22 ze22 rfl rfl rfl rfl rfl (fun _ => trivial) fun v6 => ?_
    refine SL.mv ⟨rfl, rfl, rfl, rfl⟩ rfl ?_
    refine SL.appV 0 hl6 hs0_ (sz := 1) (enc := eU32) (fun _ => rfl) ⟨rfl, rfl, rfl, rfl⟩ ty104 sz22 by22 ze22 rfl (by decide) rfl rfl rfl (by simp [eU32, Value.oneCell']) (fun _ => trivial) fun v7 => ?_
    refine SL.asg ⟨rfl, rfl, rfl, rfl⟩ rfl ?_
    refine SL.nx ?_
    refine SX.meetD (α := List UInt32 × Value) (fun x => f_ref02_part_j3 n p0 x.1 = some r) (fun x => [(0, v0_), (9, x.2)]) (fun x => rowT 22 1 x.2 eU32 x.1 :: H) ?_ (fun x D h => ?_)
    · skip
      refine SX.sr ?_
      refine SL.asg ⟨rfl, rfl, rfl, rfl⟩ rfl ?_
      refine SL.nx ?_
      refine SX.block ?_
      refine SX.heap (SX.mono (SX.loop (α := Nat × List UInt32 × Value × Int) (fun x => f_ref02_part_l2 n T p0 l1 x.1 (x.2.1, x.2.2.2) = some r) (fun x => [(0, v0_), (5, v1), (9, x.2.2.1), (10, vI x.2.2.2)]) (fun x => rowT 22 1 v1 eU32 l1 :: rowT 22 1 x.2.2.1 eU32 x.2.1 :: H) (fun x => x.1) (fun x D h => ?_) (n, l6, v7, 0) h) (by repeat' (first | exact trivial | refine And.intro rfl ?_))) (fun _ hw => HpOk.pick (H := [_, _]) hw [1, 0] 2 rfl)
      obtain ⟨m6, l8, v9, a2⟩ := x
      dsimp only at h
      rcases m6 with _ | m6
      · cases (show (none : Option _) = some r from h)
      replace h : f_ref02_part_l2_b n T p0 l1 (f_ref02_part_l2 n T p0 l1 m6) l8 a2 = some r := h
      unfold f_ref02_part_l2_b at h
      refine SX.re [(0, v0_), (5, v1), (9, v9), (10, vI a2)] (rowT 22 1 v1 eU32 l1 :: rowT 22 1 v9 eU32 l8 :: H) ?_ (by repeat' (first | exact trivial | refine And.intro rfl ?_))
      refine SX.seq ?_
      refine SX.sr ?_
      refine SL.mv ⟨rfl, rfl, rfl, rfl⟩ rfl ?_
      refine SL.bin ⟨rfl, rfl, rfl, rfl⟩ rfl rfl Bin.ltI ?_
      refine SL.nx ?_
      refine SX.cond rfl (fun hc3 => ?_) (fun hc3 => ?_)
      · skip
        replace h := cT hc3 h
        refine SX.skip ?_
        refine SQ.thn ?_
        refine SX.seq ?_
        refine SX.block ?_
        refine SX.sr ?_
        obtain ⟨x6, hx6, h⟩ := bnd h
        refine SL.mv ⟨rfl, rfl, rfl, rfl⟩ rfl ?_
        refine SL.iaT 1 hx6 ⟨rfl, rfl, rfl, rfl⟩ ty104 sz22 rfl rfl rfl fun g5 m7 cp5 hv5 => ?_
        refine SL.ld ⟨rfl, rfl, rfl, rfl⟩ sc22 rfl (cell_rowT (sz := 1) (enc := eU32) 1 0 (fun _ => rfl) rfl hv5 hx6 rfl) ?_
        refine SL.asg ⟨rfl, rfl, rfl, rfl⟩ rfl ?_
        refine SL.nx ?_
        refine SX.sr ?_
        obtain ⟨x7, hx7, h⟩ := bnd h
        refine SL.mv ⟨rfl, rfl, rfl, rfl⟩ rfl ?_
        refine SL.iaT 1 hx7 ⟨rfl, rfl, rfl, rfl⟩ ty104 sz22 rfl rfl rfl fun g6 m8 cp6 hv6 => ?_
        refine SL.ld ⟨rfl, rfl, rfl, rfl⟩ sc22 rfl (cell_rowT (sz := 1) (enc := eU32) 1 0 (fun _ => rfl) rfl hv6 hx7 rfl) ?_
        refine SL.asg ⟨rfl, rfl, rfl, rfl⟩ rfl ?_
        refine SL.nx ?_
        refine SX.seq ?_
        obtain ⟨x8, hx8, h⟩ := bnd h
        obtain ⟨y5, hy5, h⟩ := bnd h
        obtain ⟨y6, hy6, h⟩ := bnd h
        obtain ⟨y7, hy7, h⟩ := bnd h
        obtain ⟨x9, hx9, h⟩ := bnd h
        obtain ⟨x10, hx10, h⟩ := bnd h
        obtain ⟨x11, hx11, h⟩ := bnd h
        obtain ⟨x12, hx12, h⟩ := bnd h
        obtain ⟨x13, ex13, h⟩ := retE h
        refine SX.drawI mix [0, 1] (Pl.ap [(true, 0), (true, 1), (true, 2), (true, 3), (true, 5), (true, 8), (true, 12), (true, 13), (true, 14), (true, 15), (true, 16), (true, 17), (true, 18), (true, 19), (true, 20), (true, 21), (true, 22), (true, 23), (true, 25), (true, 26), (true, 27), (true, 29), (true, 30), (true, 31), (true, 32), (false, 4), (false, 6), (true, 7), (false, 9), (false, 10), (false, 11), (false, 24), (false, 28)] (.last 33 (Pl.of [(false, 34)]))) (by kernel_rfl) ?_
        refine SL.mv ⟨rfl, rfl, rfl, rfl⟩ rfl ?_
        refine SL.iaT 1 hx8 ⟨rfl, rfl, rfl, rfl⟩ ty104 sz22 rfl rfl rfl fun g7 m9 cp7 hv7 => ?_
        refine SL.ld ⟨rfl, rfl, rfl, rfl⟩ sc22 rfl (cell_rowT (sz := 1) (enc := eU32) 1 0 (fun _ => rfl) rfl hv7 hx8 rfl) ?_
        refine SL.mv ⟨rfl, rfl, rfl, rfl⟩ rfl ?_
        refine SL.mv ⟨rfl, rfl, rfl, rfl⟩ rfl ?_
        refine SL.mv ⟨rfl, rfl, rfl, rfl⟩ rfl ?_
        refine SL.mv ⟨rfl, rfl, rfl, rfl⟩ rfl ?_
        refine SL.mv ⟨rfl, rfl, rfl, rfl⟩ rfl ?_
        refine SL.iaT 1 hx9 ⟨rfl, rfl, rfl, rfl⟩ ty104 sz22 rfl rfl rfl fun g8 m10 cp8 hv8 => ?_
        refine SL.ld ⟨rfl, rfl, rfl, rfl⟩ sc22 rfl (cell_rowT (sz := 1) (enc := eU32) 1 0 (fun _ => rfl) rfl hv8 hx9 rfl) ?_
        refine SL.bin ⟨rfl, rfl, rfl, rfl⟩ rfl rfl Bin.and32 ?_
        refine SL.mv ⟨rfl, rfl, rfl, rfl⟩ rfl ?_
        refine SL.not32 ⟨rfl, rfl, rfl, rfl⟩ rfl ?_
        refine SL.mv ⟨rfl, rfl, rfl, rfl⟩ rfl ?_
        refine SL.iaT 1 hx10 ⟨rfl, rfl, rfl, rfl⟩ ty104 sz22 rfl rfl rfl fun g9 m11 cp9 hv9 => ?_
        refine SL.ld ⟨rfl, rfl, rfl, rfl⟩ sc22 rfl (cell_rowT (sz := 1) (enc := eU32) 1 0 (fun _ => rfl) rfl hv9 hx10 rfl) ?_
        refine SL.bin ⟨rfl, rfl, rfl, rfl⟩ rfl rfl Bin.and32 ?_
        refine SL.bin ⟨rfl, rfl, rfl, rfl⟩ rfl rfl Bin.xor32 ?_
        refine SL.mv ⟨rfl, rfl, rfl, rfl⟩ rfl ?_
        refine SL.iaAN (xs := T) hx11 ⟨rfl, rfl, rfl, rfl⟩ ty135 sz22 rfl rfl hT.len ?_
        refine SL.ld ⟨rfl, rfl, rfl, rfl⟩ sc22 rfl (tab_ld hT hx11) ?_
        refine SL.mv ⟨rfl, rfl, rfl, rfl⟩ rfl ?_
        refine SL.mv ⟨rfl, rfl, rfl, rfl⟩ rfl ?_
        refine SL.iaT 0 hx12 ⟨rfl, rfl, rfl, rfl⟩ ty104 sz22 rfl rfl rfl fun g10 m12 cp10 hv10 => ?_
        refine SL.ld ⟨rfl, rfl, rfl, rfl⟩ sc22 rfl (cell_rowT (sz := 1) (enc := eU32) 0 0 (fun _ => rfl) rfl hv10 hx12 rfl) ?_
        refine SL.call (vs := [_, _]) (Hin := []) (Hr := _ :: _ :: _) ⟨rfl, rfl, rfl, rfl⟩ rfl ⟨rfl, rfl, trivial⟩ cal91 rfl rfl (c_ref02_turned hy5) ?_
        rintro _ _ ⟨rfl, rfl⟩
        refine ⟨⟨⟨0, rfl⟩, ⟨1, rfl⟩, trivial⟩, ?_⟩
        refine SL.call (vs := [_, _]) (Hin := []) (Hr := _ :: _ :: _) ⟨rfl, rfl, rfl, rfl⟩ rfl ⟨rfl, rfl, trivial⟩ cal91 rfl rfl (c_ref02_turned hy6) ?_
        rintro _ _ ⟨rfl, rfl⟩
        refine ⟨⟨⟨0, rfl⟩, ⟨1, rfl⟩, trivial⟩, ?_⟩
        refine SL.bin ⟨rfl, rfl, rfl, rfl⟩ rfl rfl Bin.xor32 ?_
        refine SL.call (vs := [_, _]) (Hin := []) (Hr := _ :: _ :: _) ⟨rfl, rfl, rfl, rfl⟩ rfl ⟨rfl, rfl, trivial⟩ cal91 rfl rfl (c_ref02_turned hy7) ?_
        rintro _ _ ⟨rfl, rfl⟩
        refine ⟨⟨⟨0, rfl⟩, ⟨1, rfl⟩, trivial⟩, ?_⟩
        refine SL.bin ⟨rfl, rfl, rfl, rfl⟩ rfl rfl Bin.xor32 ?_
        refine SL.bin ⟨rfl, rfl, rfl, rfl⟩ rfl rfl Bin.add32 ?_
        refine SL.bin ⟨rfl, rfl, rfl, rfl⟩ rfl rfl Bin.add32 ?_
        refine SL.bin ⟨rfl, rfl, rfl, rfl⟩ rfl rfl Bin.add32 ?_
        refine SL.last ?_
        refine SL.bin ⟨rfl, rfl, rfl, rfl⟩ rfl rfl Bin.add32 ?_
        refine SL.asgX (u := vU32 x13) ⟨rfl, rfl, rfl, rfl⟩ rfl (by rw [ex13]) ?_
        refine SL.nx ?_
        refine SX.seq ?_
        obtain ⟨y8, hy8, h⟩ := bnd h
        obtain ⟨y9, hy9, h⟩ := bnd h
        obtain ⟨y10, hy10, h⟩ := bnd h
        obtain ⟨x14, hx14, h⟩ := bnd h
        obtain ⟨x15, hx15, h⟩ := bnd h
        obtain ⟨x16, hx16, h⟩ := bnd h
        obtain ⟨x17, hx17, h⟩ := bnd h
        obtain ⟨x18, ex18, h⟩ := retE h
        refine SX.drawI mix [1] (Pl.ap [(true, 0), (true, 2), (true, 5), (true, 8), (true, 9), (true, 10), (true, 11), (true, 12), (true, 13), (true, 14), (true, 15), (true, 16), (true, 17), (true, 18), (true, 19), (true, 20), (true, 21), (true, 22), (true, 23), (true, 24), (true, 25), (true, 26), (false, 1), (false, 3), (true, 4), (false, 6), (false, 7)] (.last 27 (Pl.of [(false, 28)]))) (by kernel_rfl) ?_
        refine SL.mv ⟨rfl, rfl, rfl, rfl⟩ rfl ?_
        refine SL.mv ⟨rfl, rfl, rfl, rfl⟩ rfl ?_
        refine SL.mv ⟨rfl, rfl, rfl, rfl⟩ rfl ?_
        refine SL.mv ⟨rfl, rfl, rfl, rfl⟩ rfl ?_
        refine SL.mv ⟨rfl, rfl, rfl, rfl⟩ rfl ?_
        refine SL.iaT 1 hx14 ⟨rfl, rfl, rfl, rfl⟩ ty104 sz22 rfl rfl rfl fun g11 m13 cp11 hv11 => ?_
        refine SL.ld ⟨rfl, rfl, rfl, rfl⟩ sc22 rfl (cell_rowT (sz := 1) (enc := eU32) 0 0 (fun _ => rfl) rfl hv11 hx14 rfl) ?_
        refine SL.bin ⟨rfl, rfl, rfl, rfl⟩ rfl rfl Bin.and32 ?_
        refine SL.mv ⟨rfl, rfl, rfl, rfl⟩ rfl ?_
        refine SL.mv ⟨rfl, rfl, rfl, rfl⟩ rfl ?_
        refine SL.iaT 1 hx15 ⟨rfl, rfl, rfl, rfl⟩ ty104 sz22 rfl rfl rfl fun g12 m14 cp12 hv12 => ?_
        refine SL.ld ⟨rfl, rfl, rfl, rfl⟩ sc22 rfl (cell_rowT (sz := 1) (enc := eU32) 0 0 (fun _ => rfl) rfl hv12 hx15 rfl) ?_
        refine SL.bin ⟨rfl, rfl, rfl, rfl⟩ rfl rfl Bin.and32 ?_
        refine SL.bin ⟨rfl, rfl, rfl, rfl⟩ rfl rfl Bin.xor32 ?_
        refine SL.mv ⟨rfl, rfl, rfl, rfl⟩ rfl ?_
        refine SL.iaT 1 hx16 ⟨rfl, rfl, rfl, rfl⟩ ty104 sz22 rfl rfl rfl fun g13 m15 cp13 hv13 => ?_
        refine SL.ld ⟨rfl, rfl, rfl, rfl⟩ sc22 rfl (cell_rowT (sz := 1) (enc := eU32) 0 0 (fun _ => rfl) rfl hv13 hx16 rfl) ?_
        refine SL.mv ⟨rfl, rfl, rfl, rfl⟩ rfl ?_
        refine SL.iaT 1 hx17 ⟨rfl, rfl, rfl, rfl⟩ ty104 sz22 rfl rfl rfl fun g14 m16 cp14 hv14 => ?_
        refine SL.ld ⟨rfl, rfl, rfl, rfl⟩ sc22 rfl (cell_rowT (sz := 1) (enc := eU32) 0 0 (fun _ => rfl) rfl hv14 hx17 rfl) ?_
        refine SL.bin ⟨rfl, rfl, rfl, rfl⟩ rfl rfl Bin.and32 ?_
        refine SL.bin ⟨rfl, rfl, rfl, rfl⟩ rfl rfl Bin.xor32 ?_
        refine SL.call (vs := [_, _]) (Hin := []) (Hr := _ :: _ :: _) ⟨rfl, rfl, rfl, rfl⟩ rfl ⟨rfl, rfl, trivial⟩ cal91 rfl rfl (c_ref02_turned hy8) ?_
        rintro _ _ ⟨rfl, rfl⟩
        refine ⟨⟨⟨1, rfl⟩, trivial⟩, ?_⟩
        refine SL.call (vs := [_, _]) (Hin := []) (Hr := _ :: _ :: _) ⟨rfl, rfl, rfl, rfl⟩ rfl ⟨rfl, rfl, trivial⟩ cal91 rfl rfl (c_ref02_turned hy9) ?_
        rintro _ _ ⟨rfl, rfl⟩
        refine ⟨⟨⟨1, rfl⟩, trivial⟩, ?_⟩
        refine SL.bin ⟨rfl, rfl, rfl, rfl⟩ rfl rfl Bin.xor32 ?_
        refine SL.call (vs := [_, _]) (Hin := []) (Hr := _ :: _ :: _) ⟨rfl, rfl, rfl, rfl⟩ rfl ⟨rfl, rfl, trivial⟩ cal91 rfl rfl (c_ref02_turned hy10) ?_
        rintro _ _ ⟨rfl, rfl⟩
        refine ⟨⟨⟨1, rfl⟩, trivial⟩, ?_⟩
        refine SL.bin ⟨rfl, rfl, rfl, rfl⟩ rfl rfl Bin.xor32 ?_
        refine SL.last ?_
        refine SL.bin ⟨rfl, rfl, rfl, rfl⟩ rfl rfl Bin.add32 ?_
        refine SL.asgX (u := vU32 x18) ⟨rfl, rfl, rfl, rfl⟩ rfl (by rw [ex18]) ?_
        refine SL.nx ?_
        obtain ⟨x19, hx19, h⟩ := bnd h
        obtain ⟨x20, hx20, h⟩ := bnd h
        obtain ⟨x21, hx21, h⟩ := bnd h
        obtain ⟨x22, hx22, h⟩ := bnd h
        obtain ⟨x23, hx23, h⟩ := bnd h
        obtain ⟨x24, hx24, h⟩ := bnd h
        obtain ⟨x25, hx25, h⟩ := bnd h
        refine SX.drawI mix [1] (Pl.ap [(true, 0), (true, 1), (true, 2), (true, 3), (true, 4), (true, 5), (true, 6), (true, 7), (true, 8), (true, 9), (true, 10), (true, 11), (true, 12), (true, 13), (true, 14), (true, 15), (true, 16), (true, 17), (true, 18), (true, 19), (true, 20), (true, 21), (true, 22), (true, 23), (true, 24), (true, 25)] (.last 26 (Pl.of [(false, 27)]))) (by kernel_rfl) ?_
        refine SL.mv ⟨rfl, rfl, rfl, rfl⟩ rfl ?_
        refine SL.mv ⟨rfl, rfl, rfl, rfl⟩ rfl ?_
        refine SL.bin ⟨rfl, rfl, rfl, rfl⟩ rfl rfl Bin.add32 ?_
        refine SL.mv ⟨rfl, rfl, rfl, rfl⟩ rfl ?_
        refine SL.iaT 1 hx19 ⟨rfl, rfl, rfl, rfl⟩ ty104 sz22 rfl rfl rfl fun g15 m17 cp15 hv15 => ?_
        refine SL.ld ⟨rfl, rfl, rfl, rfl⟩ sc22 rfl (cell_rowT (sz := 1) (enc := eU32) 0 0 (fun _ => rfl) rfl hv15 hx19 rfl) ?_
        refine SL.mv ⟨rfl, rfl, rfl, rfl⟩ rfl ?_
        refine SL.iaT 1 hx20 ⟨rfl, rfl, rfl, rfl⟩ ty104 sz22 rfl rfl rfl fun g16 m18 cp16 hv16 => ?_
        refine SL.ld ⟨rfl, rfl, rfl, rfl⟩ sc22 rfl (cell_rowT (sz := 1) (enc := eU32) 0 0 (fun _ => rfl) rfl hv16 hx20 rfl) ?_
        refine SL.mv ⟨rfl, rfl, rfl, rfl⟩ rfl ?_
        refine SL.iaT 1 hx21 ⟨rfl, rfl, rfl, rfl⟩ ty104 sz22 rfl rfl rfl fun g17 m19 cp17 hv17 => ?_
        refine SL.ld ⟨rfl, rfl, rfl, rfl⟩ sc22 rfl (cell_rowT (sz := 1) (enc := eU32) 0 0 (fun _ => rfl) rfl hv17 hx21 rfl) ?_
        refine SL.mv ⟨rfl, rfl, rfl, rfl⟩ rfl ?_
        refine SL.iaT 1 hx22 ⟨rfl, rfl, rfl, rfl⟩ ty104 sz22 rfl rfl rfl fun g18 m20 cp18 hv18 => ?_
        refine SL.ld ⟨rfl, rfl, rfl, rfl⟩ sc22 rfl (cell_rowT (sz := 1) (enc := eU32) 0 0 (fun _ => rfl) rfl hv18 hx22 rfl) ?_
        refine SL.mv ⟨rfl, rfl, rfl, rfl⟩ rfl ?_
        refine SL.bin ⟨rfl, rfl, rfl, rfl⟩ rfl rfl Bin.add32 ?_
        refine SL.mv ⟨rfl, rfl, rfl, rfl⟩ rfl ?_
        refine SL.iaT 1 hx23 ⟨rfl, rfl, rfl, rfl⟩ ty104 sz22 rfl rfl rfl fun g19 m21 cp19 hv19 => ?_
        refine SL.ld ⟨rfl, rfl, rfl, rfl⟩ sc22 rfl (cell_rowT (sz := 1) (enc := eU32) 0 0 (fun _ => rfl) rfl hv19 hx23 rfl) ?_
        refine SL.mv ⟨rfl, rfl, rfl, rfl⟩ rfl ?_
        refine SL.iaT 1 hx24 ⟨rfl, rfl, rfl, rfl⟩ ty104 sz22 rfl rfl rfl fun g20 m22 cp20 hv20 => ?_
        refine SL.ld ⟨rfl, rfl, rfl, rfl⟩ sc22 rfl (cell_rowT (sz := 1) (enc := eU32) 0 0 (fun _ => rfl) rfl hv20 hx24 rfl) ?_
        refine SL.mv ⟨rfl, rfl, rfl, rfl⟩ rfl ?_
        refine SL.iaT 1 hx25 ⟨rfl, rfl, rfl, rfl⟩ ty104 sz22 rfl rfl rfl fun g21 m23 cp21 hv21 => ?_
        refine SL.ld ⟨rfl, rfl, rfl, rfl⟩ sc22 rfl (cell_rowT (sz := 1) (enc := eU32) 0 0 (fun _ => rfl) rfl hv21 hx25 rfl) ?_
        refine SL.last ?_
        refine SL.bsl [_, _, _, _, _, _, _, _] ⟨rfl, rfl, rfl, rfl⟩ ty104 sz22 ze22 ⟨rfl, rfl, rfl, rfl, rfl, rfl, rfl, rfl, trivial⟩ rfl rfl rfl (by simp [Value.cells]) rfl rfl (fun _ => trivial) fun b3 => ?_
        refine SL.ownT eU32 1 ([x13 + x18, x19, x20, x21, x22 + x13, x23, x24, x25] : List UInt32) rfl (fun _ => rfl) rfl ?_
        refine SL.asg ⟨rfl, rfl, rfl, rfl⟩ rfl ?_
        refine SL.nil ?_
        refine SQ.blk ?_
        refine SQ.thn ?_
        refine SX.region ?_
        obtain ⟨x26, ex26, h⟩ := retE h
        refine SL.mv ⟨rfl, rfl, rfl, rfl⟩ rfl ?_
        refine SL.bin ⟨rfl, rfl, rfl, rfl⟩ rfl rfl Bin.addW ?_
        refine SL.asgX (u := vI x26) ⟨rfl, rfl, rfl, rfl⟩ rfl (by rw [ex26]) ?_
        refine SL.nil ?_
        exact SQ.again (m6, [x13 + x18, x19, x20, x21, x22 + x13, x23, x24, x25], .slice (some ⟨b3, 0, none⟩) 8 8, x26) h (Nat.lt_succ_self _) (by repeat' (first | exact trivial | refine And.intro rfl ?_)) (fun _ hw => HpOk.pick (H := [_, _, _]) hw [1, 0] 3 rfl)
      · skip
        replace h := cF hc3 h
        refine SX.exit ?_
        refine SQ.thnE ?_
        refine SQ.lpE ?_
        refine SQ.blkE ?_
        exact SQ.midD (l8, v9) h (by repeat' (first | exact trivial | refine And.intro rfl ?_)) (fun _ hw => HpOk.pick (H := [_, _]) hw [1] 2 rfl)
    · skip
      obtain ⟨l7, v8⟩ := x
      dsimp only at h
      unfold f_ref02_part_j3 at h
      refine SX.re [(0, v0_), (9, v8)] (rowT 22 1 v8 eU32 l7 :: H) ?_ (by repeat' (first | exact trivial | refine And.intro rfl ?_))
      refine SX.meetD (α := List UInt32 × Value) (fun x => f_ref02_part_j4 x.1 = some r) (fun x => [(9, x.2)]) (fun x => rowT 22 1 x.2 eU32 x.1 :: H) ?_ (fun x D h => ?_)
      · skip
        refine SX.sr ?_
        refine SL.asg ⟨rfl, rfl, rfl, rfl⟩ rfl ?_
        refine SL.nx ?_
        refine SX.block ?_
        refine SX.heap (SX.mono (SX.loop (α := Nat × List UInt32 × Value × Int) (fun x => f_ref02_part_l3 p0 x.1 (x.2.1, x.2.2.2) = some r) (fun x => [(0, v0_), (9, x.2.2.1), (15, vI x.2.2.2)]) (fun x => rowT 22 1 x.2.2.1 eU32 x.2.1 :: H) (fun x => x.1) (fun x D h => ?_) (n, l7, v8, 0) h) (by repeat' (first | exact trivial | refine And.intro rfl ?_))) (fun _ hw => HpOk.pick (H := [_]) hw [0] 1 rfl)
        obtain ⟨m24, l10, v11, a3⟩ := x
        dsimp only at h
        rcases m24 with _ | m24
        · cases (show (none : Option _) = some r from h)
        replace h : f_ref02_part_l3_b p0 (f_ref02_part_l3 p0 m24) l10 a3 = some r := h
        unfold f_ref02_part_l3_b at h
        refine SX.re [(0, v0_), (9, v11), (15, vI a3)] (rowT 22 1 v11 eU32 l10 :: H) ?_ (by repeat' (first | exact trivial | refine And.intro rfl ?_))
        refine SX.seq ?_
        refine SX.sr ?_
        refine SL.mv ⟨rfl, rfl, rfl, rfl⟩ rfl ?_
        refine SL.bin ⟨rfl, rfl, rfl, rfl⟩ rfl rfl Bin.ltI ?_
        refine SL.nx ?_
        refine SX.cond rfl (fun hc4 => ?_) (fun hc4 => ?_)
        · skip
          replace h := cT hc4 h
          refine SX.skip ?_
          refine SQ.thn ?_
          refine SX.seq ?_
          refine SX.block ?_
          obtain ⟨x27, hx27, h⟩ := bnd h
          obtain ⟨x28, hx28, h⟩ := bnd h
          obtain ⟨x29, hx29, h⟩ := bnd h
          obtain ⟨l11, hl11, h⟩ := bnd h
          refine SX.drawI mix [0] (Pl.ap [(true, 0), (true, 1), (true, 2), (true, 3), (true, 4), (true, 5), (true, 6), (true, 7), (true, 8), (true, 9), (true, 10), (true, 11)] (.last 12 .nil)) (by kernel_rfl) ?_
          refine SL.mv ⟨rfl, rfl, rfl, rfl⟩ rfl ?_
          refine SL.mv ⟨rfl, rfl, rfl, rfl⟩ rfl ?_
          refine SL.mv ⟨rfl, rfl, rfl, rfl⟩ rfl ?_
          refine SL.mv ⟨rfl, rfl, rfl, rfl⟩ rfl ?_
          refine SL.iaT 0 hx27 ⟨rfl, rfl, rfl, rfl⟩ ty104 sz22 rfl rfl rfl fun g22 m25 cp22 hv22 => ?_
          refine SL.ld ⟨rfl, rfl, rfl, rfl⟩ sc22 rfl (cell_rowT (sz := 1) (enc := eU32) 0 0 (fun _ => rfl) rfl hv22 hx27 rfl) ?_
          refine SL.mv ⟨rfl, rfl, rfl, rfl⟩ rfl ?_
          refine SL.mv ⟨rfl, rfl, rfl, rfl⟩ rfl ?_
          refine SL.iaN hx28 hs0_ ⟨rfl, rfl, rfl, rfl⟩ ty104 sz22 rfl rfl fun be1 of1 hc5 => ?_
          refine SL.ld ⟨rfl, rfl, rfl, rfl⟩ sc22 rfl (cell_kept (j := 0) hc5 rfl) ?_
          refine SL.bin ⟨rfl, rfl, rfl, rfl⟩ rfl rfl Bin.add32 ?_
          refine SL.iaT 0 hx29 ⟨rfl, rfl, rfl, rfl⟩ ty104 sz22 rfl rfl rfl fun g23 m26 cp23 hv23 => ?_
          refine SL.last ?_
          refine SL.stTN (sz := 1) (enc := eU32) 0 hl11 (fun _ => rfl) ⟨rfl, rfl, rfl⟩ rfl rfl rfl rfl hv23 sz22 (by simp [Value.oneCell']) trivial ?_
          refine SL.nil ?_
          refine SQ.blk ?_
          refine SQ.thn ?_
          refine SX.region ?_
          obtain ⟨x30, ex30, h⟩ := retE h
          refine SL.mv ⟨rfl, rfl, rfl, rfl⟩ rfl ?_
          refine SL.bin ⟨rfl, rfl, rfl, rfl⟩ rfl rfl Bin.addW ?_
          refine SL.asgX (u := vI x30) ⟨rfl, rfl, rfl, rfl⟩ rfl (by rw [ex30]) ?_
          refine SL.nil ?_
          exact SQ.again (m24, l11, v11, x30) h (Nat.lt_succ_self _) (by repeat' (first | exact trivial | refine And.intro rfl ?_)) (fun _ hw => HpOk.pick (H := [_]) hw [0] 1 rfl)
        · skip
          replace h := cF hc4 h
          refine SX.exit ?_
          refine SQ.thnE ?_
          refine SQ.lpE ?_
          refine SQ.blkE ?_
          exact SQ.midD (l10, v11) h (by repeat' (first | exact trivial | refine And.intro rfl ?_)) (fun _ hw => HpOk.pick (H := [_]) hw [0] 1 rfl)
      · skip
        obtain ⟨l9, v10⟩ := x
        dsimp only at h
        unfold f_ref02_part_j4 at h
        refine SX.re [(9, v10)] (rowT 22 1 v10 eU32 l9 :: H) ?_ (by repeat' (first | exact trivial | refine And.intro rfl ?_))
        refine SX.sr ?_
        refine SL.mv ⟨rfl, rfl, rfl, rfl⟩ rfl ?_
        refine SL.asg ⟨rfl, rfl, rfl, rfl⟩ rfl ?_
        refine SL.nx ?_
        refine SX.ret ?_
        obtain rfl := Option.some.inj h
        exact SQ.fret (res1 rfl rfl) (ret_of (M := [_]) ⟨v10, rfl, rfl⟩ fun _ hw => HpOk.pick (H := [_]) hw [0] 1 rfl)

def f_ref02_Filled_j1 (p0 : List UInt8) (a1 : List UInt8) : Option (List UInt8) :=
  ret ((toU64 (p0.length : Int)) * 8) fun x1 =>
  (catS a1 [(shr64 x1 56).toUInt8, (shr64 x1 48).toUInt8, (shr64 x1 40).toUInt8, (shr64 x1 32).toUInt8, (shr64 x1 24).toUInt8, (shr64 x1 16).toUInt8, (shr64 x1 8).toUInt8, x1.toUInt8]).bind fun s3 =>
  some s3
def f_ref02_Filled_l1_b (p0 : List UInt8) (nx_f_ref02_Filled_l1 : List UInt8 → Option (List UInt8)) (a2 : List UInt8) : Option (List UInt8) :=
  (remI (a2.length : Int) 64).bind fun q1 =>
  cond (!decide (q1 = 56))
  (
    (catS a2 [0]).bind fun s2 =>
    nx_f_ref02_Filled_l1 s2)
  (
    f_ref02_Filled_j1 p0 a2)
def f_ref02_Filled_l1 (p0 : List UInt8) : Nat → List UInt8 → Option (List UInt8) := loopN fun nx x => f_ref02_Filled_l1_b p0 nx x
def f_ref02_Filled (n : Nat) (p0 : List UInt8) : Option (List UInt8) :=
  (catS p0 [128]).bind fun s1 =>
  f_ref02_Filled_l1 p0 n s1
set_option maxRecDepth 100000 in
theorem c_ref02_Filled {n : Nat} {p0 : List UInt8} {r : List UInt8} (h : f_ref02_Filled n p0 = some r)  : Con Tryd.prog K w0 73 [vS p0] [] H (fun u M => u = vS r ∧ M = []) := by
  unfold f_ref02_Filled at h
  refine Con.enter Tryd.func73 rfl rfl ?_
  refine SX.sr ?_
  refine SL.asg ⟨rfl, rfl, rfl, rfl⟩ rfl ?_
  refine SL.nx ?_
  refine SX.sr ?_
  obtain ⟨s1, hs1, h⟩ := bnd h
  refine SL.mv ⟨rfl, rfl, rfl, rfl⟩ rfl ?_
  refine SL.bin ⟨rfl, rfl, rfl, rfl⟩ rfl rfl (Bin.catO hs1) ?_
  refine SL.asg ⟨rfl, rfl, rfl, rfl⟩ rfl ?_
  refine SL.nx ?_
  refine SX.meetD (α := List UInt8) (fun x => f_ref02_Filled_j1 p0 x = some r) (fun x => [(0, vS p0), (3, vS x)]) (fun x => H) ?_ (fun a1 D h => ?_)
  · skip
    refine SX.block ?_
    refine SX.heap (SX.mono (SX.loop (α := Nat × List UInt8) (fun x => f_ref02_Filled_l1 p0 x.1 x.2 = some r) (fun x => [(0, vS p0), (3, vS x.2)]) (fun x => H) (fun x => x.1) (fun x D h => ?_) (n, s1) h) (by repeat' (first | exact trivial | refine And.intro rfl ?_))) (fun _ hw => HpOk.pick (H := []) hw [] 0 rfl)
    obtain ⟨m1, a2⟩ := x
    dsimp only at h
    rcases m1 with _ | m1
    · cases (show (none : Option _) = some r from h)
    replace h : f_ref02_Filled_l1_b p0 (f_ref02_Filled_l1 p0 m1) a2 = some r := h
    unfold f_ref02_Filled_l1_b at h
    refine SX.re [(0, vS p0), (3, vS a2)] (H) ?_ (by repeat' (first | exact trivial | refine And.intro rfl ?_))
    refine SX.seq ?_
    refine SX.sr ?_
    obtain ⟨q1, hq1, h⟩ := bnd h
    refine SL.mv ⟨rfl, rfl, rfl, rfl⟩ rfl ?_
    refine SL.lenS ⟨rfl, rfl, rfl, rfl⟩ ty9 rfl ?_
    refine SL.bin ⟨rfl, rfl, rfl, rfl⟩ rfl rfl (Bin.modO hq1) ?_
    refine SL.bin ⟨rfl, rfl, rfl, rfl⟩ rfl rfl Bin.neI ?_
    refine SL.nx ?_
    refine SX.cond rfl (fun hc1 => ?_) (fun hc1 => ?_)
    · skip
      replace h := cT hc1 h
      refine SX.skip ?_
      refine SQ.thn ?_
      refine SX.block ?_
      refine SX.region ?_
      obtain ⟨s2, hs2, h⟩ := bnd h
      refine SL.mv ⟨rfl, rfl, rfl, rfl⟩ rfl ?_
      refine SL.bin ⟨rfl, rfl, rfl, rfl⟩ rfl rfl (Bin.catO hs2) ?_
      refine SL.asg ⟨rfl, rfl, rfl, rfl⟩ rfl ?_
      refine SL.nil ?_
      refine SQ.blk ?_
      exact SQ.again (m1, s2) h (Nat.lt_succ_self _) (by repeat' (first | exact trivial | refine And.intro rfl ?_)) (fun _ hw => HpOk.pick (H := []) hw [] 0 rfl)
    · skip
      replace h := cF hc1 h
      refine SX.exit ?_
      refine SQ.thnE ?_
      refine SQ.lpE ?_
      refine SQ.blkE ?_
      exact SQ.midD a2 h (by repeat' (first | exact trivial | refine And.intro rfl ?_)) (fun _ hw => HpOk.pick (H := []) hw [] 0 rfl)
  · skip
    unfold f_ref02_Filled_j1 at h
    refine SX.re [(0, vS p0), (3, vS a1)] (H) ?_ (by repeat' (first | exact trivial | refine And.intro rfl ?_))
    refine SX.sr ?_
    obtain ⟨x1, ex1, h⟩ := retE h
    refine SL.mv ⟨rfl, rfl, rfl, rfl⟩ rfl ?_
    refine SL.lenS ⟨rfl, rfl, rfl, rfl⟩ ty9 rfl ?_
    refine SL.cv ⟨rfl, rfl, rfl, rfl⟩ rfl (Cv.i_64 ty3 ty23) ?_
    refine SL.bin ⟨rfl, rfl, rfl, rfl⟩ rfl rfl (Bin.mul64 (b := 8)) ?_
    refine SL.asgX (u := vU64 x1) ⟨rfl, rfl, rfl, rfl⟩ rfl (by rw [ex1]) ?_
    refine SL.nx ?_
    refine SX.sr ?_
    obtain ⟨s3, hs3, h⟩ := bnd h
    refine SL.mv ⟨rfl, rfl, rfl, rfl⟩ rfl ?_
    refine SL.mv ⟨rfl, rfl, rfl, rfl⟩ rfl ?_
    refine SL.bin ⟨rfl, rfl, rfl, rfl⟩ rfl rfl (Bin.shr64 (n := 56)) ?_
    refine SL.cv ⟨rfl, rfl, rfl, rfl⟩ rfl (Cv.u64_8 ty23 ty5) ?_
    refine SL.mv ⟨rfl, rfl, rfl, rfl⟩ rfl ?_
    refine SL.bin ⟨rfl, rfl, rfl, rfl⟩ rfl rfl (Bin.shr64 (n := 48)) ?_
    refine SL.cv ⟨rfl, rfl, rfl, rfl⟩ rfl (Cv.u64_8 ty23 ty5) ?_
    refine SL.mv ⟨rfl, rfl, rfl, rfl⟩ rfl ?_
    refine SL.bin ⟨rfl, rfl, rfl, rfl⟩ rfl rfl (Bin.shr64 (n := 40)) ?_
    refine SL.cv ⟨rfl, rfl, rfl, rfl⟩ rfl (Cv.u64_8 ty23 ty5) ?_
    refine SL.mv ⟨rfl, rfl, rfl, rfl⟩ rfl ?_
    refine SL.bin ⟨rfl, rfl, rfl, rfl⟩ rfl rfl (Bin.shr64 (n := 32)) ?_
    refine SL.cv ⟨rfl, rfl, rfl, rfl⟩ rfl (Cv.u64_8 ty23 ty5) ?_
    refine SL.mv ⟨rfl, rfl, rfl, rfl⟩ rfl ?_
    refine SL.bin ⟨rfl, rfl, rfl, rfl⟩ rfl rfl (Bin.shr64 (n := 24)) ?_
    refine SL.cv ⟨rfl, rfl, rfl, rfl⟩ rfl (Cv.u64_8 ty23 ty5) ?_
    refine SL.mv ⟨rfl, rfl, rfl, rfl⟩ rfl ?_
    refine SL.bin ⟨rfl, rfl, rfl, rfl⟩ rfl rfl (Bin.shr64 (n := 16)) ?_
    refine SL.cv ⟨rfl, rfl, rfl, rfl⟩ rfl (Cv.u64_8 ty23 ty5) ?_
    refine SL.mv ⟨rfl, rfl, rfl, rfl⟩ rfl ?_
    refine SL.bin ⟨rfl, rfl, rfl, rfl⟩ rfl rfl (Bin.shr64 (n := 8)) ?_
    refine SL.cv ⟨rfl, rfl, rfl, rfl⟩ rfl (Cv.u64_8 ty23 ty5) ?_
    refine SL.mv ⟨rfl, rfl, rfl, rfl⟩ rfl ?_
    refine SL.cv ⟨rfl, rfl, rfl, rfl⟩ rfl (Cv.u64_8 ty23 ty5) ?_
    refine SL.bsl [_, _, _, _, _, _, _, _] ⟨rfl, rfl, rfl, rfl⟩ ty41 sz5 ze5 ⟨rfl, rfl, rfl, rfl, rfl, rfl, rfl, rfl, trivial⟩ rfl rfl rfl (by simp [Value.cells]) rfl rfl (fun _ => trivial) fun b1 => ?_
    refine SL.ownT eU8 1 ([(shr64 x1 56).toUInt8, (shr64 x1 48).toUInt8, (shr64 x1 40).toUInt8, (shr64 x1 32).toUInt8, (shr64 x1 24).toUInt8, (shr64 x1 16).toUInt8, (shr64 x1 8).toUInt8, x1.toUInt8] : List UInt8) rfl (fun _ => rfl) rfl ?_
    refine SL.btsT 0 ⟨rfl, rfl, rfl, rfl⟩ ty41 ty5 ty9 rfl rfl ?_
    refine SL.bin ⟨rfl, rfl, rfl, rfl⟩ rfl rfl (Bin.catO hs3) ?_
    refine SL.asg ⟨rfl, rfl, rfl, rfl⟩ rfl ?_
    refine SL.nx ?_
    refine SX.ret ?_
    obtain rfl := Option.some.inj h
    exact SQ.fret (res1 rfl rfl) (ret_of (M := []) ⟨rfl, rfl⟩ fun _ hw => HpOk.pick (H := [_]) hw [] 1 rfl)

def f_ref02_Sum_j2 (l3 : List UInt8) : Option (List UInt8) :=
  some l3
def f_ref02_Sum_l2_b (l1 : List UInt32) (nx_f_ref02_Sum_l2 : List UInt8 × Int → Option (List UInt8)) (l4 : List UInt8) (a2 : Int) : Option (List UInt8) :=
  cond (decide (a2 < 8))
  (
    (nthI l1 a2).bind fun x1 =>
    (nthI l1 a2).bind fun x2 =>
    (nthI l1 a2).bind fun x3 =>
    (nthI l1 a2).bind fun x4 =>
    (appL 1 l4 [(shr32 x1 24).toUInt8, (shr32 x2 16).toUInt8, (shr32 x3 8).toUInt8, x4.toUInt8]).bind fun l5 =>
    ret (wI (a2 + 1)) fun i_2 =>
    nx_f_ref02_Sum_l2 (l5, i_2))
  (
    f_ref02_Sum_j2 l4)
def f_ref02_Sum_l2 (l1 : List UInt32) : Nat → (List UInt8 × Int) → Option (List UInt8) := loopN fun nx x => f_ref02_Sum_l2_b l1 nx x.1 x.2
def f_ref02_Sum_j1 (n : Nat) (l1 : List UInt32) : Option (List UInt8) :=
  f_ref02_Sum_l2 l1 n ([], 0)
def f_ref02_Sum_l1_b (n : Nat) (T : List UInt32) (y1 : List UInt8) (nx_f_ref02_Sum_l1 : List UInt32 × Int → Option (List UInt8)) (l2 : List UInt32) (a1 : Int) : Option (List UInt8) :=
  cond (decide (a1 < (y1.length : Int)))
  (
    (slcI y1 a1 (wI (a1 + 64))).bind fun s1 =>
    (f_ref02_part n T l2 s1).bind fun y3 =>
    ret (wI (a1 + 64)) fun i_1 =>
    nx_f_ref02_Sum_l1 (y3, i_1))
  (
    f_ref02_Sum_j1 n l2)
def f_ref02_Sum_l1 (n : Nat) (T : List UInt32) (y1 : List UInt8) : Nat → (List UInt32 × Int) → Option (List UInt8) := loopN fun nx x => f_ref02_Sum_l1_b n T y1 nx x.1 x.2
def f_ref02_Sum (n : Nat) (T : List UInt32) (p0 : List UInt8) : Option (List UInt8) :=
  (f_ref02_Filled n p0).bind fun y1 =>
  (f_ref02_first).bind fun y2 =>
  f_ref02_Sum_l1 n T y1 n (y2, 0)
set_option maxRecDepth 100000 in
theorem c_ref02_Sum {n : Nat} {T : List UInt32} {p0 : List UInt8} {r : List UInt8} (h : f_ref02_Sum n T p0 = some r) (hT : TabN K w0 1 64 T) : Con Tryd.prog K w0 54 [vS p0] [] H (fun u M => u = vS r ∧ M = []) := by
  unfold f_ref02_Sum at h
  refine Con.enter Tryd.func54 rfl rfl ?_
  refine SX.sr ?_
  refine SL.asg ⟨rfl, rfl, rfl, rfl⟩ rfl ?_
  refine SL.nx ?_
  refine SX.sr ?_
  obtain ⟨y1, hy1, h⟩ := bnd h
  refine SL.mv ⟨rfl, rfl, rfl, rfl⟩ rfl ?_
  refine SL.call (vs := [_]) (Hin := []) (Hr := _) ⟨rfl, rfl, rfl, rfl⟩ rfl ⟨rfl, trivial⟩ cal73 rfl rfl (c_ref02_Filled hy1) ?_
  rintro _ _ ⟨rfl, rfl⟩
  refine ⟨trivial, ?_⟩
  refine SL.asg ⟨rfl, rfl, rfl, rfl⟩ rfl ?_
  refine SL.nx ?_
  refine SX.sr ?_
  obtain ⟨y2, hy2, h⟩ := bnd h
  refine SL.call (vs := []) (Hin := []) (Hr := _) ⟨rfl, rfl, rfl, rfl⟩ rfl trivial cal74 rfl rfl (c_ref02_first hy2) ?_
  rintro v1 _ ⟨_, rfl, rfl⟩
  refine ⟨trivial, ?_⟩
  refine SL.asg ⟨rfl, rfl, rfl, rfl⟩ rfl ?_
  refine SL.nx ?_
  refine SX.meetD (α := List UInt32 × Value) (fun x => f_ref02_Sum_j1 n x.1 = some r) (fun x => [(4, x.2)]) (fun x => rowT 22 1 x.2 eU32 x.1 :: H) ?_ (fun x D h => ?_)
  · skip
    refine SX.sr ?_
    refine SL.asg ⟨rfl, rfl, rfl, rfl⟩ rfl ?_
    refine SL.nx ?_
    refine SX.block ?_
    refine SX.heap (SX.mono (SX.loop (α := Nat × List UInt32 × Value × Int) (fun x => f_ref02_Sum_l1 n T y1 x.1 (x.2.1, x.2.2.2) = some r) (fun x => [(3, vS y1), (4, x.2.2.1), (5, vI x.2.2.2)]) (fun x => rowT 22 1 x.2.2.1 eU32 x.2.1 :: H) (fun x => x.1) (fun x D h => ?_) (n, y2, v1, 0) h) (by repeat' (first | exact trivial | refine And.intro rfl ?_))) (fun _ hw => HpOk.pick (H := [_]) hw [0] 1 rfl)
    obtain ⟨m1, l2, v3, a1⟩ := x
    dsimp only at h
    rcases m1 with _ | m1
    · cases (show (none : Option _) = some r from h)
    replace h : f_ref02_Sum_l1_b n T y1 (f_ref02_Sum_l1 n T y1 m1) l2 a1 = some r := h
    unfold f_ref02_Sum_l1_b at h
    refine SX.re [(3, vS y1), (4, v3), (5, vI a1)] (rowT 22 1 v3 eU32 l2 :: H) ?_ (by repeat' (first | exact trivial | refine And.intro rfl ?_))
    refine SX.seq ?_
    refine SX.sr ?_
    refine SL.mv ⟨rfl, rfl, rfl, rfl⟩ rfl ?_
    refine SL.mv ⟨rfl, rfl, rfl, rfl⟩ rfl ?_
    refine SL.lenS ⟨rfl, rfl, rfl, rfl⟩ ty9 rfl ?_
    refine SL.bin ⟨rfl, rfl, rfl, rfl⟩ rfl rfl Bin.ltI ?_
    refine SL.nx ?_
    refine SX.cond rfl (fun hc1 => ?_) (fun hc1 => ?_)
    · skip
      replace h := cT hc1 h
      refine SX.skip ?_
      refine SQ.thn ?_
      refine SX.seq ?_
      refine SX.block ?_
      refine SX.region ?_
      obtain ⟨s1, hs1, h⟩ := bnd h
      obtain ⟨y3, hy3, h⟩ := bnd h
      refine SL.mv ⟨rfl, rfl, rfl, rfl⟩ rfl ?_
      refine SL.mv ⟨rfl, rfl, rfl, rfl⟩ rfl ?_
      refine SL.mv ⟨rfl, rfl, rfl, rfl⟩ rfl ?_
      refine SL.mv ⟨rfl, rfl, rfl, rfl⟩ rfl ?_
      refine SL.bin ⟨rfl, rfl, rfl, rfl⟩ rfl rfl Bin.addW ?_
      refine SL.slN hs1 ⟨rfl, rfl, rfl, rfl⟩ ty9 rfl rfl rfl ?_
      refine SL.call (vs := [_, _]) (Hin := [_]) (Hr := _) ⟨rfl, rfl, rfl, rfl⟩ rfl ⟨rfl, rfl, trivial⟩ cal75 rfl rfl (Con.lend (B := [_]) (Hin := []) fun K' w1 hk hB => c_ref02_part hy3 (hT.keeps hk) (SlOf.lentT (e := 22) (fun _ => rfl) (hB _ (by simp)))) ?_
      rintro v4 _ ⟨_, rfl, _, rfl, rfl⟩
      refine ⟨trivial, ?_⟩
      refine SL.asg ⟨rfl, rfl, rfl, rfl⟩ rfl ?_
      refine SL.nil ?_
      refine SQ.blk ?_
      refine SQ.thn ?_
      refine SX.region ?_
      obtain ⟨i_1, ei_1, h⟩ := retE h
      refine SL.mv ⟨rfl, rfl, rfl, rfl⟩ rfl ?_
      refine SL.bin ⟨rfl, rfl, rfl, rfl⟩ rfl rfl Bin.addW ?_
      refine SL.asgX (u := vI i_1) ⟨rfl, rfl, rfl, rfl⟩ rfl (by rw [ei_1]) ?_
      refine SL.nil ?_
      exact SQ.again (m1, y3, v4, i_1) h (Nat.lt_succ_self _) (by repeat' (first | exact trivial | refine And.intro rfl ?_)) (fun _ hw => HpOk.pick (H := [_, _]) hw [1] 2 rfl)
    · skip
      replace h := cF hc1 h
      refine SX.exit ?_
      refine SQ.thnE ?_
      refine SQ.lpE ?_
      refine SQ.blkE ?_
      exact SQ.midD (l2, v3) h (by repeat' (first | exact trivial | refine And.intro rfl ?_)) (fun _ hw => HpOk.pick (H := [_]) hw [0] 1 rfl)
  · skip
    obtain ⟨l1, v2⟩ := x
    dsimp only at h
    unfold f_ref02_Sum_j1 at h
    refine SX.re [(4, v2)] (rowT 22 1 v2 eU32 l1 :: H) ?_ (by repeat' (first | exact trivial | refine And.intro rfl ?_))
    refine SX.sr ?_
    refine SL.nilT 5 1 eU8 ?_
    refine SL.asg ⟨rfl, rfl, rfl, rfl⟩ rfl ?_
    refine SL.nx ?_
    refine SX.meetD (α := List UInt8 × Value) (fun x => f_ref02_Sum_j2 x.1 = some r) (fun x => [(6, x.2)]) (fun x => rowT 5 1 x.2 eU8 x.1 :: H) ?_ (fun x D h => ?_)
    · skip
      refine SX.sr ?_
      refine SL.asg ⟨rfl, rfl, rfl, rfl⟩ rfl ?_
      refine SL.nx ?_
      refine SX.block ?_
      refine SX.heap (SX.mono (SX.loop (α := Nat × List UInt8 × Value × Int) (fun x => f_ref02_Sum_l2 l1 x.1 (x.2.1, x.2.2.2) = some r) (fun x => [(4, v2), (6, x.2.2.1), (7, vI x.2.2.2)]) (fun x => rowT 22 1 v2 eU32 l1 :: rowT 5 1 x.2.2.1 eU8 x.2.1 :: H) (fun x => x.1) (fun x D h => ?_) (n, [], .slice none 0 0, 0) h) (by repeat' (first | exact trivial | refine And.intro rfl ?_))) (fun _ hw => HpOk.pick (H := [_, _]) hw [1, 0] 2 rfl)
      obtain ⟨m2, l4, v6, a2⟩ := x
      dsimp only at h
      rcases m2 with _ | m2
      · cases (show (none : Option _) = some r from h)
      replace h : f_ref02_Sum_l2_b l1 (f_ref02_Sum_l2 l1 m2) l4 a2 = some r := h
      unfold f_ref02_Sum_l2_b at h
      refine SX.re [(4, v2), (6, v6), (7, vI a2)] (rowT 22 1 v2 eU32 l1 :: rowT 5 1 v6 eU8 l4 :: H) ?_ (by repeat' (first | exact trivial | refine And.intro rfl ?_))
      refine SX.seq ?_
      refine SX.sr ?_
      refine SL.mv ⟨rfl, rfl, rfl, rfl⟩ rfl ?_
      refine SL.bin ⟨rfl, rfl, rfl, rfl⟩ rfl rfl Bin.ltI ?_
      refine SL.nx ?_
      refine SX.cond rfl (fun hc2 => ?_) (fun hc2 => ?_)
      · skip
        replace h := cT hc2 h
        refine SX.skip ?_
        refine SQ.thn ?_
        refine SX.seq ?_
        refine SX.block ?_
        obtain ⟨x1, hx1, h⟩ := bnd h
        obtain ⟨x2, hx2, h⟩ := bnd h
        obtain ⟨x3, hx3, h⟩ := bnd h
        obtain ⟨x4, hx4, h⟩ := bnd h
        obtain ⟨l5, hl5, h⟩ := bnd h
        refine SX.drawI mix [0] (Pl.ap [(true, 0), (true, 1), (true, 2), (true, 3), (true, 4), (true, 5), (true, 6), (true, 7), (true, 8), (true, 9), (true, 10), (true, 11), (true, 12), (true, 13), (true, 14), (true, 15), (true, 16), (true, 17), (true, 18), (true, 19), (true, 20), (true, 21), (true, 22), (true, 23), (false, 24)] (.last 25 (Pl.of [(false, 26)]))) (by kernel_rfl) ?_
        refine SL.mv ⟨rfl, rfl, rfl, rfl⟩ rfl ?_
        refine SL.mv ⟨rfl, rfl, rfl, rfl⟩ rfl ?_
        refine SL.mv ⟨rfl, rfl, rfl, rfl⟩ rfl ?_
        refine SL.iaT 0 hx1 ⟨rfl, rfl, rfl, rfl⟩ ty104 sz22 rfl rfl rfl fun g1 m3 cp1 hv1 => ?_
        refine SL.ld ⟨rfl, rfl, rfl, rfl⟩ sc22 rfl (cell_rowT (sz := 1) (enc := eU32) 0 0 (fun _ => rfl) rfl hv1 hx1 rfl) ?_
        refine SL.bin ⟨rfl, rfl, rfl, rfl⟩ rfl rfl (Bin.shr32 (n := 24)) ?_
        refine SL.cv ⟨rfl, rfl, rfl, rfl⟩ rfl (Cv.u32_8 ty22 ty5) ?_
        refine SL.mv ⟨rfl, rfl, rfl, rfl⟩ rfl ?_
        refine SL.mv ⟨rfl, rfl, rfl, rfl⟩ rfl ?_
        refine SL.iaT 0 hx2 ⟨rfl, rfl, rfl, rfl⟩ ty104 sz22 rfl rfl rfl fun g2 m4 cp2 hv2 => ?_
        refine SL.ld ⟨rfl, rfl, rfl, rfl⟩ sc22 rfl (cell_rowT (sz := 1) (enc := eU32) 0 0 (fun _ => rfl) rfl hv2 hx2 rfl) ?_
        refine SL.bin ⟨rfl, rfl, rfl, rfl⟩ rfl rfl (Bin.shr32 (n := 16)) ?_
        refine SL.cv ⟨rfl, rfl, rfl, rfl⟩ rfl (Cv.u32_8 ty22 ty5) ?_
        refine SL.mv ⟨rfl, rfl, rfl, rfl⟩ rfl ?_
        refine SL.mv ⟨rfl, rfl, rfl, rfl⟩ rfl ?_
        refine SL.iaT 0 hx3 ⟨rfl, rfl, rfl, rfl⟩ ty104 sz22 rfl rfl rfl fun g3 m5 cp3 hv3 => ?_
        refine SL.ld ⟨rfl, rfl, rfl, rfl⟩ sc22 rfl (cell_rowT (sz := 1) (enc := eU32) 0 0 (fun _ => rfl) rfl hv3 hx3 rfl) ?_
        refine SL.bin ⟨rfl, rfl, rfl, rfl⟩ rfl rfl (Bin.shr32 (n := 8)) ?_
        refine SL.cv ⟨rfl, rfl, rfl, rfl⟩ rfl (Cv.u32_8 ty22 ty5) ?_
        refine SL.mv ⟨rfl, rfl, rfl, rfl⟩ rfl ?_
        refine SL.mv ⟨rfl, rfl, rfl, rfl⟩ rfl ?_
        refine SL.iaT 0 hx4 ⟨rfl, rfl, rfl, rfl⟩ ty104 sz22 rfl rfl rfl fun g4 m6 cp4 hv4 => ?_
        refine SL.ld ⟨rfl, rfl, rfl, rfl⟩ sc22 rfl (cell_rowT (sz := 1) (enc := eU32) 0 0 (fun _ => rfl) rfl hv4 hx4 rfl) ?_
        refine SL.cv ⟨rfl, rfl, rfl, rfl⟩ rfl (Cv.u32_8 ty22 ty5) ?_
        refine SL.bsl [_, _, _, _] ⟨rfl, rfl, rfl, rfl⟩ ty41 sz5 ze5 ⟨rfl, rfl, rfl, rfl, trivial⟩ rfl rfl rfl (by simp [Value.cells]) rfl rfl (fun _ => ⟨⟨1, rfl⟩, trivial⟩) fun b1 => ?_
        refine SL.ownT eU8 1 ([(shr32 x1 24).toUInt8, (shr32 x2 16).toUInt8, (shr32 x3 8).toUInt8, x4.toUInt8] : List UInt8) rfl (fun _ => rfl) rfl ?_
        refine SL.last ?_
        refine SL.appT 2 hl5 (sz := 1) (enc := eU8) (fun _ => rfl) ⟨rfl, rfl, rfl, rfl⟩ ty41 sz5 by5 ze5 rfl (by decide) rfl rfl rfl rfl (cells_rowA (sz := 1) (enc := eU8) 0 (fun _ => rfl) rfl) (by simp [eU8, Value.oneCell']) (fun _ => trivial) fun v7 => ?_
        refine SL.asg ⟨rfl, rfl, rfl, rfl⟩ rfl ?_
        refine SL.nil ?_
        refine SQ.blk ?_
        refine SQ.thn ?_
        refine SX.region ?_
        obtain ⟨i_2, ei_2, h⟩ := retE h
        refine SL.mv ⟨rfl, rfl, rfl, rfl⟩ rfl ?_
        refine SL.bin ⟨rfl, rfl, rfl, rfl⟩ rfl rfl Bin.addW ?_
        refine SL.asgX (u := vI i_2) ⟨rfl, rfl, rfl, rfl⟩ rfl (by rw [ei_2]) ?_
        refine SL.nil ?_
        exact SQ.again (m2, l5, v7, i_2) h (Nat.lt_succ_self _) (by repeat' (first | exact trivial | refine And.intro rfl ?_)) (fun _ hw => HpOk.pick (H := [_, _, _]) hw [1, 2] 3 rfl)
      · skip
        replace h := cF hc2 h
        refine SX.exit ?_
        refine SQ.thnE ?_
        refine SQ.lpE ?_
        refine SQ.blkE ?_
        exact SQ.midD (l4, v6) h (by repeat' (first | exact trivial | refine And.intro rfl ?_)) (fun _ hw => HpOk.pick (H := [_, _]) hw [1] 2 rfl)
    · skip
      obtain ⟨l3, v5⟩ := x
      dsimp only at h
      unfold f_ref02_Sum_j2 at h
      refine SX.re [(6, v5)] (rowT 5 1 v5 eU8 l3 :: H) ?_ (by repeat' (first | exact trivial | refine And.intro rfl ?_))
      refine SX.sr ?_
      refine SL.mv ⟨rfl, rfl, rfl, rfl⟩ rfl ?_
      refine SL.btsT 0 ⟨rfl, rfl, rfl, rfl⟩ ty41 ty5 ty9 rfl rfl ?_
      refine SL.asg ⟨rfl, rfl, rfl, rfl⟩ rfl ?_
      refine SL.nx ?_
      refine SX.ret ?_
      obtain rfl := Option.some.inj h
      exact SQ.fret (res1 rfl rfl) (ret_of (M := []) ⟨rfl, rfl⟩ fun _ hw => HpOk.pick (H := [_]) hw [] 1 rfl)

def f_ref03_part_j3 (p1 : UInt8) (l2 : List UInt8) (a2 : Int) (nx_f_ref03_part_l1 : List UInt8 × Int → Option (List UInt8)) (a3 : UInt8) : Option (List UInt8) :=
  (appL 1 l2 [a3 ^^^ p1]).bind fun l3 =>
  ret (wI (a2 + 1)) fun i_1 =>
  nx_f_ref03_part_l1 (l3, i_1)
def f_ref03_part_j2 (l1 : List UInt8) : Option (List UInt8) :=
  some l1
def f_ref03_part_l1_b (p1 : UInt8) (a1 : List UInt8) (nx_f_ref03_part_l1 : List UInt8 × Int → Option (List UInt8)) (l2 : List UInt8) (a2 : Int) : Option (List UInt8) :=
  cond (decide (a2 < 64))
  (
    cond (decide (a2 < (a1.length : Int)))
    (
      (nthI a1 a2).bind fun c1 =>
      f_ref03_part_j3 p1 l2 a2 nx_f_ref03_part_l1 c1)
    (
      f_ref03_part_j3 p1 l2 a2 nx_f_ref03_part_l1 0))
  (
    f_ref03_part_j2 l2)
def f_ref03_part_l1 (p1 : UInt8) (a1 : List UInt8) : Nat → (List UInt8 × Int) → Option (List UInt8) := loopN fun nx x => f_ref03_part_l1_b p1 a1 nx x.1 x.2
def f_ref03_part_j1 (n : Nat) (p1 : UInt8) (a1 : List UInt8) : Option (List UInt8) :=
  f_ref03_part_l1 p1 a1 n ([], 0)
def f_ref03_part (n : Nat) (T : List UInt32) (p0 : List UInt8) (p1 : UInt8) : Option (List UInt8) :=
  cond (decide (64 < (p0.length : Int)))
  (
    (f_ref02_Sum n T p0).bind fun y1 =>
    f_ref03_part_j1 n p1 y1)
  (
    f_ref03_part_j1 n p1 p0)
set_option maxRecDepth 100000 in
theorem c_ref03_part {n : Nat} {T : List UInt32} {p0 : List UInt8} {p1 : UInt8} {r : List UInt8} (h : f_ref03_part n T p0 p1 = some r) (hT : TabN K w0 1 64 T) : Con Tryd.prog K w0 76 [vS p0, vU8 p1] [] H (fun u M => u = vS r ∧ M = []) := by
  unfold f_ref03_part at h
  refine Con.enter Tryd.func76 rfl rfl ?_
  refine SX.sr ?_
  refine SL.asg ⟨rfl, rfl, rfl, rfl⟩ rfl ?_
  refine SL.nx ?_
  refine SX.meetD (α := List UInt8) (fun x => f_ref03_part_j1 n p1 x = some r) (fun x => [(0, vS x), (1, vU8 p1)]) (fun x => H) ?_ (fun a1 D h => ?_)
  · skip
    refine SX.sr ?_
    refine SL.mv ⟨rfl, rfl, rfl, rfl⟩ rfl ?_
    refine SL.lenS ⟨rfl, rfl, rfl, rfl⟩ ty9 rfl ?_
    refine SL.bin ⟨rfl, rfl, rfl, rfl⟩ rfl rfl Bin.gtI ?_
    refine SL.nx ?_
    refine SX.cond rfl (fun hc1 => ?_) (fun hc1 => ?_)
    · skip
      replace h := cT hc1 h
      refine SX.region ?_
      obtain ⟨y1, hy1, h⟩ := bnd h
      refine SL.mv ⟨rfl, rfl, rfl, rfl⟩ rfl ?_
      refine SL.call (vs := [_]) (Hin := []) (Hr := _) ⟨rfl, rfl, rfl, rfl⟩ rfl ⟨rfl, trivial⟩ cal54 rfl rfl (c_ref02_Sum hy1 hT) ?_
      rintro _ _ ⟨rfl, rfl⟩
      refine ⟨trivial, ?_⟩
      refine SL.asg ⟨rfl, rfl, rfl, rfl⟩ rfl ?_
      refine SL.nil ?_
      exact SQ.midD y1 h (by repeat' (first | exact trivial | refine And.intro rfl ?_)) (fun _ hw => HpOk.pick (H := []) hw [] 0 rfl)
    · skip
      replace h := cF hc1 h
      refine SX.skip ?_
      exact SQ.midD p0 h (by repeat' (first | exact trivial | refine And.intro rfl ?_)) (fun _ hw => HpOk.pick (H := []) hw [] 0 rfl)
  · skip
    unfold f_ref03_part_j1 at h
    refine SX.re [(0, vS a1), (1, vU8 p1)] (H) ?_ (by repeat' (first | exact trivial | refine And.intro rfl ?_))
    refine SX.sr ?_
    refine SL.nilT 5 1 eU8 ?_
    refine SL.asg ⟨rfl, rfl, rfl, rfl⟩ rfl ?_
    refine SL.nx ?_
    refine SX.meetD (α := List UInt8 × Value) (fun x => f_ref03_part_j2 x.1 = some r) (fun x => [(5, x.2)]) (fun x => rowT 5 1 x.2 eU8 x.1 :: H) ?_ (fun x D h => ?_)
    · skip
      refine SX.sr ?_
      refine SL.asg ⟨rfl, rfl, rfl, rfl⟩ rfl ?_
      refine SL.nx ?_
      refine SX.block ?_
      refine SX.heap (SX.mono (SX.loop (α := Nat × List UInt8 × Value × Int) (fun x => f_ref03_part_l1 p1 a1 x.1 (x.2.1, x.2.2.2) = some r) (fun x => [(0, vS a1), (1, vU8 p1), (5, x.2.2.1), (6, vI x.2.2.2)]) (fun x => rowT 5 1 x.2.2.1 eU8 x.2.1 :: H) (fun x => x.1) (fun x D h => ?_) (n, [], .slice none 0 0, 0) h) (by repeat' (first | exact trivial | refine And.intro rfl ?_))) (fun _ hw => HpOk.pick (H := [_]) hw [0] 1 rfl)
      obtain ⟨m1, l2, v2, a2⟩ := x
      dsimp only at h
      rcases m1 with _ | m1
      · cases (show (none : Option _) = some r from h)
      replace h : f_ref03_part_l1_b p1 a1 (f_ref03_part_l1 p1 a1 m1) l2 a2 = some r := h
      unfold f_ref03_part_l1_b at h
      refine SX.re [(0, vS a1), (1, vU8 p1), (5, v2), (6, vI a2)] (rowT 5 1 v2 eU8 l2 :: H) ?_ (by repeat' (first | exact trivial | refine And.intro rfl ?_))
      refine SX.seq ?_
      refine SX.sr ?_
      refine SL.mv ⟨rfl, rfl, rfl, rfl⟩ rfl ?_
      refine SL.bin ⟨rfl, rfl, rfl, rfl⟩ rfl rfl Bin.ltI ?_
      refine SL.nx ?_
      refine SX.cond rfl (fun hc2 => ?_) (fun hc2 => ?_)
      · skip
        replace h := cT hc2 h
        refine SX.skip ?_
        refine SQ.thn ?_
        refine SX.seq ?_
        refine SX.block ?_
        refine SX.sr ?_
        refine SL.asg ⟨rfl, rfl, rfl, rfl⟩ rfl ?_
        refine SL.nx ?_
        refine SX.meetD (α := UInt8) (fun x => f_ref03_part_j3 p1 l2 a2 (f_ref03_part_l1 p1 a1 m1) x = some r) (fun x => [(0, vS a1), (1, vU8 p1), (5, v2), (6, vI a2), (7, vU8 x)]) (fun x => rowT 5 1 v2 eU8 l2 :: H) ?_ (fun a3 D h => ?_)
        · skip
          refine SX.sr ?_
          refine SL.mv ⟨rfl, rfl, rfl, rfl⟩ rfl ?_
          refine SL.mv ⟨rfl, rfl, rfl, rfl⟩ rfl ?_
          refine SL.lenS ⟨rfl, rfl, rfl, rfl⟩ ty9 rfl ?_
          refine SL.bin ⟨rfl, rfl, rfl, rfl⟩ rfl rfl Bin.ltI ?_
          refine SL.nx ?_
          refine SX.cond rfl (fun hc3 => ?_) (fun hc3 => ?_)
          · skip
            replace h := cT hc3 h
            refine SX.region ?_
            obtain ⟨c1, hc1, h⟩ := bnd h
            refine SL.mv ⟨rfl, rfl, rfl, rfl⟩ rfl ?_
            refine SL.mv ⟨rfl, rfl, rfl, rfl⟩ rfl ?_
            refine SL.ixN hc1 ⟨rfl, rfl, rfl, rfl⟩ ty9 rfl rfl ?_
            refine SL.asg ⟨rfl, rfl, rfl, rfl⟩ rfl ?_
            refine SL.nil ?_
            exact SQ.midD c1 h (by repeat' (first | exact trivial | refine And.intro rfl ?_)) (fun _ hw => HpOk.pick (H := [_]) hw [0] 1 rfl)
          · skip
            replace h := cF hc3 h
            refine SX.skip ?_
            exact SQ.midD 0 h (by repeat' (first | exact trivial | refine And.intro rfl ?_)) (fun _ hw => HpOk.pick (H := [_]) hw [0] 1 rfl)
        · skip
          unfold f_ref03_part_j3 at h
          refine SX.re [(0, vS a1), (1, vU8 p1), (5, v2), (6, vI a2), (7, vU8 a3)] (rowT 5 1 v2 eU8 l2 :: H) ?_ (by repeat' (first | exact trivial | refine And.intro rfl ?_))
          refine SX.region ?_
          obtain ⟨l3, hl3, h⟩ := bnd h
          refine SL.mv ⟨rfl, rfl, rfl, rfl⟩ rfl ?_
          refine SL.mv ⟨rfl, rfl, rfl, rfl⟩ rfl ?_
          refine SL.mv ⟨rfl, rfl, rfl, rfl⟩ rfl ?_
          refine SL.bin ⟨rfl, rfl, rfl, rfl⟩ rfl rfl Bin.xor8 ?_
          refine SL.bsl [_] ⟨rfl, rfl, rfl, rfl⟩ ty41 sz5 ze5 ⟨rfl, trivial⟩ rfl rfl rfl (by simp [Value.cells]) rfl rfl (fun _ => trivial) fun b1 => ?_
          refine SL.ownT eU8 1 ([a3 ^^^ p1] : List UInt8) rfl (fun _ => rfl) rfl ?_
          refine SL.appT 1 hl3 (sz := 1) (enc := eU8) (fun _ => rfl) ⟨rfl, rfl, rfl, rfl⟩ ty41 sz5 by5 ze5 rfl (by decide) rfl rfl rfl rfl (cells_rowA (sz := 1) (enc := eU8) 0 (fun _ => rfl) rfl) (by simp [eU8, Value.oneCell']) (fun _ => trivial) fun v3 => ?_
          refine SL.asg ⟨rfl, rfl, rfl, rfl⟩ rfl ?_
          refine SL.nil ?_
          refine SQ.blk ?_
          refine SQ.thn ?_
          refine SX.region ?_
          obtain ⟨i_1, ei_1, h⟩ := retE h
          refine SL.mv ⟨rfl, rfl, rfl, rfl⟩ rfl ?_
          refine SL.bin ⟨rfl, rfl, rfl, rfl⟩ rfl rfl Bin.addW ?_
          refine SL.asgX (u := vI i_1) ⟨rfl, rfl, rfl, rfl⟩ rfl (by rw [ei_1]) ?_
          refine SL.nil ?_
          exact SQ.again (m1, l3, v3, i_1) h (Nat.lt_succ_self _) (by repeat' (first | exact trivial | refine And.intro rfl ?_)) (fun _ hw => HpOk.pick (H := [_, _]) hw [1] 2 rfl)
      · skip
        replace h := cF hc2 h
        refine SX.exit ?_
        refine SQ.thnE ?_
        refine SQ.lpE ?_
        refine SQ.blkE ?_
        exact SQ.midD (l2, v2) h (by repeat' (first | exact trivial | refine And.intro rfl ?_)) (fun _ hw => HpOk.pick (H := [_]) hw [0] 1 rfl)
    · skip
      obtain ⟨l1, v1⟩ := x
      dsimp only at h
      unfold f_ref03_part_j2 at h
      refine SX.re [(5, v1)] (rowT 5 1 v1 eU8 l1 :: H) ?_ (by repeat' (first | exact trivial | refine And.intro rfl ?_))
      refine SX.sr ?_
      refine SL.mv ⟨rfl, rfl, rfl, rfl⟩ rfl ?_
      refine SL.btsT 0 ⟨rfl, rfl, rfl, rfl⟩ ty41 ty5 ty9 rfl rfl ?_
      refine SL.asg ⟨rfl, rfl, rfl, rfl⟩ rfl ?_
      refine SL.nx ?_
      refine SX.ret ?_
      obtain rfl := Option.some.inj h
      exact SQ.fret (res1 rfl rfl) (ret_of (M := []) ⟨rfl, rfl⟩ fun _ hw => HpOk.pick (H := [_]) hw [] 1 rfl)

def f_ref03_Texts (n : Nat) (T : List UInt32) (p0 : List UInt8) (p1 : List UInt8) : Option (List (List UInt8)) :=
  (f_ref03_part n T p0 54).bind fun y1 =>
  (catS y1 p1).bind fun s1 =>
  (f_ref03_part n T p0 92).bind fun y2 =>
  (f_ref02_Sum n T s1).bind fun y3 =>
  (catS y2 y3).bind fun s2 =>
  some [s1, s2]
set_option maxRecDepth 100000 in
theorem c_ref03_Texts {n : Nat} {T : List UInt32} {p0 : List UInt8} {p1 : List UInt8} {r : List (List UInt8)} (h : f_ref03_Texts n T p0 p1 = some r) (hT : TabN K w0 1 64 T) : Con Tryd.prog K w0 55 [vS p0, vS p1] [] H (fun u M => ∃ v0 : Value, u = v0 ∧ M = [rowT 9 1 v0 eS r]) := by
  unfold f_ref03_Texts at h
  refine Con.enter Tryd.func55 rfl rfl ?_
  refine SX.sr ?_
  refine SL.nilT 9 1 eS ?_
  refine SL.asg ⟨rfl, rfl, rfl, rfl⟩ rfl ?_
  refine SL.nx ?_
  refine SX.sr ?_
  obtain ⟨y1, hy1, h⟩ := bnd h
  obtain ⟨s1, hs1, h⟩ := bnd h
  refine SL.mv ⟨rfl, rfl, rfl, rfl⟩ rfl ?_
  refine SL.call (vs := [_, vU8 54]) (Hin := []) (Hr := _ :: _) ⟨rfl, rfl, rfl, rfl⟩ rfl ⟨rfl, rfl, trivial⟩ cal76 rfl rfl (c_ref03_part hy1 hT) ?_
  rintro _ _ ⟨rfl, rfl⟩
  refine ⟨trivial, ?_⟩
  refine SL.mv ⟨rfl, rfl, rfl, rfl⟩ rfl ?_
  refine SL.bin ⟨rfl, rfl, rfl, rfl⟩ rfl rfl (Bin.catO hs1) ?_
  refine SL.asg ⟨rfl, rfl, rfl, rfl⟩ rfl ?_
  refine SL.nx ?_
  refine SX.sr ?_
  obtain ⟨y2, hy2, h⟩ := bnd h
  obtain ⟨y3, hy3, h⟩ := bnd h
  obtain ⟨s2, hs2, h⟩ := bnd h
  refine SL.mv ⟨rfl, rfl, rfl, rfl⟩ rfl ?_
  refine SL.mv ⟨rfl, rfl, rfl, rfl⟩ rfl ?_
  refine SL.call (vs := [_, vU8 92]) (Hin := []) (Hr := _ :: _) ⟨rfl, rfl, rfl, rfl⟩ rfl ⟨rfl, rfl, trivial⟩ cal76 rfl rfl (c_ref03_part hy2 hT) ?_
  rintro _ _ ⟨rfl, rfl⟩
  refine ⟨trivial, ?_⟩
  refine SL.mv ⟨rfl, rfl, rfl, rfl⟩ rfl ?_
  refine SL.call (vs := [_]) (Hin := []) (Hr := _ :: _) ⟨rfl, rfl, rfl, rfl⟩ rfl ⟨rfl, trivial⟩ cal54 rfl rfl (c_ref02_Sum hy3 hT) ?_
  rintro _ _ ⟨rfl, rfl⟩
  refine ⟨trivial, ?_⟩
  refine SL.bin ⟨rfl, rfl, rfl, rfl⟩ rfl rfl (Bin.catO hs2) ?_
  refine SL.bsl [_, _] ⟨rfl, rfl, rfl, rfl⟩ ty83 sz9 ze9 ⟨rfl, rfl, trivial⟩ rfl rfl rfl (by simp [Value.cells]) rfl rfl (fun _ => trivial) fun b1 => ?_
  refine SL.ownT eS 1 ([s1, s2] : List (List UInt8)) rfl (fun _ => rfl) rfl ?_
  refine SL.asg ⟨rfl, rfl, rfl, rfl⟩ rfl ?_
  refine SL.nx ?_
  refine SX.ret ?_
  obtain rfl := Option.some.inj h
  exact SQ.fret (res1 rfl rfl) (ret_of (M := [_]) ⟨(.slice (some ⟨b1, 0, none⟩) 2 2), rfl, rfl⟩ fun _ hw => HpOk.pick (H := [_, _]) hw [0] 2 rfl)

def f_ref03_Mac (n : Nat) (T : List UInt32) (p0 : List UInt8) (p1 : List UInt8) : Option (List UInt8) :=
  (f_ref03_Texts n T p0 p1).bind fun y1 =>
  (nthI y1 1).bind fun x1 =>
  (f_ref02_Sum n T x1).bind fun y2 =>
  some y2
set_option maxRecDepth 100000 in
theorem c_ref03_Mac {n : Nat} {T : List UInt32} {p0 : List UInt8} {p1 : List UInt8} {r : List UInt8} (h : f_ref03_Mac n T p0 p1 = some r) (hT : TabN K w0 1 64 T) : Con Tryd.prog K w0 37 [vS p0, vS p1] [] H (fun u M => u = vS r ∧ M = []) := by
  unfold f_ref03_Mac at h
  refine Con.enter Tryd.func37 rfl rfl ?_
  refine SX.sr ?_
  refine SL.asg ⟨rfl, rfl, rfl, rfl⟩ rfl ?_
  refine SL.nx ?_
  refine SX.sr ?_
  obtain ⟨y1, hy1, h⟩ := bnd h
  obtain ⟨x1, hx1, h⟩ := bnd h
  obtain ⟨y2, hy2, h⟩ := bnd h
  refine SL.mv ⟨rfl, rfl, rfl, rfl⟩ rfl ?_
  refine SL.mv ⟨rfl, rfl, rfl, rfl⟩ rfl ?_
  refine SL.call (vs := [_, _]) (Hin := []) (Hr := _) ⟨rfl, rfl, rfl, rfl⟩ rfl ⟨rfl, rfl, trivial⟩ cal55 rfl rfl (c_ref03_Texts hy1 hT) ?_
  rintro v1 _ ⟨_, rfl, rfl⟩
  refine ⟨trivial, ?_⟩
  refine SL.iaT 0 hx1 ⟨rfl, rfl, rfl, rfl⟩ ty83 sz9 rfl rfl rfl fun g1 m1 cp1 hv1 => ?_
  refine SL.ld ⟨rfl, rfl, rfl, rfl⟩ sc9 rfl (cell_rowT (sz := 1) (enc := eS) 0 0 (fun _ => rfl) rfl hv1 hx1 rfl) ?_
  refine SL.call (vs := [_]) (Hin := []) (Hr := _ :: _) ⟨rfl, rfl, rfl, rfl⟩ rfl ⟨rfl, trivial⟩ cal54 rfl rfl (c_ref02_Sum hy2 hT) ?_
  rintro _ _ ⟨rfl, rfl⟩
  refine ⟨trivial, ?_⟩
  refine SL.asg ⟨rfl, rfl, rfl, rfl⟩ rfl ?_
  refine SL.nx ?_
  refine SX.ret ?_
  obtain rfl := Option.some.inj h
  exact SQ.fret (res1 rfl rfl) (ret_of (M := []) ⟨rfl, rfl⟩ fun _ hw => HpOk.pick (H := [_]) hw [] 1 rfl)

def f_ref03_Expand_j1 (p2 : Int) (a1 : List UInt8) : Option (List UInt8 × Int) :=
  (slcI a1 0 p2).bind fun s4 =>
  some (s4, 0)
def f_ref03_Expand_l1_b (n : Nat) (T : List UInt32) (p0 : List UInt8) (p1 : List UInt8) (p2 : Int) (nx_f_ref03_Expand_l1 : List UInt8 × List UInt8 × Int → Option (List UInt8 × Int)) (a2 : List UInt8) (a3 : List UInt8) (a4 : Int) : Option (List UInt8 × Int) :=
  cond (decide ((a2.length : Int) < p2))
  (
    (catS a3 p1).bind fun s1 =>
    (catS s1 [toU8 a4]).bind fun s2 =>
    (f_ref03_Mac n T p0 s2).bind fun y1 =>
    (catS a2 y1).bind fun s3 =>
    ret (wI (a4 + 1)) fun i_1 =>
    nx_f_ref03_Expand_l1 (s3, y1, i_1))
  (
    f_ref03_Expand_j1 p2 a2)
def f_ref03_Expand_l1 (n : Nat) (T : List UInt32) (p0 : List UInt8) (p1 : List UInt8) (p2 : Int) : Nat → (List UInt8 × List UInt8 × Int) → Option (List UInt8 × Int) := loopN fun nx x => f_ref03_Expand_l1_b n T p0 p1 p2 nx x.1 x.2.1 x.2.2
def f_ref03_Expand (n : Nat) (T : List UInt32) (p0 : List UInt8) (p1 : List UInt8) (p2 : Int) : Option (List UInt8 × Int) :=
  cond ((decide (p2 < 0)) || (decide (8160 < p2)))
  (
    some ([], 2))
  (
    f_ref03_Expand_l1 n T p0 p1 p2 n ([], [], 1))
set_option maxRecDepth 100000 in
theorem c_ref03_Expand {n : Nat} {T : List UInt32} {p0 : List UInt8} {p1 : List UInt8} {p2 : Int} {r : List UInt8 × Int} (h : f_ref03_Expand n T p0 p1 p2 = some r) (hT : TabN K w0 1 64 T) : Con Tryd.prog K w0 53 [vS p0, vS p1, vI p2] [] H (fun u M => u = .tuple #[vS r.1, vI r.2] ∧ M = []) := by
  unfold f_ref03_Expand at h
  refine Con.enter Tryd.func53 rfl rfl ?_
  refine SX.sr ?_
  refine SL.asg ⟨rfl, rfl, rfl, rfl⟩ rfl ?_
  refine SL.asg ⟨rfl, rfl, rfl, rfl⟩ rfl ?_
  refine SL.nx ?_
  refine SX.seq ?_
  refine SX.sr ?_
  refine SL.mv ⟨rfl, rfl, rfl, rfl⟩ rfl ?_
  refine SL.bin ⟨rfl, rfl, rfl, rfl⟩ rfl rfl Bin.ltI ?_
  refine SL.mv ⟨rfl, rfl, rfl, rfl⟩ rfl ?_
  refine SL.or (c := decide (8160 < p2)) 13 3 16 rfl (fun hb k => ?_) (fun hb k => ?_) ?_
  · skip
    refine SL.pass rfl rfl rfl ?_
    refine SL.pass rfl rfl rfl ?_
    refine SL.pk ⟨rfl, rfl, rfl, rfl⟩ rfl rfl ?_
    exact k.mono (by repeat' (first | exact trivial | refine And.intro rfl ?_))
  · skip
    refine SL.mv ⟨rfl, rfl, rfl, rfl⟩ rfl ?_
    refine SL.bin ⟨rfl, rfl, rfl, rfl⟩ rfl rfl Bin.gtI ?_
    refine SL.pk ⟨rfl, rfl, rfl, rfl⟩ rfl rfl ?_
    exact k.mono (by repeat' (first | exact trivial | refine And.intro rfl ?_))
  refine SL.nx ?_
  refine SX.cond rfl (fun hc1 => ?_) (fun hc1 => ?_)
  · skip
    replace h := cT hc1 h
    refine SX.sr ?_
    refine SL.asg ⟨rfl, rfl, rfl, rfl⟩ rfl ?_
    refine SL.asg ⟨rfl, rfl, rfl, rfl⟩ rfl ?_
    refine SL.nx ?_
    refine SX.ret ?_
    refine SQ.thnR ?_
    obtain rfl := Option.some.inj h
    exact SQ.fret (res2 rfl rfl rfl) (ret_of (M := []) ⟨rfl, rfl⟩ fun _ hw => HpOk.pick (H := []) hw [] 0 rfl)
  · skip
    replace h := cF hc1 h
    refine SX.skip ?_
    refine SQ.thn ?_
    refine SX.sr ?_
    refine SL.asg ⟨rfl, rfl, rfl, rfl⟩ rfl ?_
    refine SL.nx ?_
    refine SX.sr ?_
    refine SL.asg ⟨rfl, rfl, rfl, rfl⟩ rfl ?_
    refine SL.nx ?_
    refine SX.meetD (α := List UInt8) (fun x => f_ref03_Expand_j1 p2 x = some r) (fun x => [(2, vI p2), (8, vS x)]) (fun x => H) ?_ (fun a1 D h => ?_)
    · skip
      refine SX.sr ?_
      refine SL.asg ⟨rfl, rfl, rfl, rfl⟩ rfl ?_
      refine SL.nx ?_
      refine SX.block ?_
      refine SX.heap (SX.mono (SX.loop (α := Nat × List UInt8 × List UInt8 × Int) (fun x => f_ref03_Expand_l1 n T p0 p1 p2 x.1 (x.2.1, x.2.2.1, x.2.2.2) = some r) (fun x => [(0, vS p0), (1, vS p1), (2, vI p2), (8, vS x.2.1), (9, vS x.2.2.1), (10, vI x.2.2.2)]) (fun x => H) (fun x => x.1) (fun x D h => ?_) (n, [], [], 1) h) (by repeat' (first | exact trivial | refine And.intro rfl ?_))) (fun _ hw => HpOk.pick (H := []) hw [] 0 rfl)
      obtain ⟨m1, a2, a3, a4⟩ := x
      dsimp only at h
      rcases m1 with _ | m1
      · cases (show (none : Option _) = some r from h)
      replace h : f_ref03_Expand_l1_b n T p0 p1 p2 (f_ref03_Expand_l1 n T p0 p1 p2 m1) a2 a3 a4 = some r := h
      unfold f_ref03_Expand_l1_b at h
      refine SX.re [(0, vS p0), (1, vS p1), (2, vI p2), (8, vS a2), (9, vS a3), (10, vI a4)] (H) ?_ (by repeat' (first | exact trivial | refine And.intro rfl ?_))
      refine SX.seq ?_
      refine SX.sr ?_
      refine SL.mv ⟨rfl, rfl, rfl, rfl⟩ rfl ?_
      refine SL.lenS ⟨rfl, rfl, rfl, rfl⟩ ty9 rfl ?_
      refine SL.mv ⟨rfl, rfl, rfl, rfl⟩ rfl ?_
      refine SL.bin ⟨rfl, rfl, rfl, rfl⟩ rfl rfl Bin.ltI ?_
      refine SL.nx ?_
      refine SX.cond rfl (fun hc2 => ?_) (fun hc2 => ?_)
      · skip
        replace h := cT hc2 h
        refine SX.skip ?_
        refine SQ.thn ?_
        refine SX.seq ?_
        refine SX.block ?_
        refine SX.sr ?_
        obtain ⟨s1, hs1, h⟩ := bnd h
        obtain ⟨s2, hs2, h⟩ := bnd h
        obtain ⟨y1, hy1, h⟩ := bnd h
        refine SL.mv ⟨rfl, rfl, rfl, rfl⟩ rfl ?_
        refine SL.mv ⟨rfl, rfl, rfl, rfl⟩ rfl ?_
        refine SL.mv ⟨rfl, rfl, rfl, rfl⟩ rfl ?_
        refine SL.bin ⟨rfl, rfl, rfl, rfl⟩ rfl rfl (Bin.catO hs1) ?_
        refine SL.mv ⟨rfl, rfl, rfl, rfl⟩ rfl ?_
        refine SL.cv ⟨rfl, rfl, rfl, rfl⟩ rfl (Cv.i_8 ty3 ty5) ?_
        refine SL.bsl [_] ⟨rfl, rfl, rfl, rfl⟩ ty41 sz5 ze5 ⟨rfl, trivial⟩ rfl rfl rfl (by simp [Value.cells]) rfl rfl (fun _ => trivial) fun b1 => ?_
        refine SL.ownT eU8 1 ([toU8 a4] : List UInt8) rfl (fun _ => rfl) rfl ?_
        refine SL.btsT 0 ⟨rfl, rfl, rfl, rfl⟩ ty41 ty5 ty9 rfl rfl ?_
        refine SL.bin ⟨rfl, rfl, rfl, rfl⟩ rfl rfl (Bin.catO hs2) ?_
        refine SL.call (vs := [_, _]) (Hin := []) (Hr := _ :: _) ⟨rfl, rfl, rfl, rfl⟩ rfl ⟨rfl, rfl, trivial⟩ cal37 rfl rfl (c_ref03_Mac hy1 hT) ?_
        rintro _ _ ⟨rfl, rfl⟩
        refine ⟨trivial, ?_⟩
        refine SL.asg ⟨rfl, rfl, rfl, rfl⟩ rfl ?_
        refine SL.nx ?_
        refine SX.region ?_
        obtain ⟨s3, hs3, h⟩ := bnd h
        refine SL.mv ⟨rfl, rfl, rfl, rfl⟩ rfl ?_
        refine SL.mv ⟨rfl, rfl, rfl, rfl⟩ rfl ?_
        refine SL.bin ⟨rfl, rfl, rfl, rfl⟩ rfl rfl (Bin.catO hs3) ?_
        refine SL.asg ⟨rfl, rfl, rfl, rfl⟩ rfl ?_
        refine SL.nil ?_
        refine SQ.blk ?_
        refine SQ.thn ?_
        refine SX.region ?_
        obtain ⟨i_1, ei_1, h⟩ := retE h
        refine SL.mv ⟨rfl, rfl, rfl, rfl⟩ rfl ?_
        refine SL.bin ⟨rfl, rfl, rfl, rfl⟩ rfl rfl Bin.addW ?_
        refine SL.asgX (u := vI i_1) ⟨rfl, rfl, rfl, rfl⟩ rfl (by rw [ei_1]) ?_
        refine SL.nil ?_
        exact SQ.again (m1, s3, y1, i_1) h (Nat.lt_succ_self _) (by repeat' (first | exact trivial | refine And.intro rfl ?_)) (fun _ hw => HpOk.pick (H := [_]) hw [] 1 rfl)
      · skip
        replace h := cF hc2 h
        refine SX.exit ?_
        refine SQ.thnE ?_
        refine SQ.lpE ?_
        refine SQ.blkE ?_
        exact SQ.midD a2 h (by repeat' (first | exact trivial | refine And.intro rfl ?_)) (fun _ hw => HpOk.pick (H := []) hw [] 0 rfl)
    · skip
      unfold f_ref03_Expand_j1 at h
      refine SX.re [(2, vI p2), (8, vS a1)] (H) ?_ (by repeat' (first | exact trivial | refine And.intro rfl ?_))
      refine SX.sr ?_
      obtain ⟨s4, hs4, h⟩ := bnd h
      refine SL.mv ⟨rfl, rfl, rfl, rfl⟩ rfl ?_
      refine SL.mv ⟨rfl, rfl, rfl, rfl⟩ rfl ?_
      refine SL.slNh hs4 ⟨rfl, rfl, rfl, rfl⟩ ty9 rfl rfl ?_
      refine SL.asg ⟨rfl, rfl, rfl, rfl⟩ rfl ?_
      refine SL.asg ⟨rfl, rfl, rfl, rfl⟩ rfl ?_
      refine SL.nx ?_
      refine SX.ret ?_
      obtain rfl := Option.some.inj h
      exact SQ.fret (res2 rfl rfl rfl) (ret_of (M := []) ⟨rfl, rfl⟩ fun _ hw => HpOk.pick (H := []) hw [] 0 rfl)


end Go.Proofs.YtnpnmdbleopikaaDoor

/- Plain functions of the references and the laws, printed from the loaded program, and the walks that show that the program computes them. Condition: the plain function yields. -/
namespace Go.Proofs.YtnpnmdbleopikaaDoor
open Go
variable {K : Nat → Prop} {w0 : World} {H : List Chunk}

def f_ref04_Right_j1 : Option Bool :=
  some true
def f_ref04_Right_l1_b (p0 : List KeyA) (nx_f_ref04_Right_l1 : UInt32 × Int → Option Bool) (a1 : UInt32) (a2 : Int) : Option Bool :=
  cond (decide (a2 < (p0.length : Int)))
  (
    (nthI p0 a2).bind fun x1 =>
    (orO (decide (x1.gen ≤ a1)) ((nthI p0 a2).bind fun x2 => some (!decide ((x2.secret.length : Int) = 32)))).bind fun y1 =>
    cond y1
    (
      some false)
    (
      (nthI p0 a2).bind fun x3 =>
      ret (wI (a2 + 1)) fun i_1 =>
      nx_f_ref04_Right_l1 (x3.gen, i_1)))
  (
    f_ref04_Right_j1)
def f_ref04_Right_l1 (p0 : List KeyA) : Nat → (UInt32 × Int) → Option Bool := loopN fun nx x => f_ref04_Right_l1_b p0 nx x.1 x.2
def f_ref04_Right (n : Nat) (p0 : List KeyA) : Option Bool :=
  cond (decide (16 < (p0.length : Int)))
  (
    some false)
  (
    f_ref04_Right_l1 p0 n (0, 0))
set_option maxRecDepth 100000 in
theorem c_ref04_Right {n : Nat} {v0_ : Value} {p0 : List KeyA} {r : Bool} (h : f_ref04_Right n p0 = some r) (hs0_ : SlOf K w0 encKey 2 v0_ p0) : Con Tryd.prog K w0 41 [v0_] [] H (fun u M => u = vB r ∧ M = []) := by
  unfold f_ref04_Right at h
  refine Con.enter Tryd.func41 rfl rfl ?_
  refine SX.sr ?_
  refine SL.asg ⟨rfl, rfl, rfl, rfl⟩ rfl ?_
  refine SL.nx ?_
  refine SX.seq ?_
  refine SX.sr ?_
  refine SL.mv ⟨rfl, rfl, rfl, rfl⟩ rfl ?_
  refine SL.lenV hs0_ ⟨rfl, rfl, rfl, rfl⟩ ty32 rfl ?_
  refine SL.bin ⟨rfl, rfl, rfl, rfl⟩ rfl rfl Bin.gtI ?_
  refine SL.nx ?_
  refine SX.cond rfl (fun hc1 => ?_) (fun hc1 => ?_)
  · skip
    replace h := cT hc1 h
    refine SX.sr ?_
    refine SL.asg ⟨rfl, rfl, rfl, rfl⟩ rfl ?_
    refine SL.nx ?_
    refine SX.ret ?_
    refine SQ.thnR ?_
    obtain rfl := Option.some.inj h
    exact SQ.fret (res1 rfl rfl) (ret_of (M := []) ⟨rfl, rfl⟩ fun _ hw => HpOk.pick (H := []) hw [] 0 rfl)
  · skip
    replace h := cF hc1 h
    refine SX.skip ?_
    refine SQ.thn ?_
    refine SX.sr ?_
    refine SL.asg ⟨rfl, rfl, rfl, rfl⟩ rfl ?_
    refine SL.nx ?_
    refine SX.meetD (α := Unit) (fun x => f_ref04_Right_j1 = some r) (fun x => []) (fun x => H) ?_ (fun x D h => ?_)
    · skip
      refine SX.sr ?_
      refine SL.asg ⟨rfl, rfl, rfl, rfl⟩ rfl ?_
      refine SL.nx ?_
      refine SX.block ?_
      refine SX.heap (SX.mono (SX.loop (α := Nat × UInt32 × Int) (fun x => f_ref04_Right_l1 p0 x.1 (x.2.1, x.2.2) = some r) (fun x => [(0, v0_), (3, vU32 x.2.1), (4, vI x.2.2)]) (fun x => H) (fun x => x.1) (fun x D h => ?_) (n, 0, 0) h) (by repeat' (first | exact trivial | refine And.intro rfl ?_))) (fun _ hw => HpOk.pick (H := []) hw [] 0 rfl)
      obtain ⟨m1, a1, a2⟩ := x
      dsimp only at h
      rcases m1 with _ | m1
      · cases (show (none : Option _) = some r from h)
      replace h : f_ref04_Right_l1_b p0 (f_ref04_Right_l1 p0 m1) a1 a2 = some r := h
      unfold f_ref04_Right_l1_b at h
      refine SX.re [(0, v0_), (3, vU32 a1), (4, vI a2)] (H) ?_ (by repeat' (first | exact trivial | refine And.intro rfl ?_))
      refine SX.seq ?_
      refine SX.sr ?_
      refine SL.mv ⟨rfl, rfl, rfl, rfl⟩ rfl ?_
      refine SL.mv ⟨rfl, rfl, rfl, rfl⟩ rfl ?_
      refine SL.lenV hs0_ ⟨rfl, rfl, rfl, rfl⟩ ty32 rfl ?_
      refine SL.bin ⟨rfl, rfl, rfl, rfl⟩ rfl rfl Bin.ltI ?_
      refine SL.nx ?_
      refine SX.cond rfl (fun hc2 => ?_) (fun hc2 => ?_)
      · skip
        replace h := cT hc2 h
        refine SX.skip ?_
        refine SQ.thn ?_
        refine SX.seq ?_
        refine SX.block ?_
        refine SX.seq ?_
        refine SX.sr ?_
        obtain ⟨x1, hx1, h⟩ := bnd h
        obtain ⟨y1, hy1, h⟩ := bnd h
        refine SL.mv ⟨rfl, rfl, rfl, rfl⟩ rfl ?_
        refine SL.mv ⟨rfl, rfl, rfl, rfl⟩ rfl ?_
        refine SL.iaN hx1 hs0_ ⟨rfl, rfl, rfl, rfl⟩ ty32 sz44 rfl rfl fun be1 of1 hc3 => ?_
        refine SL.fa ⟨rfl, rfl, rfl, rfl⟩ rfl fo44_0 ?_
        refine SL.ld ⟨rfl, rfl, rfl, rfl⟩ sc22 rfl (cell_kept (j := 0) hc3 rfl) ?_
        refine SL.mv ⟨rfl, rfl, rfl, rfl⟩ rfl ?_
        refine SL.bin ⟨rfl, rfl, rfl, rfl⟩ rfl rfl Bin.le32 ?_
        refine SL.mv ⟨rfl, rfl, rfl, rfl⟩ rfl ?_
        refine SL.orN 21 8 29 hy1 rfl (fun hb k => ?_) (fun hb hg1 k => ?_) ?_
        · skip
          refine SL.pass rfl rfl rfl ?_
          refine SL.pass rfl rfl rfl ?_
          refine SL.pass rfl rfl rfl ?_
          refine SL.pass rfl rfl rfl ?_
          refine SL.pass rfl rfl rfl ?_
          refine SL.pass rfl rfl rfl ?_
          refine SL.pass rfl rfl rfl ?_
          refine SL.pk ⟨rfl, rfl, rfl, rfl⟩ rfl rfl ?_
          exact k.mono (by repeat' (first | exact trivial | refine And.intro rfl ?_))
        · skip
          obtain ⟨x2, hx2, hg1⟩ := bnd hg1
          obtain rfl := Option.some.inj hg1
          refine SL.mv ⟨rfl, rfl, rfl, rfl⟩ rfl ?_
          refine SL.mv ⟨rfl, rfl, rfl, rfl⟩ rfl ?_
          refine SL.iaN hx2 hs0_ ⟨rfl, rfl, rfl, rfl⟩ ty32 sz44 rfl rfl fun be2 of2 hc4 => ?_
          refine SL.fa ⟨rfl, rfl, rfl, rfl⟩ rfl fo44_1 ?_
          refine SL.ld ⟨rfl, rfl, rfl, rfl⟩ sc9 rfl (cell_kept (j := 1) hc4 rfl) ?_
          refine SL.lenS ⟨rfl, rfl, rfl, rfl⟩ ty9 rfl ?_
          refine SL.bin ⟨rfl, rfl, rfl, rfl⟩ rfl rfl Bin.neI ?_
          refine SL.pk ⟨rfl, rfl, rfl, rfl⟩ rfl rfl ?_
          exact k.mono (by repeat' (first | exact trivial | refine And.intro rfl ?_))
        refine SL.nx ?_
        refine SX.cond rfl (fun hc5 => ?_) (fun hc5 => ?_)
        · skip
          replace h := cT hc5 h
          refine SX.sr ?_
          refine SL.asg ⟨rfl, rfl, rfl, rfl⟩ rfl ?_
          refine SL.nx ?_
          refine SX.ret ?_
          refine SQ.thnR ?_
          refine SQ.blkR ?_
          refine SQ.thnR ?_
          refine SQ.lpR ?_
          refine SQ.blkR ?_
          refine SQ.midDR ?_
          obtain rfl := Option.some.inj h
          exact SQ.fret (res1 rfl rfl) (ret_of (M := []) ⟨rfl, rfl⟩ fun _ hw => HpOk.pick (H := []) hw [] 0 rfl)
        · skip
          replace h := cF hc5 h
          refine SX.skip ?_
          refine SQ.thn ?_
          refine SX.region ?_
          obtain ⟨x3, hx3, h⟩ := bnd h
          refine SL.mv ⟨rfl, rfl, rfl, rfl⟩ rfl ?_
          refine SL.mv ⟨rfl, rfl, rfl, rfl⟩ rfl ?_
          refine SL.iaN hx3 hs0_ ⟨rfl, rfl, rfl, rfl⟩ ty32 sz44 rfl rfl fun be3 of3 hc6 => ?_
          refine SL.fa ⟨rfl, rfl, rfl, rfl⟩ rfl fo44_0 ?_
          refine SL.ld ⟨rfl, rfl, rfl, rfl⟩ sc22 rfl (cell_kept (j := 0) hc6 rfl) ?_
          refine SL.asg ⟨rfl, rfl, rfl, rfl⟩ rfl ?_
          refine SL.nil ?_
          refine SQ.blk ?_
          refine SQ.thn ?_
          refine SX.region ?_
          obtain ⟨i_1, ei_1, h⟩ := retE h
          refine SL.mv ⟨rfl, rfl, rfl, rfl⟩ rfl ?_
          refine SL.bin ⟨rfl, rfl, rfl, rfl⟩ rfl rfl Bin.addW ?_
          refine SL.asgX (u := vI i_1) ⟨rfl, rfl, rfl, rfl⟩ rfl (by rw [ei_1]) ?_
          refine SL.nil ?_
          exact SQ.again (m1, x3.gen, i_1) h (Nat.lt_succ_self _) (by repeat' (first | exact trivial | refine And.intro rfl ?_)) (fun _ hw => HpOk.pick (H := []) hw [] 0 rfl)
      · skip
        replace h := cF hc2 h
        refine SX.exit ?_
        refine SQ.thnE ?_
        refine SQ.lpE ?_
        refine SQ.blkE ?_
        exact SQ.midD () h (by repeat' (first | exact trivial | refine And.intro rfl ?_)) (fun _ hw => HpOk.pick (H := []) hw [] 0 rfl)
    · skip
      unfold f_ref04_Right_j1 at h
      refine SX.re [] (H) ?_ (by repeat' (first | exact trivial | refine And.intro rfl ?_))
      refine SX.sr ?_
      refine SL.asg ⟨rfl, rfl, rfl, rfl⟩ rfl ?_
      refine SL.nx ?_
      refine SX.ret ?_
      obtain rfl := Option.some.inj h
      exact SQ.fret (res1 rfl rfl) (ret_of (M := []) ⟨rfl, rfl⟩ fun _ hw => HpOk.pick (H := []) hw [] 0 rfl)

def f_ref04_Find_j1 (y2 : UInt32) (y3 : List UInt8) : Option (KeyA × Int) :=
  some ((⟨0, []⟩ : KeyA), 41)
def f_ref04_Find_l1_b (p0 : List KeyA) (p1 : UInt32) (nx_f_ref04_Find_l1 : UInt32 × List UInt8 × Int → Option (KeyA × Int)) (y4 : UInt32) (y5 : List UInt8) (a1 : Int) : Option (KeyA × Int) :=
  cond (decide (a1 < (p0.length : Int)))
  (
    (nthI p0 a1).bind fun x1 =>
    cond (decide (x1.gen = p1))
    (
      (nthI p0 a1).bind fun x2 =>
      some (x2, 0))
    (
      ret (wI (a1 + 1)) fun i_1 =>
      nx_f_ref04_Find_l1 (y4, y5, i_1)))
  (
    f_ref04_Find_j1 y4 y5)
def f_ref04_Find_l1 (p0 : List KeyA) (p1 : UInt32) : Nat → (UInt32 × List UInt8 × Int) → Option (KeyA × Int) := loopN fun nx x => f_ref04_Find_l1_b p0 p1 nx x.1 x.2.1 x.2.2
def f_ref04_Find (n : Nat) (p0 : List KeyA) (p1 : UInt32) : Option (KeyA × Int) :=
  (f_ref04_Right n p0).bind fun y1 =>
  cond (!y1)
  (
    some ((⟨0, []⟩ : KeyA), 40))
  (
    f_ref04_Find_l1 p0 p1 n (0, [], 0))
set_option maxRecDepth 100000 in
theorem c_ref04_Find {n : Nat} {v0_ : Value} {p0 : List KeyA} {p1 : UInt32} {r : KeyA × Int} (h : f_ref04_Find n p0 p1 = some r) (hs0_ : SlOf K w0 encKey 2 v0_ p0) : Con Tryd.prog K w0 33 [v0_, vU32 p1] [] H (fun u M => u = .tuple #[.agg (encKey r.1).toArray, vI r.2] ∧ M = []) := by
  unfold f_ref04_Find at h
  refine Con.enter Tryd.func33 rfl rfl ?_
  refine SX.sr ?_
  refine SL.alloc ⟨rfl, rfl, rfl, rfl⟩ ze44 (fun _ => trivial) fun b1 => ?_
  refine SL.asg ⟨rfl, rfl, rfl, rfl⟩ rfl ?_
  refine SL.nx ?_
  refine SX.sr ?_
  obtain ⟨y1, hy1, h⟩ := bnd h
  refine SL.mv ⟨rfl, rfl, rfl, rfl⟩ rfl ?_
  refine SL.call (vs := [_]) (Hin := []) (Hr := _ :: _) ⟨rfl, rfl, rfl, rfl⟩ rfl ⟨rfl, trivial⟩ cal41 rfl rfl (c_ref04_Right hy1 hs0_) ?_
  rintro _ _ ⟨rfl, rfl⟩
  refine ⟨trivial, ?_⟩
  refine SL.asg ⟨rfl, rfl, rfl, rfl⟩ rfl ?_
  refine SL.nx ?_
  refine SX.seq ?_
  refine SX.sr ?_
  refine SL.mv ⟨rfl, rfl, rfl, rfl⟩ rfl ?_
  refine SL.not ⟨rfl, rfl, rfl, rfl⟩ rfl ?_
  refine SL.nx ?_
  refine SX.cond rfl (fun hc1 => ?_) (fun hc1 => ?_)
  · skip
    replace h := cT hc1 h
    refine SX.sr ?_
    refine SL.bld [] ⟨rfl, rfl, rfl, rfl⟩ pl44 pk44 ze44 trivial rfl ?_
    refine SL.st 0 ⟨rfl, rfl, rfl⟩ rfl rfl rfl sz44 rfl rfl rfl trivial ?_
    refine SL.asg ⟨rfl, rfl, rfl, rfl⟩ rfl ?_
    refine SL.nx ?_
    refine SX.ret ?_
    refine SQ.thnR ?_
    obtain rfl := Option.some.inj h
    exact SQ.fret (resv2 rfl (resv.ag 0 (encKey (⟨0, []⟩ : KeyA)) ag44 rfl rfl rfl rfl) rfl) (ret_of (M := []) ⟨rfl, rfl⟩ fun _ hw => HpOk.pick (H := [_]) hw [] 1 rfl)
  · skip
    replace h := cF hc1 h
    refine SX.skip ?_
    refine SQ.thn ?_
    refine SX.meetD (α := UInt32 × List UInt8) (fun x => f_ref04_Find_j1 x.1 x.2 = some r) (fun x => [(4, vP b1 0)]) (fun x => own b1 (.cells #[vU32 x.1, vS x.2] 44) :: H) ?_ (fun x D h => ?_)
    · skip
      refine SX.sr ?_
      refine SL.asg ⟨rfl, rfl, rfl, rfl⟩ rfl ?_
      refine SL.nx ?_
      refine SX.block ?_
      refine SX.heap (SX.mono (SX.loop (α := Nat × UInt32 × List UInt8 × Int) (fun x => f_ref04_Find_l1 p0 p1 x.1 (x.2.1, x.2.2.1, x.2.2.2) = some r) (fun x => [(0, v0_), (1, vU32 p1), (4, vP b1 0), (7, vI x.2.2.2)]) (fun x => own b1 (.cells #[vU32 x.2.1, vS x.2.2.1] 44) :: H) (fun x => x.1) (fun x D h => ?_) (n, 0, [], 0) h) (by repeat' (first | exact trivial | refine And.intro rfl ?_))) (fun _ hw => HpOk.pick (H := [_]) hw [0] 1 rfl)
      obtain ⟨m1, y4, y5, a1⟩ := x
      dsimp only at h
      rcases m1 with _ | m1
      · cases (show (none : Option _) = some r from h)
      replace h : f_ref04_Find_l1_b p0 p1 (f_ref04_Find_l1 p0 p1 m1) y4 y5 a1 = some r := h
      unfold f_ref04_Find_l1_b at h
      refine SX.re [(0, v0_), (1, vU32 p1), (4, vP b1 0), (7, vI a1)] (own b1 (.cells #[vU32 y4, vS y5] 44) :: H) ?_ (by repeat' (first | exact trivial | refine And.intro rfl ?_))
      refine SX.seq ?_
      refine SX.sr ?_
      refine SL.mv ⟨rfl, rfl, rfl, rfl⟩ rfl ?_
      refine SL.mv ⟨rfl, rfl, rfl, rfl⟩ rfl ?_
      refine SL.lenV hs0_ ⟨rfl, rfl, rfl, rfl⟩ ty32 rfl ?_
      refine SL.bin ⟨rfl, rfl, rfl, rfl⟩ rfl rfl Bin.ltI ?_
      refine SL.nx ?_
      refine SX.cond rfl (fun hc2 => ?_) (fun hc2 => ?_)
      · skip
        replace h := cT hc2 h
        refine SX.skip ?_
        refine SQ.thn ?_
        refine SX.seq ?_
        refine SX.block ?_
        refine SX.sr ?_
        obtain ⟨x1, hx1, h⟩ := bnd h
        refine SL.mv ⟨rfl, rfl, rfl, rfl⟩ rfl ?_
        refine SL.mv ⟨rfl, rfl, rfl, rfl⟩ rfl ?_
        refine SL.iaN hx1 hs0_ ⟨rfl, rfl, rfl, rfl⟩ ty32 sz44 rfl rfl fun be1 of1 hc3 => ?_
        refine SL.fa ⟨rfl, rfl, rfl, rfl⟩ rfl fo44_0 ?_
        refine SL.ld ⟨rfl, rfl, rfl, rfl⟩ sc22 rfl (cell_kept (j := 0) hc3 rfl) ?_
        refine SL.mv ⟨rfl, rfl, rfl, rfl⟩ rfl ?_
        refine SL.bin ⟨rfl, rfl, rfl, rfl⟩ rfl rfl Bin.eq32 ?_
        refine SL.nx ?_
        refine SX.cond rfl (fun hc4 => ?_) (fun hc4 => ?_)
        · skip
          replace h := cT hc4 h
          refine SX.sr ?_
          obtain ⟨x2, hx2, h⟩ := bnd h
          refine SL.mv ⟨rfl, rfl, rfl, rfl⟩ rfl ?_
          refine SL.mv ⟨rfl, rfl, rfl, rfl⟩ rfl ?_
          refine SL.iaN hx2 hs0_ ⟨rfl, rfl, rfl, rfl⟩ ty32 sz44 rfl rfl fun be2 of2 hc5 => ?_
          refine SL.ldA (encKey x2) ⟨rfl, rfl, rfl, rfl⟩ ag44 rfl rfl (cells_kept hc5) ?_
          refine SL.st 0 ⟨rfl, rfl, rfl⟩ rfl rfl rfl sz44 rfl rfl rfl trivial ?_
          refine SL.asg ⟨rfl, rfl, rfl, rfl⟩ rfl ?_
          refine SL.nx ?_
          refine SX.ret ?_
          refine SQ.blkR ?_
          refine SQ.thnR ?_
          refine SQ.lpR ?_
          refine SQ.blkR ?_
          refine SQ.midDR ?_
          obtain rfl := Option.some.inj h
          exact SQ.fret (resv2 rfl (resv.ag 0 (encKey x2) ag44 rfl rfl rfl rfl) rfl) (ret_of (M := []) ⟨rfl, rfl⟩ fun _ hw => HpOk.pick (H := [_]) hw [] 1 rfl)
        · skip
          replace h := cF hc4 h
          refine SX.skip ?_
          refine SQ.blk ?_
          refine SQ.thn ?_
          refine SX.region ?_
          obtain ⟨i_1, ei_1, h⟩ := retE h
          refine SL.mv ⟨rfl, rfl, rfl, rfl⟩ rfl ?_
          refine SL.bin ⟨rfl, rfl, rfl, rfl⟩ rfl rfl Bin.addW ?_
          refine SL.asgX (u := vI i_1) ⟨rfl, rfl, rfl, rfl⟩ rfl (by rw [ei_1]) ?_
          refine SL.nil ?_
          exact SQ.again (m1, y4, y5, i_1) h (Nat.lt_succ_self _) (by repeat' (first | exact trivial | refine And.intro rfl ?_)) (fun _ hw => HpOk.pick (H := [_]) hw [0] 1 rfl)
      · skip
        replace h := cF hc2 h
        refine SX.exit ?_
        refine SQ.thnE ?_
        refine SQ.lpE ?_
        refine SQ.blkE ?_
        exact SQ.midD (y4, y5) h (by repeat' (first | exact trivial | refine And.intro rfl ?_)) (fun _ hw => HpOk.pick (H := [_]) hw [0] 1 rfl)
    · skip
      obtain ⟨y2, y3⟩ := x
      dsimp only at h
      unfold f_ref04_Find_j1 at h
      refine SX.re [(4, vP b1 0)] (own b1 (.cells #[vU32 y2, vS y3] 44) :: H) ?_ (by repeat' (first | exact trivial | refine And.intro rfl ?_))
      refine SX.sr ?_
      refine SL.bld [] ⟨rfl, rfl, rfl, rfl⟩ pl44 pk44 ze44 trivial rfl ?_
      refine SL.st 0 ⟨rfl, rfl, rfl⟩ rfl rfl rfl sz44 rfl rfl rfl trivial ?_
      refine SL.asg ⟨rfl, rfl, rfl, rfl⟩ rfl ?_
      refine SL.nx ?_
      refine SX.ret ?_
      obtain rfl := Option.some.inj h
      exact SQ.fret (resv2 rfl (resv.ag 0 (encKey (⟨0, []⟩ : KeyA)) ag44 rfl rfl rfl rfl) rfl) (ret_of (M := []) ⟨rfl, rfl⟩ fun _ hw => HpOk.pick (H := [_]) hw [] 1 rfl)

def f_ref04_Subs (n : Nat) (T : List UInt32) (p0 : KeyA) : Option (List UInt8 × List UInt8 × Int) :=
  (f_ref04_Right n [p0]).bind fun y1 =>
  cond (!y1)
  (
    some ([], [], 40))
  (
    (catS [115, 101, 97, 108] [p0.gen.toUInt8, (shr32 p0.gen 8).toUInt8, (shr32 p0.gen 16).toUInt8, (shr32 p0.gen 24).toUInt8]).bind fun s1 =>
    (f_ref03_Expand n T p0.secret s1 32).bind fun y2 =>
    (catS [98, 105, 110, 100] [p0.gen.toUInt8, (shr32 p0.gen 8).toUInt8, (shr32 p0.gen 16).toUInt8, (shr32 p0.gen 24).toUInt8]).bind fun s2 =>
    (f_ref03_Expand n T p0.secret s2 32).bind fun y3 =>
    some (y2.1, y3.1, 0))
set_option maxRecDepth 100000 in
theorem c_ref04_Subs {n : Nat} {T : List UInt32} {p0 : KeyA} {r : List UInt8 × List UInt8 × Int} (h : f_ref04_Subs n T p0 = some r) (hT : TabN K w0 1 64 T) : Con Tryd.prog K w0 36 [.agg (encKey p0).toArray] [] H (fun u M => u = .tuple #[vS r.1, vS r.2.1, vI r.2.2] ∧ M = []) := by
  unfold f_ref04_Subs at h
  refine Con.enter Tryd.func36 rfl rfl ?_
  refine SX.sr ?_
  refine SL.box ⟨rfl, rfl, rfl, rfl⟩ rfl (fun _ => trivial) fun b1 => ?_
  refine SL.asg ⟨rfl, rfl, rfl, rfl⟩ rfl ?_
  refine SL.asg ⟨rfl, rfl, rfl, rfl⟩ rfl ?_
  refine SL.asg ⟨rfl, rfl, rfl, rfl⟩ rfl ?_
  refine SL.nx ?_
  refine SX.sr ?_
  obtain ⟨y1, hy1, h⟩ := bnd h
  refine SL.ldA [vU32 p0.gen, vS p0.secret] ⟨rfl, rfl, rfl, rfl⟩ ag44 rfl rfl (cells_all 0 rfl) ?_
  refine SL.bsl [_] ⟨rfl, rfl, rfl, rfl⟩ ty32 sz44 ze44 ⟨rfl, trivial⟩ rfl rfl rfl (by simp [Value.cells]) rfl rfl (fun _ => trivial) fun b2 => ?_
  refine SL.ownT encKey 2 ([p0] : List KeyA) rfl (fun _ => rfl) rfl ?_
  refine SL.call (vs := [_]) (Hin := [_]) (Hr := _ :: _) ⟨rfl, rfl, rfl, rfl⟩ rfl ⟨rfl, trivial⟩ cal41 rfl rfl (Con.lend (B := [_]) (Hin := []) fun K' w1 hk hB => c_ref04_Right hy1 (SlOf.lentT (e := 44) (fun _ => rfl) (hB _ (by simp)))) ?_
  rintro _ _ ⟨_, rfl, rfl, rfl⟩
  refine ⟨trivial, ?_⟩
  refine SL.asg ⟨rfl, rfl, rfl, rfl⟩ rfl ?_
  refine SL.nx ?_
  refine SX.seq ?_
  refine SX.sr ?_
  refine SL.mv ⟨rfl, rfl, rfl, rfl⟩ rfl ?_
  refine SL.not ⟨rfl, rfl, rfl, rfl⟩ rfl ?_
  refine SL.nx ?_
  refine SX.cond rfl (fun hc1 => ?_) (fun hc1 => ?_)
  · skip
    replace h := cT hc1 h
    refine SX.sr ?_
    refine SL.asg ⟨rfl, rfl, rfl, rfl⟩ rfl ?_
    refine SL.asg ⟨rfl, rfl, rfl, rfl⟩ rfl ?_
    refine SL.asg ⟨rfl, rfl, rfl, rfl⟩ rfl ?_
    refine SL.nx ?_
    refine SX.ret ?_
    refine SQ.thnR ?_
    obtain rfl := Option.some.inj h
    exact SQ.fret (res3 rfl rfl rfl rfl) (ret_of (M := []) ⟨rfl, rfl⟩ fun _ hw => HpOk.pick (H := [_, _]) hw [] 2 rfl)
  · skip
    replace h := cF hc1 h
    refine SX.skip ?_
    refine SQ.thn ?_
    refine SX.sr ?_
    refine SL.fa ⟨rfl, rfl, rfl, rfl⟩ rfl fo44_0 ?_
    refine SL.ld ⟨rfl, rfl, rfl, rfl⟩ sc22 rfl (cell_own 1 rfl rfl) ?_
    refine SL.cv ⟨rfl, rfl, rfl, rfl⟩ rfl (Cv.u32_8 ty22 ty5) ?_
    refine SL.fa ⟨rfl, rfl, rfl, rfl⟩ rfl fo44_0 ?_
    refine SL.ld ⟨rfl, rfl, rfl, rfl⟩ sc22 rfl (cell_own 1 rfl rfl) ?_
    refine SL.bin ⟨rfl, rfl, rfl, rfl⟩ rfl rfl (Bin.shr32 (n := 8)) ?_
    refine SL.cv ⟨rfl, rfl, rfl, rfl⟩ rfl (Cv.u32_8 ty22 ty5) ?_
    refine SL.fa ⟨rfl, rfl, rfl, rfl⟩ rfl fo44_0 ?_
    refine SL.ld ⟨rfl, rfl, rfl, rfl⟩ sc22 rfl (cell_own 1 rfl rfl) ?_
    refine SL.bin ⟨rfl, rfl, rfl, rfl⟩ rfl rfl (Bin.shr32 (n := 16)) ?_
    refine SL.cv ⟨rfl, rfl, rfl, rfl⟩ rfl (Cv.u32_8 ty22 ty5) ?_
    refine SL.fa ⟨rfl, rfl, rfl, rfl⟩ rfl fo44_0 ?_
    refine SL.ld ⟨rfl, rfl, rfl, rfl⟩ sc22 rfl (cell_own 1 rfl rfl) ?_
    refine SL.bin ⟨rfl, rfl, rfl, rfl⟩ rfl rfl (Bin.shr32 (n := 24)) ?_
    refine SL.cv ⟨rfl, rfl, rfl, rfl⟩ rfl (Cv.u32_8 ty22 ty5) ?_
    refine SL.bsl [_, _, _, _] ⟨rfl, rfl, rfl, rfl⟩ ty41 sz5 ze5 ⟨rfl, rfl, rfl, rfl, trivial⟩ rfl rfl rfl (by simp [Value.cells]) rfl rfl (fun _ => trivial) fun b3 => ?_
    refine SL.ownT eU8 1 ([p0.gen.toUInt8, (shr32 p0.gen 8).toUInt8, (shr32 p0.gen 16).toUInt8, (shr32 p0.gen 24).toUInt8] : List UInt8) rfl (fun _ => rfl) rfl ?_
    refine SL.btsT 0 ⟨rfl, rfl, rfl, rfl⟩ ty41 ty5 ty9 rfl rfl ?_
    refine SL.asg ⟨rfl, rfl, rfl, rfl⟩ rfl ?_
    refine SL.nx ?_
    refine SX.sr ?_
    obtain ⟨s1, hs1, h⟩ := bnd h
    obtain ⟨y2, hy2, h⟩ := bnd h
    refine SL.fa ⟨rfl, rfl, rfl, rfl⟩ rfl fo44_1 ?_
    refine SL.ld ⟨rfl, rfl, rfl, rfl⟩ sc9 rfl (cell_own 2 rfl rfl) ?_
    refine SL.mv ⟨rfl, rfl, rfl, rfl⟩ rfl ?_
    refine SL.bin ⟨rfl, rfl, rfl, rfl⟩ rfl rfl (Bin.catO hs1) ?_
    refine SL.call (vs := [_, _, _]) (Hin := []) (Hr := _ :: _ :: _ :: _) ⟨rfl, rfl, rfl, rfl⟩ rfl ⟨rfl, rfl, rfl, trivial⟩ cal53 rfl rfl (c_ref03_Expand hy2 hT) ?_
    rintro _ _ ⟨rfl, rfl⟩
    refine ⟨trivial, ?_⟩
    refine SL.mv ⟨rfl, rfl, rfl, rfl⟩ rfl ?_
    refine SL.ext ⟨rfl, rfl, rfl, rfl⟩ rfl rfl ?_
    refine SL.ext ⟨rfl, rfl, rfl, rfl⟩ rfl rfl ?_
    refine SL.asg ⟨rfl, rfl, rfl, rfl⟩ rfl ?_
    refine SL.asg ⟨rfl, rfl, rfl, rfl⟩ rfl ?_
    refine SL.nx ?_
    refine SX.sr ?_
    obtain ⟨s2, hs2, h⟩ := bnd h
    obtain ⟨y3, hy3, h⟩ := bnd h
    refine SL.fa ⟨rfl, rfl, rfl, rfl⟩ rfl fo44_1 ?_
    refine SL.ld ⟨rfl, rfl, rfl, rfl⟩ sc9 rfl (cell_own 2 rfl rfl) ?_
    refine SL.mv ⟨rfl, rfl, rfl, rfl⟩ rfl ?_
    refine SL.bin ⟨rfl, rfl, rfl, rfl⟩ rfl rfl (Bin.catO hs2) ?_
    refine SL.call (vs := [_, _, _]) (Hin := []) (Hr := _ :: _ :: _ :: _) ⟨rfl, rfl, rfl, rfl⟩ rfl ⟨rfl, rfl, rfl, trivial⟩ cal53 rfl rfl (c_ref03_Expand hy3 hT) ?_
    rintro _ _ ⟨rfl, rfl⟩
    refine ⟨trivial, ?_⟩
    refine SL.mv ⟨rfl, rfl, rfl, rfl⟩ rfl ?_
    refine SL.ext ⟨rfl, rfl, rfl, rfl⟩ rfl rfl ?_
    refine SL.ext ⟨rfl, rfl, rfl, rfl⟩ rfl rfl ?_
    refine SL.asg ⟨rfl, rfl, rfl, rfl⟩ rfl ?_
    refine SL.asg ⟨rfl, rfl, rfl, rfl⟩ rfl ?_
    refine SL.nx ?_
    refine SX.sr ?_
    refine SL.mv ⟨rfl, rfl, rfl, rfl⟩ rfl ?_
    refine SL.mv ⟨rfl, rfl, rfl, rfl⟩ rfl ?_
    refine SL.asg ⟨rfl, rfl, rfl, rfl⟩ rfl ?_
    refine SL.asg ⟨rfl, rfl, rfl, rfl⟩ rfl ?_
    refine SL.asg ⟨rfl, rfl, rfl, rfl⟩ rfl ?_
    refine SL.nx ?_
    refine SX.ret ?_
    obtain rfl := Option.some.inj h
    exact SQ.fret (res3 rfl rfl rfl rfl) (ret_of (M := []) ⟨rfl, rfl⟩ fun _ hw => HpOk.pick (H := [_, _, _]) hw [] 3 rfl)

def f_ref05_Pad_j1 (a1 : List UInt8) : Option (List UInt8 × Int) :=
  some (a1, 0)
def f_ref05_Pad_l1_b (nx_f_ref05_Pad_l1 : List UInt8 → Option (List UInt8 × Int)) (a2 : List UInt8) : Option (List UInt8 × Int) :=
  cond (decide ((a2.length : Int) < 200))
  (
    (catS a2 [0]).bind fun s2 =>
    nx_f_ref05_Pad_l1 s2)
  (
    f_ref05_Pad_j1 a2)
def f_ref05_Pad_l1 : Nat → List UInt8 → Option (List UInt8 × Int) := loopN fun nx x => f_ref05_Pad_l1_b  nx x
def f_ref05_Pad (n : Nat) (p0 : List UInt8) : Option (List UInt8 × Int) :=
  cond (decide (198 < (p0.length : Int)))
  (
    some ([], 50))
  (
    (quoI (p0.length : Int) 256).bind fun q1 =>
    (remI (p0.length : Int) 256).bind fun q2 =>
    (catS [toU8 q1, toU8 q2] p0).bind fun s1 =>
    f_ref05_Pad_l1 n s1)
set_option maxRecDepth 100000 in
theorem c_ref05_Pad {n : Nat} {p0 : List UInt8} {r : List UInt8 × Int} (h : f_ref05_Pad n p0 = some r)  : Con Tryd.prog K w0 34 [vS p0] [] H (fun u M => u = .tuple #[vS r.1, vI r.2] ∧ M = []) := by
  unfold f_ref05_Pad at h
  refine Con.enter Tryd.func34 rfl rfl ?_
  refine SX.sr ?_
  refine SL.asg ⟨rfl, rfl, rfl, rfl⟩ rfl ?_
  refine SL.asg ⟨rfl, rfl, rfl, rfl⟩ rfl ?_
  refine SL.nx ?_
  refine SX.seq ?_
  refine SX.sr ?_
  refine SL.mv ⟨rfl, rfl, rfl, rfl⟩ rfl ?_
  refine SL.lenS ⟨rfl, rfl, rfl, rfl⟩ ty9 rfl ?_
  refine SL.bin ⟨rfl, rfl, rfl, rfl⟩ rfl rfl Bin.gtI ?_
  refine SL.nx ?_
  refine SX.cond rfl (fun hc1 => ?_) (fun hc1 => ?_)
  · skip
    replace h := cT hc1 h
    refine SX.sr ?_
    refine SL.asg ⟨rfl, rfl, rfl, rfl⟩ rfl ?_
    refine SL.asg ⟨rfl, rfl, rfl, rfl⟩ rfl ?_
    refine SL.nx ?_
    refine SX.ret ?_
    refine SQ.thnR ?_
    obtain rfl := Option.some.inj h
    exact SQ.fret (res2 rfl rfl rfl) (ret_of (M := []) ⟨rfl, rfl⟩ fun _ hw => HpOk.pick (H := []) hw [] 0 rfl)
  · skip
    replace h := cF hc1 h
    refine SX.skip ?_
    refine SQ.thn ?_
    refine SX.sr ?_
    obtain ⟨q1, hq1, h⟩ := bnd h
    obtain ⟨q2, hq2, h⟩ := bnd h
    obtain ⟨s1, hs1, h⟩ := bnd h
    refine SL.mv ⟨rfl, rfl, rfl, rfl⟩ rfl ?_
    refine SL.lenS ⟨rfl, rfl, rfl, rfl⟩ ty9 rfl ?_
    refine SL.bin ⟨rfl, rfl, rfl, rfl⟩ rfl rfl (Bin.divO hq1) ?_
    refine SL.cv ⟨rfl, rfl, rfl, rfl⟩ rfl (Cv.i_8 ty3 ty5) ?_
    refine SL.mv ⟨rfl, rfl, rfl, rfl⟩ rfl ?_
    refine SL.lenS ⟨rfl, rfl, rfl, rfl⟩ ty9 rfl ?_
    refine SL.bin ⟨rfl, rfl, rfl, rfl⟩ rfl rfl (Bin.modO hq2) ?_
    refine SL.cv ⟨rfl, rfl, rfl, rfl⟩ rfl (Cv.i_8 ty3 ty5) ?_
    refine SL.bsl [_, _] ⟨rfl, rfl, rfl, rfl⟩ ty41 sz5 ze5 ⟨rfl, rfl, trivial⟩ rfl rfl rfl (by simp [Value.cells]) rfl rfl (fun _ => trivial) fun b1 => ?_
    refine SL.ownT eU8 1 ([toU8 q1, toU8 q2] : List UInt8) rfl (fun _ => rfl) rfl ?_
    refine SL.btsT 0 ⟨rfl, rfl, rfl, rfl⟩ ty41 ty5 ty9 rfl rfl ?_
    refine SL.mv ⟨rfl, rfl, rfl, rfl⟩ rfl ?_
    refine SL.bin ⟨rfl, rfl, rfl, rfl⟩ rfl rfl (Bin.catO hs1) ?_
    refine SL.asg ⟨rfl, rfl, rfl, rfl⟩ rfl ?_
    refine SL.nx ?_
    refine SX.meetD (α := List UInt8) (fun x => f_ref05_Pad_j1 x = some r) (fun x => [(4, vS x)]) (fun x => H) ?_ (fun a1 D h => ?_)
    · skip
      refine SX.block ?_
      refine SX.heap (SX.mono (SX.loop (α := Nat × List UInt8) (fun x => f_ref05_Pad_l1 x.1 x.2 = some r) (fun x => [(4, vS x.2)]) (fun x => H) (fun x => x.1) (fun x D h => ?_) (n, s1) h) (by repeat' (first | exact trivial | refine And.intro rfl ?_))) (fun _ hw => HpOk.pick (H := [_]) hw [] 1 rfl)
      obtain ⟨m1, a2⟩ := x
      dsimp only at h
      rcases m1 with _ | m1
      · cases (show (none : Option _) = some r from h)
      replace h : f_ref05_Pad_l1_b (f_ref05_Pad_l1 m1) a2 = some r := h
      unfold f_ref05_Pad_l1_b at h
      refine SX.re [(4, vS a2)] (H) ?_ (by repeat' (first | exact trivial | refine And.intro rfl ?_))
      refine SX.seq ?_
      refine SX.sr ?_
      refine SL.mv ⟨rfl, rfl, rfl, rfl⟩ rfl ?_
      refine SL.lenS ⟨rfl, rfl, rfl, rfl⟩ ty9 rfl ?_
      refine SL.bin ⟨rfl, rfl, rfl, rfl⟩ rfl rfl Bin.ltI ?_
      refine SL.nx ?_
      refine SX.cond rfl (fun hc2 => ?_) (fun hc2 => ?_)
      · skip
        replace h := cT hc2 h
        refine SX.skip ?_
        refine SQ.thn ?_
        refine SX.block ?_
        refine SX.region ?_
        obtain ⟨s2, hs2, h⟩ := bnd h
        refine SL.mv ⟨rfl, rfl, rfl, rfl⟩ rfl ?_
        refine SL.bin ⟨rfl, rfl, rfl, rfl⟩ rfl rfl (Bin.catO hs2) ?_
        refine SL.asg ⟨rfl, rfl, rfl, rfl⟩ rfl ?_
        refine SL.nil ?_
        refine SQ.blk ?_
        exact SQ.again (m1, s2) h (Nat.lt_succ_self _) (by repeat' (first | exact trivial | refine And.intro rfl ?_)) (fun _ hw => HpOk.pick (H := []) hw [] 0 rfl)
      · skip
        replace h := cF hc2 h
        refine SX.exit ?_
        refine SQ.thnE ?_
        refine SQ.lpE ?_
        refine SQ.blkE ?_
        exact SQ.midD a2 h (by repeat' (first | exact trivial | refine And.intro rfl ?_)) (fun _ hw => HpOk.pick (H := []) hw [] 0 rfl)
    · skip
      unfold f_ref05_Pad_j1 at h
      refine SX.re [(4, vS a1)] (H) ?_ (by repeat' (first | exact trivial | refine And.intro rfl ?_))
      refine SX.sr ?_
      refine SL.mv ⟨rfl, rfl, rfl, rfl⟩ rfl ?_
      refine SL.asg ⟨rfl, rfl, rfl, rfl⟩ rfl ?_
      refine SL.asg ⟨rfl, rfl, rfl, rfl⟩ rfl ?_
      refine SL.nx ?_
      refine SX.ret ?_
      obtain rfl := Option.some.inj h
      exact SQ.fret (res2 rfl rfl rfl) (ret_of (M := []) ⟨rfl, rfl⟩ fun _ hw => HpOk.pick (H := []) hw [] 0 rfl)

def f_ref05_Unpad_j1 (p0 : List UInt8) (x1 : Int) : Option (List UInt8 × Int) :=
  (slcI p0 2 (wI (2 + x1))).bind fun s1 =>
  some (s1, 0)
def f_ref05_Unpad_l1_b (p0 : List UInt8) (x1 : Int) (nx_f_ref05_Unpad_l1 : Int → Option (List UInt8 × Int)) (a1 : Int) : Option (List UInt8 × Int) :=
  cond (decide (a1 < (p0.length : Int)))
  (
    (nthI p0 a1).bind fun c3 =>
    cond (!decide (c3 = 0))
    (
      some ([], 50))
    (
      ret (wI (a1 + 1)) fun i_2 =>
      nx_f_ref05_Unpad_l1 i_2))
  (
    f_ref05_Unpad_j1 p0 x1)
def f_ref05_Unpad_l1 (p0 : List UInt8) (x1 : Int) : Nat → Int → Option (List UInt8 × Int) := loopN fun nx x => f_ref05_Unpad_l1_b p0 x1 nx x
def f_ref05_Unpad (n : Nat) (p0 : List UInt8) : Option (List UInt8 × Int) :=
  cond (!decide ((p0.length : Int) = 200))
  (
    some ([], 50))
  (
    (nthI p0 0).bind fun c1 =>
    (nthI p0 1).bind fun c2 =>
    ret (wI ((wI (256 * (c1.toNat : Int))) + (c2.toNat : Int))) fun x1 =>
    cond (decide (198 < x1))
    (
      some ([], 50))
    (
      ret (wI (2 + x1)) fun i_1 =>
      f_ref05_Unpad_l1 p0 x1 n i_1))
set_option maxRecDepth 100000 in
theorem c_ref05_Unpad {n : Nat} {p0 : List UInt8} {r : List UInt8 × Int} (h : f_ref05_Unpad n p0 = some r)  : Con Tryd.prog K w0 44 [vS p0] [] H (fun u M => u = .tuple #[vS r.1, vI r.2] ∧ M = []) := by
  unfold f_ref05_Unpad at h
  refine Con.enter Tryd.func44 rfl rfl ?_
  refine SX.sr ?_
  refine SL.asg ⟨rfl, rfl, rfl, rfl⟩ rfl ?_
  refine SL.asg ⟨rfl, rfl, rfl, rfl⟩ rfl ?_
  refine SL.nx ?_
  refine SX.seq ?_
  refine SX.sr ?_
  refine SL.mv ⟨rfl, rfl, rfl, rfl⟩ rfl ?_
  refine SL.lenS ⟨rfl, rfl, rfl, rfl⟩ ty9 rfl ?_
  refine SL.bin ⟨rfl, rfl, rfl, rfl⟩ rfl rfl Bin.neI ?_
  refine SL.nx ?_
  refine SX.cond rfl (fun hc1 => ?_) (fun hc1 => ?_)
  · skip
    replace h := cT hc1 h
    refine SX.sr ?_
    refine SL.asg ⟨rfl, rfl, rfl, rfl⟩ rfl ?_
    refine SL.asg ⟨rfl, rfl, rfl, rfl⟩ rfl ?_
    refine SL.nx ?_
    refine SX.ret ?_
    refine SQ.thnR ?_
    obtain rfl := Option.some.inj h
    exact SQ.fret (res2 rfl rfl rfl) (ret_of (M := []) ⟨rfl, rfl⟩ fun _ hw => HpOk.pick (H := []) hw [] 0 rfl)
  · skip
    replace h := cF hc1 h
    refine SX.skip ?_
    refine SQ.thn ?_
    refine SX.seq ?_
    obtain ⟨c1, hc1, h⟩ := bnd h
    obtain ⟨c2, hc2, h⟩ := bnd h
    obtain ⟨x1, ex1, h⟩ := retE h
    refine SX.drawI mix [] (Pl.of [(true, 0), (true, 1), (true, 2), (true, 3), (true, 4), (true, 5), (true, 6), (true, 7), (true, 8)]) (by kernel_rfl) ?_
    refine SL.mv ⟨rfl, rfl, rfl, rfl⟩ rfl ?_
    refine SL.ixN hc1 ⟨rfl, rfl, rfl, rfl⟩ ty9 rfl rfl ?_
    refine SL.cv ⟨rfl, rfl, rfl, rfl⟩ rfl (Cv.u8_I ty5 ty3) ?_
    refine SL.bin ⟨rfl, rfl, rfl, rfl⟩ rfl rfl Bin.mulW ?_
    refine SL.mv ⟨rfl, rfl, rfl, rfl⟩ rfl ?_
    refine SL.ixN hc2 ⟨rfl, rfl, rfl, rfl⟩ ty9 rfl rfl ?_
    refine SL.cv ⟨rfl, rfl, rfl, rfl⟩ rfl (Cv.u8_I ty5 ty3) ?_
    refine SL.bin ⟨rfl, rfl, rfl, rfl⟩ rfl rfl Bin.addW ?_
    refine SL.asgX (u := vI x1) ⟨rfl, rfl, rfl, rfl⟩ rfl (by rw [ex1]) ?_
    refine SL.nx ?_
    refine SX.seq ?_
    refine SX.sr ?_
    refine SL.mv ⟨rfl, rfl, rfl, rfl⟩ rfl ?_
    refine SL.bin ⟨rfl, rfl, rfl, rfl⟩ rfl rfl Bin.gtI ?_
    refine SL.nx ?_
    refine SX.cond rfl (fun hc2 => ?_) (fun hc2 => ?_)
    · skip
      replace h := cT hc2 h
      refine SX.sr ?_
      refine SL.asg ⟨rfl, rfl, rfl, rfl⟩ rfl ?_
      refine SL.asg ⟨rfl, rfl, rfl, rfl⟩ rfl ?_
      refine SL.nx ?_
      refine SX.ret ?_
      refine SQ.thnR ?_
      obtain rfl := Option.some.inj h
      exact SQ.fret (res2 rfl rfl rfl) (ret_of (M := []) ⟨rfl, rfl⟩ fun _ hw => HpOk.pick (H := []) hw [] 0 rfl)
    · skip
      replace h := cF hc2 h
      refine SX.skip ?_
      refine SQ.thn ?_
      refine SX.meetD (α := Unit) (fun x => f_ref05_Unpad_j1 p0 x1 = some r) (fun x => [(0, vS p0), (4, vI x1)]) (fun x => H) ?_ (fun x D h => ?_)
      · skip
        refine SX.sr ?_
        obtain ⟨i_1, ei_1, h⟩ := retE h
        refine SL.mv ⟨rfl, rfl, rfl, rfl⟩ rfl ?_
        refine SL.bin ⟨rfl, rfl, rfl, rfl⟩ rfl rfl Bin.addW ?_
        refine SL.asgX (u := vI i_1) ⟨rfl, rfl, rfl, rfl⟩ rfl (by rw [ei_1]) ?_
        refine SL.nx ?_
        refine SX.block ?_
        refine SX.heap (SX.mono (SX.loop (α := Nat × Int) (fun x => f_ref05_Unpad_l1 p0 x1 x.1 x.2 = some r) (fun x => [(0, vS p0), (4, vI x1), (5, vI x.2)]) (fun x => H) (fun x => x.1) (fun x D h => ?_) (n, i_1) h) (by repeat' (first | exact trivial | refine And.intro rfl ?_))) (fun _ hw => HpOk.pick (H := []) hw [] 0 rfl)
        obtain ⟨m1, a1⟩ := x
        dsimp only at h
        rcases m1 with _ | m1
        · cases (show (none : Option _) = some r from h)
        replace h : f_ref05_Unpad_l1_b p0 x1 (f_ref05_Unpad_l1 p0 x1 m1) a1 = some r := h
        unfold f_ref05_Unpad_l1_b at h
        refine SX.re [(0, vS p0), (4, vI x1), (5, vI a1)] (H) ?_ (by repeat' (first | exact trivial | refine And.intro rfl ?_))
        refine SX.seq ?_
        refine SX.sr ?_
        refine SL.mv ⟨rfl, rfl, rfl, rfl⟩ rfl ?_
        refine SL.mv ⟨rfl, rfl, rfl, rfl⟩ rfl ?_
        refine SL.lenS ⟨rfl, rfl, rfl, rfl⟩ ty9 rfl ?_
        refine SL.bin ⟨rfl, rfl, rfl, rfl⟩ rfl rfl Bin.ltI ?_
        refine SL.nx ?_
        refine SX.cond rfl (fun hc3 => ?_) (fun hc3 => ?_)
        · skip
          replace h := cT hc3 h
          refine SX.skip ?_
          refine SQ.thn ?_
          refine SX.seq ?_
          refine SX.block ?_
          refine SX.sr ?_
          obtain ⟨c3, hc3, h⟩ := bnd h
          refine SL.mv ⟨rfl, rfl, rfl, rfl⟩ rfl ?_
          refine SL.mv ⟨rfl, rfl, rfl, rfl⟩ rfl ?_
          refine SL.ixN hc3 ⟨rfl, rfl, rfl, rfl⟩ ty9 rfl rfl ?_
          refine SL.bin ⟨rfl, rfl, rfl, rfl⟩ rfl rfl (Bin.ne8 (b := 0)) ?_
          refine SL.nx ?_
          refine SX.cond rfl (fun hc4 => ?_) (fun hc4 => ?_)
          · skip
            replace h := cT hc4 h
            refine SX.sr ?_
            refine SL.asg ⟨rfl, rfl, rfl, rfl⟩ rfl ?_
            refine SL.asg ⟨rfl, rfl, rfl, rfl⟩ rfl ?_
            refine SL.nx ?_
            refine SX.ret ?_
            refine SQ.blkR ?_
            refine SQ.thnR ?_
            refine SQ.lpR ?_
            refine SQ.blkR ?_
            refine SQ.midDR ?_
            obtain rfl := Option.some.inj h
            exact SQ.fret (res2 rfl rfl rfl) (ret_of (M := []) ⟨rfl, rfl⟩ fun _ hw => HpOk.pick (H := []) hw [] 0 rfl)
          · skip
            replace h := cF hc4 h
            refine SX.skip ?_
            refine SQ.blk ?_
            refine SQ.thn ?_
            refine SX.region ?_
            obtain ⟨i_2, ei_2, h⟩ := retE h
            refine SL.mv ⟨rfl, rfl, rfl, rfl⟩ rfl ?_
            refine SL.bin ⟨rfl, rfl, rfl, rfl⟩ rfl rfl Bin.addW ?_
            refine SL.asgX (u := vI i_2) ⟨rfl, rfl, rfl, rfl⟩ rfl (by rw [ei_2]) ?_
            refine SL.nil ?_
            exact SQ.again (m1, i_2) h (Nat.lt_succ_self _) (by repeat' (first | exact trivial | refine And.intro rfl ?_)) (fun _ hw => HpOk.pick (H := []) hw [] 0 rfl)
        · skip
          replace h := cF hc3 h
          refine SX.exit ?_
          refine SQ.thnE ?_
          refine SQ.lpE ?_
          refine SQ.blkE ?_
          exact SQ.midD () h (by repeat' (first | exact trivial | refine And.intro rfl ?_)) (fun _ hw => HpOk.pick (H := []) hw [] 0 rfl)
      · skip
        unfold f_ref05_Unpad_j1 at h
        refine SX.re [(0, vS p0), (4, vI x1)] (H) ?_ (by repeat' (first | exact trivial | refine And.intro rfl ?_))
        refine SX.sr ?_
        obtain ⟨s1, hs1, h⟩ := bnd h
        refine SL.mv ⟨rfl, rfl, rfl, rfl⟩ rfl ?_
        refine SL.mv ⟨rfl, rfl, rfl, rfl⟩ rfl ?_
        refine SL.bin ⟨rfl, rfl, rfl, rfl⟩ rfl rfl Bin.addW ?_
        refine SL.slN hs1 ⟨rfl, rfl, rfl, rfl⟩ ty9 rfl rfl rfl ?_
        refine SL.asg ⟨rfl, rfl, rfl, rfl⟩ rfl ?_
        refine SL.asg ⟨rfl, rfl, rfl, rfl⟩ rfl ?_
        refine SL.nx ?_
        refine SX.ret ?_
        obtain rfl := Option.some.inj h
        exact SQ.fret (res2 rfl rfl rfl) (ret_of (M := []) ⟨rfl, rfl⟩ fun _ hw => HpOk.pick (H := []) hw [] 0 rfl)

def f_ref06_put_j1 (a1 : List UInt8) : Option (List UInt8) :=
  some a1
def f_ref06_put_l1_b (p1 : Int) (nx_f_ref06_put_l1 : UInt64 × List UInt8 × Int → Option (List UInt8)) (a2 : UInt64) (a3 : List UInt8) (a4 : Int) : Option (List UInt8) :=
  cond (decide (a4 < p1))
  (
    (catS a3 [a2.toUInt8]).bind fun s1 =>
    (quo64 a2 256).bind fun q1 =>
    ret (wI (a4 + 1)) fun i_1 =>
    nx_f_ref06_put_l1 (q1, s1, i_1))
  (
    f_ref06_put_j1 a3)
def f_ref06_put_l1 (p1 : Int) : Nat → (UInt64 × List UInt8 × Int) → Option (List UInt8) := loopN fun nx x => f_ref06_put_l1_b p1 nx x.1 x.2.1 x.2.2
def f_ref06_put (n : Nat) (p0 : UInt64) (p1 : Int) : Option (List UInt8) :=
  f_ref06_put_l1 p1 n (p0, [], 0)
set_option maxRecDepth 100000 in
theorem c_ref06_put {n : Nat} {p0 : UInt64} {p1 : Int} {r : List UInt8} (h : f_ref06_put n p0 p1 = some r)  : Con Tryd.prog K w0 27 [vU64 p0, vI p1] [] H (fun u M => u = vS r ∧ M = []) := by
  unfold f_ref06_put at h
  refine Con.enter Tryd.func27 rfl rfl ?_
  refine SX.sr ?_
  refine SL.asg ⟨rfl, rfl, rfl, rfl⟩ rfl ?_
  refine SL.nx ?_
  refine SX.sr ?_
  refine SL.asg ⟨rfl, rfl, rfl, rfl⟩ rfl ?_
  refine SL.nx ?_
  refine SX.meetD (α := List UInt8) (fun x => f_ref06_put_j1 x = some r) (fun x => [(5, vS x)]) (fun x => H) ?_ (fun a1 D h => ?_)
  · skip
    refine SX.sr ?_
    refine SL.asg ⟨rfl, rfl, rfl, rfl⟩ rfl ?_
    refine SL.nx ?_
    refine SX.block ?_
    refine SX.heap (SX.mono (SX.loop (α := Nat × UInt64 × List UInt8 × Int) (fun x => f_ref06_put_l1 p1 x.1 (x.2.1, x.2.2.1, x.2.2.2) = some r) (fun x => [(0, vU64 x.2.1), (1, vI p1), (5, vS x.2.2.1), (6, vI x.2.2.2)]) (fun x => H) (fun x => x.1) (fun x D h => ?_) (n, p0, [], 0) h) (by repeat' (first | exact trivial | refine And.intro rfl ?_))) (fun _ hw => HpOk.pick (H := []) hw [] 0 rfl)
    obtain ⟨m1, a2, a3, a4⟩ := x
    dsimp only at h
    rcases m1 with _ | m1
    · cases (show (none : Option _) = some r from h)
    replace h : f_ref06_put_l1_b p1 (f_ref06_put_l1 p1 m1) a2 a3 a4 = some r := h
    unfold f_ref06_put_l1_b at h
    refine SX.re [(0, vU64 a2), (1, vI p1), (5, vS a3), (6, vI a4)] (H) ?_ (by repeat' (first | exact trivial | refine And.intro rfl ?_))
    refine SX.seq ?_
    refine SX.sr ?_
    refine SL.mv ⟨rfl, rfl, rfl, rfl⟩ rfl ?_
    refine SL.mv ⟨rfl, rfl, rfl, rfl⟩ rfl ?_
    refine SL.bin ⟨rfl, rfl, rfl, rfl⟩ rfl rfl Bin.ltI ?_
    refine SL.nx ?_
    refine SX.cond rfl (fun hc1 => ?_) (fun hc1 => ?_)
    · skip
      replace h := cT hc1 h
      refine SX.skip ?_
      refine SQ.thn ?_
      refine SX.seq ?_
      refine SX.block ?_
      refine SX.sr ?_
      obtain ⟨s1, hs1, h⟩ := bnd h
      refine SL.mv ⟨rfl, rfl, rfl, rfl⟩ rfl ?_
      refine SL.mv ⟨rfl, rfl, rfl, rfl⟩ rfl ?_
      refine SL.cv ⟨rfl, rfl, rfl, rfl⟩ rfl (Cv.u64_8 ty23 ty5) ?_
      refine SL.bsl [_] ⟨rfl, rfl, rfl, rfl⟩ ty41 sz5 ze5 ⟨rfl, trivial⟩ rfl rfl rfl (by simp [Value.cells]) rfl rfl (fun _ => trivial) fun b1 => ?_
      refine SL.ownT eU8 1 ([a2.toUInt8] : List UInt8) rfl (fun _ => rfl) rfl ?_
      refine SL.btsT 0 ⟨rfl, rfl, rfl, rfl⟩ ty41 ty5 ty9 rfl rfl ?_
      refine SL.bin ⟨rfl, rfl, rfl, rfl⟩ rfl rfl (Bin.catO hs1) ?_
      refine SL.asg ⟨rfl, rfl, rfl, rfl⟩ rfl ?_
      refine SL.nx ?_
      refine SX.region ?_
      obtain ⟨q1, hq1, h⟩ := bnd h
      refine SL.mv ⟨rfl, rfl, rfl, rfl⟩ rfl ?_
      refine SL.bin ⟨rfl, rfl, rfl, rfl⟩ rfl rfl (Bin.div64O (b := 256) hq1) ?_
      refine SL.asg ⟨rfl, rfl, rfl, rfl⟩ rfl ?_
      refine SL.nil ?_
      refine SQ.blk ?_
      refine SQ.thn ?_
      refine SX.region ?_
      obtain ⟨i_1, ei_1, h⟩ := retE h
      refine SL.mv ⟨rfl, rfl, rfl, rfl⟩ rfl ?_
      refine SL.bin ⟨rfl, rfl, rfl, rfl⟩ rfl rfl Bin.addW ?_
      refine SL.asgX (u := vI i_1) ⟨rfl, rfl, rfl, rfl⟩ rfl (by rw [ei_1]) ?_
      refine SL.nil ?_
      exact SQ.again (m1, q1, s1, i_1) h (Nat.lt_succ_self _) (by repeat' (first | exact trivial | refine And.intro rfl ?_)) (fun _ hw => HpOk.pick (H := [_]) hw [] 1 rfl)
    · skip
      replace h := cF hc1 h
      refine SX.exit ?_
      refine SQ.thnE ?_
      refine SQ.lpE ?_
      refine SQ.blkE ?_
      exact SQ.midD a3 h (by repeat' (first | exact trivial | refine And.intro rfl ?_)) (fun _ hw => HpOk.pick (H := []) hw [] 0 rfl)
  · skip
    unfold f_ref06_put_j1 at h
    refine SX.re [(5, vS a1)] (H) ?_ (by repeat' (first | exact trivial | refine And.intro rfl ?_))
    refine SX.sr ?_
    refine SL.mv ⟨rfl, rfl, rfl, rfl⟩ rfl ?_
    refine SL.asg ⟨rfl, rfl, rfl, rfl⟩ rfl ?_
    refine SL.nx ?_
    refine SX.ret ?_
    obtain rfl := Option.some.inj h
    exact SQ.fret (res1 rfl rfl) (ret_of (M := []) ⟨rfl, rfl⟩ fun _ hw => HpOk.pick (H := []) hw [] 0 rfl)

def f_ref06_get_j1 (a1 : UInt64) : Option UInt64 :=
  some a1
def f_ref06_get_l1_b (p0 : List UInt8) (nx_f_ref06_get_l1 : UInt64 × Int → Option UInt64) (a2 : UInt64) (a3 : Int) : Option UInt64 :=
  cond (decide (0 ≤ a3))
  (
    (nthI p0 a3).bind fun c1 =>
    ret ((256 * a2) + c1.toUInt64) fun x1 =>
    ret (wI (a3 - 1)) fun i_2 =>
    nx_f_ref06_get_l1 (x1, i_2))
  (
    f_ref06_get_j1 a2)
def f_ref06_get_l1 (p0 : List UInt8) : Nat → (UInt64 × Int) → Option UInt64 := loopN fun nx x => f_ref06_get_l1_b p0 nx x.1 x.2
def f_ref06_get (n : Nat) (p0 : List UInt8) : Option UInt64 :=
  ret (wI ((p0.length : Int) - 1)) fun i_1 =>
  f_ref06_get_l1 p0 n (0, i_1)
set_option maxRecDepth 100000 in
theorem c_ref06_get {n : Nat} {p0 : List UInt8} {r : UInt64} (h : f_ref06_get n p0 = some r)  : Con Tryd.prog K w0 23 [vS p0] [] H (fun u M => u = vU64 r ∧ M = []) := by
  unfold f_ref06_get at h
  refine Con.enter Tryd.func23 rfl rfl ?_
  refine SX.sr ?_
  refine SL.asg ⟨rfl, rfl, rfl, rfl⟩ rfl ?_
  refine SL.nx ?_
  refine SX.sr ?_
  refine SL.asg ⟨rfl, rfl, rfl, rfl⟩ rfl ?_
  refine SL.nx ?_
  refine SX.meetD (α := UInt64) (fun x => f_ref06_get_j1 x = some r) (fun x => [(3, vU64 x)]) (fun x => H) ?_ (fun a1 D h => ?_)
  · skip
    refine SX.sr ?_
    obtain ⟨i_1, ei_1, h⟩ := retE h
    refine SL.mv ⟨rfl, rfl, rfl, rfl⟩ rfl ?_
    refine SL.lenS ⟨rfl, rfl, rfl, rfl⟩ ty9 rfl ?_
    refine SL.bin ⟨rfl, rfl, rfl, rfl⟩ rfl rfl Bin.subW ?_
    refine SL.asgX (u := vI i_1) ⟨rfl, rfl, rfl, rfl⟩ rfl (by rw [ei_1]) ?_
    refine SL.nx ?_
    refine SX.block ?_
    refine SX.heap (SX.mono (SX.loop (α := Nat × UInt64 × Int) (fun x => f_ref06_get_l1 p0 x.1 (x.2.1, x.2.2) = some r) (fun x => [(0, vS p0), (3, vU64 x.2.1), (4, vI x.2.2)]) (fun x => H) (fun x => x.1) (fun x D h => ?_) (n, 0, i_1) h) (by repeat' (first | exact trivial | refine And.intro rfl ?_))) (fun _ hw => HpOk.pick (H := []) hw [] 0 rfl)
    obtain ⟨m1, a2, a3⟩ := x
    dsimp only at h
    rcases m1 with _ | m1
    · cases (show (none : Option _) = some r from h)
    replace h : f_ref06_get_l1_b p0 (f_ref06_get_l1 p0 m1) a2 a3 = some r := h
    unfold f_ref06_get_l1_b at h
    refine SX.re [(0, vS p0), (3, vU64 a2), (4, vI a3)] (H) ?_ (by repeat' (first | exact trivial | refine And.intro rfl ?_))
    refine SX.seq ?_
    refine SX.sr ?_
    refine SL.mv ⟨rfl, rfl, rfl, rfl⟩ rfl ?_
    refine SL.bin ⟨rfl, rfl, rfl, rfl⟩ rfl rfl Bin.geI ?_
    refine SL.nx ?_
    refine SX.cond rfl (fun hc1 => ?_) (fun hc1 => ?_)
    · skip
      replace h := cT hc1 h
      refine SX.skip ?_
      refine SQ.thn ?_
      refine SX.seq ?_
      refine SX.block ?_
      refine SX.region ?_
      obtain ⟨c1, hc1, h⟩ := bnd h
      obtain ⟨x1, ex1, h⟩ := retE h
      refine SL.mv ⟨rfl, rfl, rfl, rfl⟩ rfl ?_
      refine SL.bin ⟨rfl, rfl, rfl, rfl⟩ rfl rfl (Bin.mul64 (a := 256)) ?_
      refine SL.mv ⟨rfl, rfl, rfl, rfl⟩ rfl ?_
      refine SL.mv ⟨rfl, rfl, rfl, rfl⟩ rfl ?_
      refine SL.ixN hc1 ⟨rfl, rfl, rfl, rfl⟩ ty9 rfl rfl ?_
      refine SL.cv ⟨rfl, rfl, rfl, rfl⟩ rfl (Cv.u8_64 ty5 ty23) ?_
      refine SL.bin ⟨rfl, rfl, rfl, rfl⟩ rfl rfl Bin.add64 ?_
      refine SL.asgX (u := vU64 x1) ⟨rfl, rfl, rfl, rfl⟩ rfl (by rw [ex1]) ?_
      refine SL.nil ?_
      refine SQ.blk ?_
      refine SQ.thn ?_
      refine SX.region ?_
      obtain ⟨i_2, ei_2, h⟩ := retE h
      refine SL.mv ⟨rfl, rfl, rfl, rfl⟩ rfl ?_
      refine SL.bin ⟨rfl, rfl, rfl, rfl⟩ rfl rfl Bin.subW ?_
      refine SL.asgX (u := vI i_2) ⟨rfl, rfl, rfl, rfl⟩ rfl (by rw [ei_2]) ?_
      refine SL.nil ?_
      exact SQ.again (m1, x1, i_2) h (Nat.lt_succ_self _) (by repeat' (first | exact trivial | refine And.intro rfl ?_)) (fun _ hw => HpOk.pick (H := []) hw [] 0 rfl)
    · skip
      replace h := cF hc1 h
      refine SX.exit ?_
      refine SQ.thnE ?_
      refine SQ.lpE ?_
      refine SQ.blkE ?_
      exact SQ.midD a2 h (by repeat' (first | exact trivial | refine And.intro rfl ?_)) (fun _ hw => HpOk.pick (H := []) hw [] 0 rfl)
  · skip
    unfold f_ref06_get_j1 at h
    refine SX.re [(3, vU64 a1)] (H) ?_ (by repeat' (first | exact trivial | refine And.intro rfl ?_))
    refine SX.sr ?_
    refine SL.mv ⟨rfl, rfl, rfl, rfl⟩ rfl ?_
    refine SL.asg ⟨rfl, rfl, rfl, rfl⟩ rfl ?_
    refine SL.nx ?_
    refine SX.ret ?_
    obtain rfl := Option.some.inj h
    exact SQ.fret (res1 rfl rfl) (ret_of (M := []) ⟨rfl, rfl⟩ fun _ hw => HpOk.pick (H := []) hw [] 0 rfl)

def f_ref06_Put (n : Nat) (p0 : HeadA) : Option (List UInt8) :=
  (f_ref06_put n p0.page.toUInt64 4).bind fun y1 =>
  (f_ref06_put n p0.gen.toUInt64 4).bind fun y2 =>
  (catS y1 y2).bind fun s1 =>
  (f_ref06_put n p0.boot.toUInt64 4).bind fun y3 =>
  (catS s1 y3).bind fun s2 =>
  (f_ref06_put n p0.seq 8).bind fun y4 =>
  (catS s2 y4).bind fun s3 =>
  (catS s3 [0, 0, 0, 0]).bind fun s4 =>
  some s4
set_option maxRecDepth 100000 in
theorem c_ref06_Put {n : Nat} {p0 : HeadA} {r : List UInt8} (h : f_ref06_Put n p0 = some r)  : Con Tryd.prog K w0 14 [.agg (encHead p0).toArray] [] H (fun u M => u = vS r ∧ M = []) := by
  unfold f_ref06_Put at h
  refine Con.enter Tryd.func14 rfl rfl ?_
  refine SX.sr ?_
  refine SL.box ⟨rfl, rfl, rfl, rfl⟩ rfl (fun _ => trivial) fun b1 => ?_
  refine SL.asg ⟨rfl, rfl, rfl, rfl⟩ rfl ?_
  refine SL.nx ?_
  refine SX.seq ?_
  obtain ⟨y1, hy1, h⟩ := bnd h
  obtain ⟨y2, hy2, h⟩ := bnd h
  obtain ⟨s1, hs1, h⟩ := bnd h
  obtain ⟨y3, hy3, h⟩ := bnd h
  obtain ⟨s2, hs2, h⟩ := bnd h
  obtain ⟨y4, hy4, h⟩ := bnd h
  obtain ⟨s3, hs3, h⟩ := bnd h
  obtain ⟨s4, hs4, h⟩ := bnd h
  refine SX.drawI mix [0] (Pl.ap [(true, 0), (true, 1), (true, 2), (true, 4), (true, 5), (true, 6), (true, 9), (true, 10), (true, 11), (true, 14), (true, 15), (false, 3), (false, 7), (true, 8), (false, 12), (true, 13), (false, 16)] (.last 17 (Pl.of [(false, 18), (false, 19)]))) (by kernel_rfl) ?_
  refine SL.fa ⟨rfl, rfl, rfl, rfl⟩ rfl fo25_0 ?_
  refine SL.ld ⟨rfl, rfl, rfl, rfl⟩ sc22 rfl (cell_own 0 rfl rfl) ?_
  refine SL.cv ⟨rfl, rfl, rfl, rfl⟩ rfl (Cv.u32_64 ty22 ty23) ?_
  refine SL.fa ⟨rfl, rfl, rfl, rfl⟩ rfl fo25_1 ?_
  refine SL.ld ⟨rfl, rfl, rfl, rfl⟩ sc22 rfl (cell_own 0 rfl rfl) ?_
  refine SL.cv ⟨rfl, rfl, rfl, rfl⟩ rfl (Cv.u32_64 ty22 ty23) ?_
  refine SL.fa ⟨rfl, rfl, rfl, rfl⟩ rfl fo25_2 ?_
  refine SL.ld ⟨rfl, rfl, rfl, rfl⟩ sc22 rfl (cell_own 0 rfl rfl) ?_
  refine SL.cv ⟨rfl, rfl, rfl, rfl⟩ rfl (Cv.u32_64 ty22 ty23) ?_
  refine SL.fa ⟨rfl, rfl, rfl, rfl⟩ rfl fo25_3 ?_
  refine SL.ld ⟨rfl, rfl, rfl, rfl⟩ sc23 rfl (cell_own 0 rfl rfl) ?_
  refine SL.call (vs := [_, _]) (Hin := []) (Hr := _ :: _) ⟨rfl, rfl, rfl, rfl⟩ rfl ⟨rfl, rfl, trivial⟩ cal27 rfl rfl (c_ref06_put hy1) ?_
  rintro _ _ ⟨rfl, rfl⟩
  refine ⟨⟨⟨0, rfl⟩, trivial⟩, ?_⟩
  refine SL.call (vs := [_, _]) (Hin := []) (Hr := _ :: _) ⟨rfl, rfl, rfl, rfl⟩ rfl ⟨rfl, rfl, trivial⟩ cal27 rfl rfl (c_ref06_put hy2) ?_
  rintro _ _ ⟨rfl, rfl⟩
  refine ⟨⟨⟨0, rfl⟩, trivial⟩, ?_⟩
  refine SL.bin ⟨rfl, rfl, rfl, rfl⟩ rfl rfl (Bin.catO hs1) ?_
  refine SL.call (vs := [_, _]) (Hin := []) (Hr := _ :: _) ⟨rfl, rfl, rfl, rfl⟩ rfl ⟨rfl, rfl, trivial⟩ cal27 rfl rfl (c_ref06_put hy3) ?_
  rintro _ _ ⟨rfl, rfl⟩
  refine ⟨⟨⟨0, rfl⟩, trivial⟩, ?_⟩
  refine SL.bin ⟨rfl, rfl, rfl, rfl⟩ rfl rfl (Bin.catO hs2) ?_
  refine SL.call (vs := [_, _]) (Hin := []) (Hr := _ :: _) ⟨rfl, rfl, rfl, rfl⟩ rfl ⟨rfl, rfl, trivial⟩ cal27 rfl rfl (c_ref06_put hy4) ?_
  rintro _ _ ⟨rfl, rfl⟩
  refine ⟨⟨⟨0, rfl⟩, trivial⟩, ?_⟩
  refine SL.last ?_
  refine SL.bin ⟨rfl, rfl, rfl, rfl⟩ rfl rfl (Bin.catO hs3) ?_
  refine SL.bin ⟨rfl, rfl, rfl, rfl⟩ rfl rfl (Bin.catO hs4) ?_
  refine SL.asg ⟨rfl, rfl, rfl, rfl⟩ rfl ?_
  refine SL.nx ?_
  refine SX.ret ?_
  obtain rfl := Option.some.inj h
  exact SQ.fret (res1 rfl rfl) (ret_of (M := []) ⟨rfl, rfl⟩ fun _ hw => HpOk.pick (H := [_]) hw [] 1 rfl)

def f_ref06_Get (n : Nat) (p0 : List UInt8) : Option (HeadA × Bool) :=
  (orO (!decide ((p0.length : Int) = 24)) ((slcI p0 20 (p0.length : Int)).bind fun s1 => some (!decide (s1 = [0, 0, 0, 0])))).bind fun y1 =>
  cond y1
  (
    some ((⟨0, 0, 0, 0⟩ : HeadA), false))
  (
    (slcI p0 0 4).bind fun s2 =>
    (f_ref06_get n s2).bind fun y2 =>
    (slcI p0 4 8).bind fun s3 =>
    (f_ref06_get n s3).bind fun y3 =>
    (slcI p0 8 12).bind fun s4 =>
    (f_ref06_get n s4).bind fun y4 =>
    (slcI p0 12 20).bind fun s5 =>
    (f_ref06_get n s5).bind fun y5 =>
    some ((⟨y2.toUInt32, y3.toUInt32, y4.toUInt32, y5⟩ : HeadA), true))
set_option maxRecDepth 100000 in
theorem c_ref06_Get {n : Nat} {p0 : List UInt8} {r : HeadA × Bool} (h : f_ref06_Get n p0 = some r)  : Con Tryd.prog K w0 12 [vS p0] [] H (fun u M => u = .tuple #[.agg (encHead r.1).toArray, vB r.2] ∧ M = []) := by
  unfold f_ref06_Get at h
  refine Con.enter Tryd.func12 rfl rfl ?_
  refine SX.sr ?_
  refine SL.alloc ⟨rfl, rfl, rfl, rfl⟩ ze25 (fun _ => trivial) fun b1 => ?_
  refine SL.asg ⟨rfl, rfl, rfl, rfl⟩ rfl ?_
  refine SL.nx ?_
  refine SX.seq ?_
  refine SX.sr ?_
  obtain ⟨y1, hy1, h⟩ := bnd h
  refine SL.mv ⟨rfl, rfl, rfl, rfl⟩ rfl ?_
  refine SL.lenS ⟨rfl, rfl, rfl, rfl⟩ ty9 rfl ?_
  refine SL.bin ⟨rfl, rfl, rfl, rfl⟩ rfl rfl Bin.neI ?_
  refine SL.mv ⟨rfl, rfl, rfl, rfl⟩ rfl ?_
  refine SL.orN 7 4 11 hy1 rfl (fun hb k => ?_) (fun hb hg1 k => ?_) ?_
  · skip
    refine SL.pass rfl rfl rfl ?_
    refine SL.pass rfl rfl rfl ?_
    refine SL.pass rfl rfl rfl ?_
    refine SL.pk ⟨rfl, rfl, rfl, rfl⟩ rfl rfl ?_
    exact k.mono (by repeat' (first | exact trivial | refine And.intro rfl ?_))
  · skip
    obtain ⟨s1, hs1, hg1⟩ := bnd hg1
    obtain rfl := Option.some.inj hg1
    refine SL.mv ⟨rfl, rfl, rfl, rfl⟩ rfl ?_
    refine SL.slNl hs1 ⟨rfl, rfl, rfl, rfl⟩ ty9 rfl rfl ?_
    refine SL.bin ⟨rfl, rfl, rfl, rfl⟩ rfl rfl Bin.neS ?_
    refine SL.pk ⟨rfl, rfl, rfl, rfl⟩ rfl rfl ?_
    exact k.mono (by repeat' (first | exact trivial | refine And.intro rfl ?_))
  refine SL.nx ?_
  refine SX.cond rfl (fun hc1 => ?_) (fun hc1 => ?_)
  · skip
    replace h := cT hc1 h
    refine SX.sr ?_
    refine SL.bld [] ⟨rfl, rfl, rfl, rfl⟩ pl25 pk25 ze25 trivial rfl ?_
    refine SL.st 0 ⟨rfl, rfl, rfl⟩ rfl rfl rfl sz25 rfl rfl rfl trivial ?_
    refine SL.asg ⟨rfl, rfl, rfl, rfl⟩ rfl ?_
    refine SL.nx ?_
    refine SX.ret ?_
    refine SQ.thnR ?_
    obtain rfl := Option.some.inj h
    exact SQ.fret (resv2 rfl (resv.ag 0 (encHead (⟨0, 0, 0, 0⟩ : HeadA)) ag25 rfl rfl rfl rfl) rfl) (ret_of (M := []) ⟨rfl, rfl⟩ fun _ hw => HpOk.pick (H := [_]) hw [] 1 rfl)
  · skip
    replace h := cF hc1 h
    refine SX.skip ?_
    refine SQ.thn ?_
    refine SX.seq ?_
    obtain ⟨s2, hs2, h⟩ := bnd h
    obtain ⟨y2, hy2, h⟩ := bnd h
    obtain ⟨s3, hs3, h⟩ := bnd h
    obtain ⟨y3, hy3, h⟩ := bnd h
    obtain ⟨s4, hs4, h⟩ := bnd h
    obtain ⟨y4, hy4, h⟩ := bnd h
    obtain ⟨s5, hs5, h⟩ := bnd h
    obtain ⟨y5, hy5, h⟩ := bnd h
    refine SX.drawI mix [] (Pl.ap [(true, 0), (true, 1), (true, 4), (true, 5), (true, 8), (true, 9), (true, 12), (true, 13), (false, 2), (true, 3), (false, 6), (true, 7), (false, 10), (true, 11), (false, 14), (true, 15)] (.last 16 (Pl.of [(false, 17)]))) (by kernel_rfl) ?_
    refine SL.mv ⟨rfl, rfl, rfl, rfl⟩ rfl ?_
    refine SL.slNh hs2 ⟨rfl, rfl, rfl, rfl⟩ ty9 rfl rfl ?_
    refine SL.mv ⟨rfl, rfl, rfl, rfl⟩ rfl ?_
    refine SL.slN hs3 ⟨rfl, rfl, rfl, rfl⟩ ty9 rfl rfl rfl ?_
    refine SL.mv ⟨rfl, rfl, rfl, rfl⟩ rfl ?_
    refine SL.slN hs4 ⟨rfl, rfl, rfl, rfl⟩ ty9 rfl rfl rfl ?_
    refine SL.mv ⟨rfl, rfl, rfl, rfl⟩ rfl ?_
    refine SL.slN hs5 ⟨rfl, rfl, rfl, rfl⟩ ty9 rfl rfl rfl ?_
    refine SL.call (vs := [_]) (Hin := []) (Hr := _ :: _) ⟨rfl, rfl, rfl, rfl⟩ rfl ⟨rfl, trivial⟩ cal23 rfl rfl (c_ref06_get hy2) ?_
    rintro _ _ ⟨rfl, rfl⟩
    refine ⟨trivial, ?_⟩
    refine SL.cv ⟨rfl, rfl, rfl, rfl⟩ rfl (Cv.u64_32 ty23 ty22) ?_
    refine SL.call (vs := [_]) (Hin := []) (Hr := _ :: _) ⟨rfl, rfl, rfl, rfl⟩ rfl ⟨rfl, trivial⟩ cal23 rfl rfl (c_ref06_get hy3) ?_
    rintro _ _ ⟨rfl, rfl⟩
    refine ⟨trivial, ?_⟩
    refine SL.cv ⟨rfl, rfl, rfl, rfl⟩ rfl (Cv.u64_32 ty23 ty22) ?_
    refine SL.call (vs := [_]) (Hin := []) (Hr := _ :: _) ⟨rfl, rfl, rfl, rfl⟩ rfl ⟨rfl, trivial⟩ cal23 rfl rfl (c_ref06_get hy4) ?_
    rintro _ _ ⟨rfl, rfl⟩
    refine ⟨trivial, ?_⟩
    refine SL.cv ⟨rfl, rfl, rfl, rfl⟩ rfl (Cv.u64_32 ty23 ty22) ?_
    refine SL.call (vs := [_]) (Hin := []) (Hr := _ :: _) ⟨rfl, rfl, rfl, rfl⟩ rfl ⟨rfl, trivial⟩ cal23 rfl rfl (c_ref06_get hy5) ?_
    rintro _ _ ⟨rfl, rfl⟩
    refine ⟨trivial, ?_⟩
    refine SL.bld [_, _, _, _] ⟨rfl, rfl, rfl, rfl⟩ pl25 pk25 ze25 ⟨rfl, rfl, rfl, rfl, trivial⟩ rfl ?_
    refine SL.last ?_
    refine SL.st 0 ⟨rfl, rfl, rfl⟩ rfl rfl rfl sz25 rfl rfl rfl trivial ?_
    refine SL.asg ⟨rfl, rfl, rfl, rfl⟩ rfl ?_
    refine SL.nx ?_
    refine SX.ret ?_
    obtain rfl := Option.some.inj h
    exact SQ.fret (resv2 rfl (resv.ag 0 (encHead (⟨y2.toUInt32, y3.toUInt32, y4.toUInt32, y5⟩ : HeadA)) ag25 rfl rfl rfl rfl) rfl) (ret_of (M := []) ⟨rfl, rfl⟩ fun _ hw => HpOk.pick (H := [_]) hw [] 1 rfl)

def f_ref06_Nonce (n : Nat) (p0 : HeadA) : Option (List UInt8) :=
  (f_ref06_put n p0.boot.toUInt64 4).bind fun y1 =>
  (f_ref06_put n p0.seq 8).bind fun y2 =>
  (catS y1 y2).bind fun s1 =>
  some s1
set_option maxRecDepth 100000 in
theorem c_ref06_Nonce {n : Nat} {p0 : HeadA} {r : List UInt8} (h : f_ref06_Nonce n p0 = some r)  : Con Tryd.prog K w0 43 [.agg (encHead p0).toArray] [] H (fun u M => u = vS r ∧ M = []) := by
  unfold f_ref06_Nonce at h
  refine Con.enter Tryd.func43 rfl rfl ?_
  refine SX.sr ?_
  refine SL.box ⟨rfl, rfl, rfl, rfl⟩ rfl (fun _ => trivial) fun b1 => ?_
  refine SL.asg ⟨rfl, rfl, rfl, rfl⟩ rfl ?_
  refine SL.nx ?_
  refine SX.seq ?_
  obtain ⟨y1, hy1, h⟩ := bnd h
  obtain ⟨y2, hy2, h⟩ := bnd h
  obtain ⟨s1, hs1, h⟩ := bnd h
  refine SX.drawI mix [0] (Pl.ap [(true, 0), (true, 1), (true, 2), (true, 4), (true, 5), (false, 3)] (.last 6 (Pl.of [(false, 7), (false, 8)]))) (by kernel_rfl) ?_
  refine SL.fa ⟨rfl, rfl, rfl, rfl⟩ rfl fo25_2 ?_
  refine SL.ld ⟨rfl, rfl, rfl, rfl⟩ sc22 rfl (cell_own 0 rfl rfl) ?_
  refine SL.cv ⟨rfl, rfl, rfl, rfl⟩ rfl (Cv.u32_64 ty22 ty23) ?_
  refine SL.fa ⟨rfl, rfl, rfl, rfl⟩ rfl fo25_3 ?_
  refine SL.ld ⟨rfl, rfl, rfl, rfl⟩ sc23 rfl (cell_own 0 rfl rfl) ?_
  refine SL.call (vs := [_, _]) (Hin := []) (Hr := _ :: _) ⟨rfl, rfl, rfl, rfl⟩ rfl ⟨rfl, rfl, trivial⟩ cal27 rfl rfl (c_ref06_put hy1) ?_
  rintro _ _ ⟨rfl, rfl⟩
  refine ⟨⟨⟨0, rfl⟩, trivial⟩, ?_⟩
  refine SL.last ?_
  refine SL.call (vs := [_, _]) (Hin := []) (Hr := _ :: _) ⟨rfl, rfl, rfl, rfl⟩ rfl ⟨rfl, rfl, trivial⟩ cal27 rfl rfl (c_ref06_put hy2) ?_
  rintro _ _ ⟨rfl, rfl⟩
  refine ⟨trivial, ?_⟩
  refine SL.bin ⟨rfl, rfl, rfl, rfl⟩ rfl rfl (Bin.catO hs1) ?_
  refine SL.asg ⟨rfl, rfl, rfl, rfl⟩ rfl ?_
  refine SL.nx ?_
  refine SX.ret ?_
  obtain rfl := Option.some.inj h
  exact SQ.fret (res1 rfl rfl) (ret_of (M := []) ⟨rfl, rfl⟩ fun _ hw => HpOk.pick (H := [_]) hw [] 1 rfl)

def f_ref06_Bound (n : Nat) (T : List UInt32) (p0 : KeyA) (p1 : HeadA) (p2 : List UInt8) : Option (List UInt8) :=
  (f_ref04_Subs n T p0).bind fun y1 =>
  (f_ref06_Nonce n p1).bind fun y2 =>
  (f_ref01_Xor n y1.1 y2 p2).bind fun y3 =>
  (f_ref06_Put n p1).bind fun y4 =>
  (catS y4 y3.1).bind fun s1 =>
  some s1
set_option maxRecDepth 100000 in
theorem c_ref06_Bound {n : Nat} {T : List UInt32} {p0 : KeyA} {p1 : HeadA} {p2 : List UInt8} {r : List UInt8} (h : f_ref06_Bound n T p0 p1 p2 = some r) (hT : TabN K w0 1 64 T) : Con Tryd.prog K w0 35 [.agg (encKey p0).toArray, .agg (encHead p1).toArray, vS p2] [] H (fun u M => u = vS r ∧ M = []) := by
  unfold f_ref06_Bound at h
  refine Con.enter Tryd.func35 rfl rfl ?_
  refine SX.sr ?_
  refine SL.box ⟨rfl, rfl, rfl, rfl⟩ rfl (fun _ => trivial) fun b1 => ?_
  refine SL.box ⟨rfl, rfl, rfl, rfl⟩ rfl (fun _ => trivial) fun b2 => ?_
  refine SL.asg ⟨rfl, rfl, rfl, rfl⟩ rfl ?_
  refine SL.nx ?_
  refine SX.sr ?_
  obtain ⟨y1, hy1, h⟩ := bnd h
  refine SL.ldA [vU32 p0.gen, vS p0.secret] ⟨rfl, rfl, rfl, rfl⟩ ag44 rfl rfl (cells_all 1 rfl) ?_
  refine SL.call (vs := [_]) (Hin := []) (Hr := _ :: _ :: _) ⟨rfl, rfl, rfl, rfl⟩ rfl ⟨rfl, trivial⟩ cal36 rfl rfl (c_ref04_Subs hy1 hT) ?_
  rintro _ _ ⟨rfl, rfl⟩
  refine ⟨trivial, ?_⟩
  refine SL.mv ⟨rfl, rfl, rfl, rfl⟩ rfl ?_
  refine SL.ext ⟨rfl, rfl, rfl, rfl⟩ rfl rfl ?_
  refine SL.ext ⟨rfl, rfl, rfl, rfl⟩ rfl rfl ?_
  refine SL.ext ⟨rfl, rfl, rfl, rfl⟩ rfl rfl ?_
  refine SL.asg ⟨rfl, rfl, rfl, rfl⟩ rfl ?_
  refine SL.asg ⟨rfl, rfl, rfl, rfl⟩ rfl ?_
  refine SL.asg ⟨rfl, rfl, rfl, rfl⟩ rfl ?_
  refine SL.nx ?_
  refine SX.sr ?_
  obtain ⟨y2, hy2, h⟩ := bnd h
  obtain ⟨y3, hy3, h⟩ := bnd h
  refine SL.mv ⟨rfl, rfl, rfl, rfl⟩ rfl ?_
  refine SL.ldA [vU32 p1.page, vU32 p1.gen, vU32 p1.boot, vU64 p1.seq] ⟨rfl, rfl, rfl, rfl⟩ ag25 rfl rfl (cells_all 0 rfl) ?_
  refine SL.call (vs := [_]) (Hin := []) (Hr := _ :: _ :: _) ⟨rfl, rfl, rfl, rfl⟩ rfl ⟨rfl, trivial⟩ cal43 rfl rfl (c_ref06_Nonce hy2) ?_
  rintro _ _ ⟨rfl, rfl⟩
  refine ⟨trivial, ?_⟩
  refine SL.mv ⟨rfl, rfl, rfl, rfl⟩ rfl ?_
  refine SL.call (vs := [_, _, _]) (Hin := []) (Hr := _ :: _ :: _) ⟨rfl, rfl, rfl, rfl⟩ rfl ⟨rfl, rfl, rfl, trivial⟩ cal42 rfl rfl (c_ref01_Xor hy3) ?_
  rintro _ _ ⟨rfl, rfl⟩
  refine ⟨trivial, ?_⟩
  refine SL.mv ⟨rfl, rfl, rfl, rfl⟩ rfl ?_
  refine SL.ext ⟨rfl, rfl, rfl, rfl⟩ rfl rfl ?_
  refine SL.ext ⟨rfl, rfl, rfl, rfl⟩ rfl rfl ?_
  refine SL.asg ⟨rfl, rfl, rfl, rfl⟩ rfl ?_
  refine SL.asg ⟨rfl, rfl, rfl, rfl⟩ rfl ?_
  refine SL.nx ?_
  refine SX.sr ?_
  obtain ⟨y4, hy4, h⟩ := bnd h
  obtain ⟨s1, hs1, h⟩ := bnd h
  refine SL.ldA [vU32 p1.page, vU32 p1.gen, vU32 p1.boot, vU64 p1.seq] ⟨rfl, rfl, rfl, rfl⟩ ag25 rfl rfl (cells_all 0 rfl) ?_
  refine SL.call (vs := [_]) (Hin := []) (Hr := _ :: _ :: _) ⟨rfl, rfl, rfl, rfl⟩ rfl ⟨rfl, trivial⟩ cal14 rfl rfl (c_ref06_Put hy4) ?_
  rintro _ _ ⟨rfl, rfl⟩
  refine ⟨trivial, ?_⟩
  refine SL.mv ⟨rfl, rfl, rfl, rfl⟩ rfl ?_
  refine SL.bin ⟨rfl, rfl, rfl, rfl⟩ rfl rfl (Bin.catO hs1) ?_
  refine SL.asg ⟨rfl, rfl, rfl, rfl⟩ rfl ?_
  refine SL.nx ?_
  refine SX.ret ?_
  obtain rfl := Option.some.inj h
  exact SQ.fret (res1 rfl rfl) (ret_of (M := []) ⟨rfl, rfl⟩ fun _ hw => HpOk.pick (H := [_, _]) hw [] 2 rfl)

def f_ref06_Seal (n : Nat) (T : List UInt32) (p0 : List KeyA) (p1 : HeadA) (p2 : List UInt8) : Option (List UInt8 × Int) :=
  (f_ref04_Find n p0 p1.gen).bind fun y1 =>
  cond (!decide (y1.2 = 0))
  (
    some ([], y1.2))
  (
    (f_ref05_Pad n p2).bind fun y2 =>
    cond (!decide (y2.2 = 0))
    (
      some ([], y2.2))
    (
      (f_ref06_Bound n T y1.1 p1 y2.1).bind fun y3 =>
      (f_ref04_Subs n T y1.1).bind fun y4 =>
      (f_ref03_Mac n T y4.2.1 y3).bind fun y5 =>
      (catS y3 y5).bind fun s1 =>
      some (s1, 0)))
set_option maxRecDepth 100000 in
theorem c_ref06_Seal {n : Nat} {T : List UInt32} {v0_ : Value} {p0 : List KeyA} {p1 : HeadA} {p2 : List UInt8} {r : List UInt8 × Int} (h : f_ref06_Seal n T p0 p1 p2 = some r) (hT : TabN K w0 1 64 T) (hs0_ : SlOf K w0 encKey 2 v0_ p0) : Con Tryd.prog K w0 18 [v0_, .agg (encHead p1).toArray, vS p2] [] H (fun u M => u = .tuple #[vS r.1, vI r.2] ∧ M = []) := by
  unfold f_ref06_Seal at h
  refine Con.enter Tryd.func18 rfl rfl ?_
  refine SX.sr ?_
  refine SL.box ⟨rfl, rfl, rfl, rfl⟩ rfl (fun _ => trivial) fun b1 => ?_
  refine SL.asg ⟨rfl, rfl, rfl, rfl⟩ rfl ?_
  refine SL.asg ⟨rfl, rfl, rfl, rfl⟩ rfl ?_
  refine SL.nx ?_
  refine SX.sr ?_
  obtain ⟨y1, hy1, h⟩ := bnd h
  refine SL.mv ⟨rfl, rfl, rfl, rfl⟩ rfl ?_
  refine SL.fa ⟨rfl, rfl, rfl, rfl⟩ rfl fo25_1 ?_
  refine SL.ld ⟨rfl, rfl, rfl, rfl⟩ sc22 rfl (cell_own 0 rfl rfl) ?_
  refine SL.call (vs := [_, _]) (Hin := []) (Hr := _ :: _) ⟨rfl, rfl, rfl, rfl⟩ rfl ⟨rfl, rfl, trivial⟩ cal33 rfl rfl (c_ref04_Find hy1 hs0_) ?_
  rintro _ _ ⟨rfl, rfl⟩
  refine ⟨trivial, ?_⟩
  refine SL.mv ⟨rfl, rfl, rfl, rfl⟩ rfl ?_
  refine SL.ext ⟨rfl, rfl, rfl, rfl⟩ rfl rfl ?_
  refine SL.ext ⟨rfl, rfl, rfl, rfl⟩ rfl rfl ?_
  refine SL.alloc ⟨rfl, rfl, rfl, rfl⟩ ze44 (fun _ => trivial) fun b2 => ?_
  refine SL.st 0 ⟨rfl, rfl, rfl⟩ rfl rfl rfl sz44 rfl rfl rfl trivial ?_
  refine SL.asg ⟨rfl, rfl, rfl, rfl⟩ rfl ?_
  refine SL.nx ?_
  refine SX.seq ?_
  refine SX.sr ?_
  refine SL.mv ⟨rfl, rfl, rfl, rfl⟩ rfl ?_
  refine SL.bin ⟨rfl, rfl, rfl, rfl⟩ rfl rfl Bin.neI ?_
  refine SL.nx ?_
  refine SX.cond rfl (fun hc1 => ?_) (fun hc1 => ?_)
  · skip
    replace h := cT hc1 h
    refine SX.sr ?_
    refine SL.mv ⟨rfl, rfl, rfl, rfl⟩ rfl ?_
    refine SL.asg ⟨rfl, rfl, rfl, rfl⟩ rfl ?_
    refine SL.asg ⟨rfl, rfl, rfl, rfl⟩ rfl ?_
    refine SL.nx ?_
    refine SX.ret ?_
    refine SQ.thnR ?_
    obtain rfl := Option.some.inj h
    exact SQ.fret (res2 rfl rfl rfl) (ret_of (M := []) ⟨rfl, rfl⟩ fun _ hw => HpOk.pick (H := [_, _]) hw [] 2 rfl)
  · skip
    replace h := cF hc1 h
    refine SX.skip ?_
    refine SQ.thn ?_
    refine SX.sr ?_
    obtain ⟨y2, hy2, h⟩ := bnd h
    refine SL.mv ⟨rfl, rfl, rfl, rfl⟩ rfl ?_
    refine SL.call (vs := [_]) (Hin := []) (Hr := _ :: _ :: _) ⟨rfl, rfl, rfl, rfl⟩ rfl ⟨rfl, trivial⟩ cal34 rfl rfl (c_ref05_Pad hy2) ?_
    rintro _ _ ⟨rfl, rfl⟩
    refine ⟨trivial, ?_⟩
    refine SL.mv ⟨rfl, rfl, rfl, rfl⟩ rfl ?_
    refine SL.ext ⟨rfl, rfl, rfl, rfl⟩ rfl rfl ?_
    refine SL.ext ⟨rfl, rfl, rfl, rfl⟩ rfl rfl ?_
    refine SL.asg ⟨rfl, rfl, rfl, rfl⟩ rfl ?_
    refine SL.asg ⟨rfl, rfl, rfl, rfl⟩ rfl ?_
    refine SL.nx ?_
    refine SX.seq ?_
    refine SX.sr ?_
    refine SL.mv ⟨rfl, rfl, rfl, rfl⟩ rfl ?_
    refine SL.bin ⟨rfl, rfl, rfl, rfl⟩ rfl rfl Bin.neI ?_
    refine SL.nx ?_
    refine SX.cond rfl (fun hc2 => ?_) (fun hc2 => ?_)
    · skip
      replace h := cT hc2 h
      refine SX.sr ?_
      refine SL.mv ⟨rfl, rfl, rfl, rfl⟩ rfl ?_
      refine SL.asg ⟨rfl, rfl, rfl, rfl⟩ rfl ?_
      refine SL.asg ⟨rfl, rfl, rfl, rfl⟩ rfl ?_
      refine SL.nx ?_
      refine SX.ret ?_
      refine SQ.thnR ?_
      obtain rfl := Option.some.inj h
      exact SQ.fret (res2 rfl rfl rfl) (ret_of (M := []) ⟨rfl, rfl⟩ fun _ hw => HpOk.pick (H := [_, _]) hw [] 2 rfl)
    · skip
      replace h := cF hc2 h
      refine SX.skip ?_
      refine SQ.thn ?_
      refine SX.sr ?_
      obtain ⟨y3, hy3, h⟩ := bnd h
      refine SL.ldA [vU32 y1.1.gen, vS y1.1.secret] ⟨rfl, rfl, rfl, rfl⟩ ag44 rfl rfl (cells_all 0 rfl) ?_
      refine SL.ldA [vU32 p1.page, vU32 p1.gen, vU32 p1.boot, vU64 p1.seq] ⟨rfl, rfl, rfl, rfl⟩ ag25 rfl rfl (cells_all 1 rfl) ?_
      refine SL.mv ⟨rfl, rfl, rfl, rfl⟩ rfl ?_
      refine SL.call (vs := [_, _, _]) (Hin := []) (Hr := _ :: _ :: _) ⟨rfl, rfl, rfl, rfl⟩ rfl ⟨rfl, rfl, rfl, trivial⟩ cal35 rfl rfl (c_ref06_Bound hy3 hT) ?_
      rintro _ _ ⟨rfl, rfl⟩
      refine ⟨trivial, ?_⟩
      refine SL.asg ⟨rfl, rfl, rfl, rfl⟩ rfl ?_
      refine SL.nx ?_
      refine SX.sr ?_
      obtain ⟨y4, hy4, h⟩ := bnd h
      refine SL.ldA [vU32 y1.1.gen, vS y1.1.secret] ⟨rfl, rfl, rfl, rfl⟩ ag44 rfl rfl (cells_all 0 rfl) ?_
      refine SL.call (vs := [_]) (Hin := []) (Hr := _ :: _ :: _) ⟨rfl, rfl, rfl, rfl⟩ rfl ⟨rfl, trivial⟩ cal36 rfl rfl (c_ref04_Subs hy4 hT) ?_
      rintro _ _ ⟨rfl, rfl⟩
      refine ⟨trivial, ?_⟩
      refine SL.mv ⟨rfl, rfl, rfl, rfl⟩ rfl ?_
      refine SL.ext ⟨rfl, rfl, rfl, rfl⟩ rfl rfl ?_
      refine SL.ext ⟨rfl, rfl, rfl, rfl⟩ rfl rfl ?_
      refine SL.ext ⟨rfl, rfl, rfl, rfl⟩ rfl rfl ?_
      refine SL.asg ⟨rfl, rfl, rfl, rfl⟩ rfl ?_
      refine SL.asg ⟨rfl, rfl, rfl, rfl⟩ rfl ?_
      refine SL.asg ⟨rfl, rfl, rfl, rfl⟩ rfl ?_
      refine SL.nx ?_
      refine SX.sr ?_
      obtain ⟨y5, hy5, h⟩ := bnd h
      obtain ⟨s1, hs1, h⟩ := bnd h
      refine SL.mv ⟨rfl, rfl, rfl, rfl⟩ rfl ?_
      refine SL.mv ⟨rfl, rfl, rfl, rfl⟩ rfl ?_
      refine SL.mv ⟨rfl, rfl, rfl, rfl⟩ rfl ?_
      refine SL.call (vs := [_, _]) (Hin := []) (Hr := _ :: _ :: _) ⟨rfl, rfl, rfl, rfl⟩ rfl ⟨rfl, rfl, trivial⟩ cal37 rfl rfl (c_ref03_Mac hy5 hT) ?_
      rintro _ _ ⟨rfl, rfl⟩
      refine ⟨trivial, ?_⟩
      refine SL.bin ⟨rfl, rfl, rfl, rfl⟩ rfl rfl (Bin.catO hs1) ?_
      refine SL.asg ⟨rfl, rfl, rfl, rfl⟩ rfl ?_
      refine SL.asg ⟨rfl, rfl, rfl, rfl⟩ rfl ?_
      refine SL.nx ?_
      refine SX.ret ?_
      obtain rfl := Option.some.inj h
      exact SQ.fret (res2 rfl rfl rfl) (ret_of (M := []) ⟨rfl, rfl⟩ fun _ hw => HpOk.pick (H := [_, _]) hw [] 2 rfl)

def f_ref06_Open (n : Nat) (T : List UInt32) (p0 : List KeyA) (p1 : List UInt8) : Option (HeadA × List UInt8 × Int) :=
  (f_ref04_Right n p0).bind fun y1 =>
  cond (!y1)
  (
    some ((⟨0, 0, 0, 0⟩ : HeadA), [], 40))
  (
    cond (!decide ((p1.length : Int) = 256))
    (
      some ((⟨0, 0, 0, 0⟩ : HeadA), [], 61))
    (
      (slcI p1 0 24).bind fun s1 =>
      (f_ref06_Get n s1).bind fun y2 =>
      cond (!y2.2)
      (
        some ((⟨0, 0, 0, 0⟩ : HeadA), [], 61))
      (
        (f_ref04_Find n p0 y2.1.gen).bind fun y3 =>
        cond (!decide (y3.2 = 0))
        (
          some ((⟨0, 0, 0, 0⟩ : HeadA), [], y3.2))
        (
          (f_ref04_Subs n T y3.1).bind fun y4 =>
          (slcI p1 0 224).bind fun s2 =>
          (f_ref03_Mac n T y4.2.1 s2).bind fun y5 =>
          (slcI p1 224 (p1.length : Int)).bind fun s3 =>
          cond (!decide (y5 = s3))
          (
            some ((⟨0, 0, 0, 0⟩ : HeadA), [], 61))
          (
            (f_ref06_Nonce n y2.1).bind fun y6 =>
            (slcI p1 24 224).bind fun s4 =>
            (f_ref01_Xor n y4.1 y6 s4).bind fun y7 =>
            (f_ref05_Unpad n y7.1).bind fun y8 =>
            cond (!decide (y8.2 = 0))
            (
              some ((⟨0, 0, 0, 0⟩ : HeadA), [], 61))
            (
              some (y2.1, y8.1, 0)))))))
set_option maxRecDepth 100000 in
theorem c_ref06_Open {n : Nat} {T : List UInt32} {v0_ : Value} {p0 : List KeyA} {p1 : List UInt8} {r : HeadA × List UInt8 × Int} (h : f_ref06_Open n T p0 p1 = some r) (hT : TabN K w0 1 64 T) (hs0_ : SlOf K w0 encKey 2 v0_ p0) : Con Tryd.prog K w0 20 [v0_, vS p1] [] H (fun u M => u = .tuple #[.agg (encHead r.1).toArray, vS r.2.1, vI r.2.2] ∧ M = []) := by
  unfold f_ref06_Open at h
  refine Con.enter Tryd.func20 rfl rfl ?_
  refine SX.sr ?_
  refine SL.alloc ⟨rfl, rfl, rfl, rfl⟩ ze25 (fun _ => trivial) fun b1 => ?_
  refine SL.asg ⟨rfl, rfl, rfl, rfl⟩ rfl ?_
  refine SL.asg ⟨rfl, rfl, rfl, rfl⟩ rfl ?_
  refine SL.nx ?_
  refine SX.sr ?_
  obtain ⟨y1, hy1, h⟩ := bnd h
  refine SL.mv ⟨rfl, rfl, rfl, rfl⟩ rfl ?_
  refine SL.call (vs := [_]) (Hin := []) (Hr := _ :: _) ⟨rfl, rfl, rfl, rfl⟩ rfl ⟨rfl, trivial⟩ cal41 rfl rfl (c_ref04_Right hy1 hs0_) ?_
  rintro _ _ ⟨rfl, rfl⟩
  refine ⟨trivial, ?_⟩
  refine SL.asg ⟨rfl, rfl, rfl, rfl⟩ rfl ?_
  refine SL.nx ?_
  refine SX.seq ?_
  refine SX.sr ?_
  refine SL.mv ⟨rfl, rfl, rfl, rfl⟩ rfl ?_
  refine SL.not ⟨rfl, rfl, rfl, rfl⟩ rfl ?_
  refine SL.nx ?_
  refine SX.cond rfl (fun hc1 => ?_) (fun hc1 => ?_)
  · skip
    replace h := cT hc1 h
    refine SX.sr ?_
    refine SL.bld [] ⟨rfl, rfl, rfl, rfl⟩ pl25 pk25 ze25 trivial rfl ?_
    refine SL.st 0 ⟨rfl, rfl, rfl⟩ rfl rfl rfl sz25 rfl rfl rfl trivial ?_
    refine SL.asg ⟨rfl, rfl, rfl, rfl⟩ rfl ?_
    refine SL.asg ⟨rfl, rfl, rfl, rfl⟩ rfl ?_
    refine SL.nx ?_
    refine SX.ret ?_
    refine SQ.thnR ?_
    obtain rfl := Option.some.inj h
    exact SQ.fret (resv3 rfl (resv.ag 0 (encHead (⟨0, 0, 0, 0⟩ : HeadA)) ag25 rfl rfl rfl rfl) rfl rfl) (ret_of (M := []) ⟨rfl, rfl⟩ fun _ hw => HpOk.pick (H := [_]) hw [] 1 rfl)
  · skip
    replace h := cF hc1 h
    refine SX.skip ?_
    refine SQ.thn ?_
    refine SX.seq ?_
    refine SX.sr ?_
    refine SL.mv ⟨rfl, rfl, rfl, rfl⟩ rfl ?_
    refine SL.lenS ⟨rfl, rfl, rfl, rfl⟩ ty9 rfl ?_
    refine SL.bin ⟨rfl, rfl, rfl, rfl⟩ rfl rfl Bin.neI ?_
    refine SL.nx ?_
    refine SX.cond rfl (fun hc2 => ?_) (fun hc2 => ?_)
    · skip
      replace h := cT hc2 h
      refine SX.sr ?_
      refine SL.bld [] ⟨rfl, rfl, rfl, rfl⟩ pl25 pk25 ze25 trivial rfl ?_
      refine SL.st 0 ⟨rfl, rfl, rfl⟩ rfl rfl rfl sz25 rfl rfl rfl trivial ?_
      refine SL.asg ⟨rfl, rfl, rfl, rfl⟩ rfl ?_
      refine SL.asg ⟨rfl, rfl, rfl, rfl⟩ rfl ?_
      refine SL.nx ?_
      refine SX.ret ?_
      refine SQ.thnR ?_
      obtain rfl := Option.some.inj h
      exact SQ.fret (resv3 rfl (resv.ag 0 (encHead (⟨0, 0, 0, 0⟩ : HeadA)) ag25 rfl rfl rfl rfl) rfl rfl) (ret_of (M := []) ⟨rfl, rfl⟩ fun _ hw => HpOk.pick (H := [_]) hw [] 1 rfl)
    · skip
      replace h := cF hc2 h
      refine SX.skip ?_
      refine SQ.thn ?_
      refine SX.sr ?_
      obtain ⟨s1, hs1, h⟩ := bnd h
      obtain ⟨y2, hy2, h⟩ := bnd h
      refine SL.mv ⟨rfl, rfl, rfl, rfl⟩ rfl ?_
      refine SL.slNh hs1 ⟨rfl, rfl, rfl, rfl⟩ ty9 rfl rfl ?_
      refine SL.call (vs := [_]) (Hin := []) (Hr := _ :: _) ⟨rfl, rfl, rfl, rfl⟩ rfl ⟨rfl, trivial⟩ cal12 rfl rfl (c_ref06_Get hy2) ?_
      rintro _ _ ⟨rfl, rfl⟩
      refine ⟨trivial, ?_⟩
      refine SL.mv ⟨rfl, rfl, rfl, rfl⟩ rfl ?_
      refine SL.ext ⟨rfl, rfl, rfl, rfl⟩ rfl rfl ?_
      refine SL.ext ⟨rfl, rfl, rfl, rfl⟩ rfl rfl ?_
      refine SL.alloc ⟨rfl, rfl, rfl, rfl⟩ ze25 (fun _ => trivial) fun b2 => ?_
      refine SL.st 0 ⟨rfl, rfl, rfl⟩ rfl rfl rfl sz25 rfl rfl rfl trivial ?_
      refine SL.asg ⟨rfl, rfl, rfl, rfl⟩ rfl ?_
      refine SL.nx ?_
      refine SX.seq ?_
      refine SX.sr ?_
      refine SL.mv ⟨rfl, rfl, rfl, rfl⟩ rfl ?_
      refine SL.not ⟨rfl, rfl, rfl, rfl⟩ rfl ?_
      refine SL.nx ?_
      refine SX.cond rfl (fun hc3 => ?_) (fun hc3 => ?_)
      · skip
        replace h := cT hc3 h
        refine SX.sr ?_
        refine SL.bld [] ⟨rfl, rfl, rfl, rfl⟩ pl25 pk25 ze25 trivial rfl ?_
        refine SL.st 1 ⟨rfl, rfl, rfl⟩ rfl rfl rfl sz25 rfl rfl rfl trivial ?_
        refine SL.asg ⟨rfl, rfl, rfl, rfl⟩ rfl ?_
        refine SL.asg ⟨rfl, rfl, rfl, rfl⟩ rfl ?_
        refine SL.nx ?_
        refine SX.ret ?_
        refine SQ.thnR ?_
        obtain rfl := Option.some.inj h
        exact SQ.fret (resv3 rfl (resv.ag 1 (encHead (⟨0, 0, 0, 0⟩ : HeadA)) ag25 rfl rfl rfl rfl) rfl rfl) (ret_of (M := []) ⟨rfl, rfl⟩ fun _ hw => HpOk.pick (H := [_, _]) hw [] 2 rfl)
      · skip
        replace h := cF hc3 h
        refine SX.skip ?_
        refine SQ.thn ?_
        refine SX.sr ?_
        obtain ⟨y3, hy3, h⟩ := bnd h
        refine SL.mv ⟨rfl, rfl, rfl, rfl⟩ rfl ?_
        refine SL.fa ⟨rfl, rfl, rfl, rfl⟩ rfl fo25_1 ?_
        refine SL.ld ⟨rfl, rfl, rfl, rfl⟩ sc22 rfl (cell_own 0 rfl rfl) ?_
        refine SL.call (vs := [_, _]) (Hin := []) (Hr := _ :: _ :: _) ⟨rfl, rfl, rfl, rfl⟩ rfl ⟨rfl, rfl, trivial⟩ cal33 rfl rfl (c_ref04_Find hy3 hs0_) ?_
        rintro _ _ ⟨rfl, rfl⟩
        refine ⟨trivial, ?_⟩
        refine SL.mv ⟨rfl, rfl, rfl, rfl⟩ rfl ?_
        refine SL.ext ⟨rfl, rfl, rfl, rfl⟩ rfl rfl ?_
        refine SL.ext ⟨rfl, rfl, rfl, rfl⟩ rfl rfl ?_
        refine SL.alloc ⟨rfl, rfl, rfl, rfl⟩ ze44 (fun _ => trivial) fun b3 => ?_
        refine SL.st 0 ⟨rfl, rfl, rfl⟩ rfl rfl rfl sz44 rfl rfl rfl trivial ?_
        refine SL.asg ⟨rfl, rfl, rfl, rfl⟩ rfl ?_
        refine SL.nx ?_
        refine SX.seq ?_
        refine SX.sr ?_
        refine SL.mv ⟨rfl, rfl, rfl, rfl⟩ rfl ?_
        refine SL.bin ⟨rfl, rfl, rfl, rfl⟩ rfl rfl Bin.neI ?_
        refine SL.nx ?_
        refine SX.cond rfl (fun hc4 => ?_) (fun hc4 => ?_)
        · skip
          replace h := cT hc4 h
          refine SX.sr ?_
          refine SL.bld [] ⟨rfl, rfl, rfl, rfl⟩ pl25 pk25 ze25 trivial rfl ?_
          refine SL.mv ⟨rfl, rfl, rfl, rfl⟩ rfl ?_
          refine SL.st 2 ⟨rfl, rfl, rfl⟩ rfl rfl rfl sz25 rfl rfl rfl trivial ?_
          refine SL.asg ⟨rfl, rfl, rfl, rfl⟩ rfl ?_
          refine SL.asg ⟨rfl, rfl, rfl, rfl⟩ rfl ?_
          refine SL.nx ?_
          refine SX.ret ?_
          refine SQ.thnR ?_
          obtain rfl := Option.some.inj h
          exact SQ.fret (resv3 rfl (resv.ag 2 (encHead (⟨0, 0, 0, 0⟩ : HeadA)) ag25 rfl rfl rfl rfl) rfl rfl) (ret_of (M := []) ⟨rfl, rfl⟩ fun _ hw => HpOk.pick (H := [_, _, _]) hw [] 3 rfl)
        · skip
          replace h := cF hc4 h
          refine SX.skip ?_
          refine SQ.thn ?_
          refine SX.sr ?_
          obtain ⟨y4, hy4, h⟩ := bnd h
          refine SL.ldA [vU32 y3.1.gen, vS y3.1.secret] ⟨rfl, rfl, rfl, rfl⟩ ag44 rfl rfl (cells_all 0 rfl) ?_
          refine SL.call (vs := [_]) (Hin := []) (Hr := _ :: _ :: _ :: _) ⟨rfl, rfl, rfl, rfl⟩ rfl ⟨rfl, trivial⟩ cal36 rfl rfl (c_ref04_Subs hy4 hT) ?_
          rintro _ _ ⟨rfl, rfl⟩
          refine ⟨trivial, ?_⟩
          refine SL.mv ⟨rfl, rfl, rfl, rfl⟩ rfl ?_
          refine SL.ext ⟨rfl, rfl, rfl, rfl⟩ rfl rfl ?_
          refine SL.ext ⟨rfl, rfl, rfl, rfl⟩ rfl rfl ?_
          refine SL.ext ⟨rfl, rfl, rfl, rfl⟩ rfl rfl ?_
          refine SL.asg ⟨rfl, rfl, rfl, rfl⟩ rfl ?_
          refine SL.asg ⟨rfl, rfl, rfl, rfl⟩ rfl ?_
          refine SL.asg ⟨rfl, rfl, rfl, rfl⟩ rfl ?_
          refine SL.nx ?_
          refine SX.seq ?_
          refine SX.seq ?_
          obtain ⟨s2, hs2, h⟩ := bnd h
          obtain ⟨y5, hy5, h⟩ := bnd h
          obtain ⟨s3, hs3, h⟩ := bnd h
          refine SX.drawI mix [] (Pl.ap [(true, 0), (true, 1), (true, 2), (true, 4), (true, 5), (false, 3)] (.last 6 .nil)) (by kernel_rfl) ?_
          refine SL.mv ⟨rfl, rfl, rfl, rfl⟩ rfl ?_
          refine SL.mv ⟨rfl, rfl, rfl, rfl⟩ rfl ?_
          refine SL.slNh hs2 ⟨rfl, rfl, rfl, rfl⟩ ty9 rfl rfl ?_
          refine SL.mv ⟨rfl, rfl, rfl, rfl⟩ rfl ?_
          refine SL.slNl hs3 ⟨rfl, rfl, rfl, rfl⟩ ty9 rfl rfl ?_
          refine SL.call (vs := [_, _]) (Hin := []) (Hr := _ :: _ :: _ :: _) ⟨rfl, rfl, rfl, rfl⟩ rfl ⟨rfl, rfl, trivial⟩ cal37 rfl rfl (c_ref03_Mac hy5 hT) ?_
          rintro _ _ ⟨rfl, rfl⟩
          refine ⟨trivial, ?_⟩
          refine SL.last ?_
          refine SL.bin ⟨rfl, rfl, rfl, rfl⟩ rfl rfl Bin.neS ?_
          refine SL.nx ?_
          refine SX.cond rfl (fun hc5 => ?_) (fun hc5 => ?_)
          · skip
            replace h := cT hc5 h
            refine SX.sr ?_
            refine SL.bld [] ⟨rfl, rfl, rfl, rfl⟩ pl25 pk25 ze25 trivial rfl ?_
            refine SL.st 2 ⟨rfl, rfl, rfl⟩ rfl rfl rfl sz25 rfl rfl rfl trivial ?_
            refine SL.asg ⟨rfl, rfl, rfl, rfl⟩ rfl ?_
            refine SL.asg ⟨rfl, rfl, rfl, rfl⟩ rfl ?_
            refine SL.nx ?_
            refine SX.ret ?_
            refine SQ.thnR ?_
            obtain rfl := Option.some.inj h
            exact SQ.fret (resv3 rfl (resv.ag 2 (encHead (⟨0, 0, 0, 0⟩ : HeadA)) ag25 rfl rfl rfl rfl) rfl rfl) (ret_of (M := []) ⟨rfl, rfl⟩ fun _ hw => HpOk.pick (H := [_, _, _]) hw [] 3 rfl)
          · skip
            replace h := cF hc5 h
            refine SX.skip ?_
            refine SQ.thn ?_
            refine SX.seq ?_
            obtain ⟨y6, hy6, h⟩ := bnd h
            obtain ⟨s4, hs4, h⟩ := bnd h
            obtain ⟨y7, hy7, h⟩ := bnd h
            refine SX.drawI mix [1] (Pl.ap [(true, 0), (true, 1), (true, 3), (true, 4), (false, 2), (false, 5), (false, 6), (true, 7), (true, 8), (false, 9)] (.last 10 .nil)) (by kernel_rfl) ?_
            refine SL.mv ⟨rfl, rfl, rfl, rfl⟩ rfl ?_
            refine SL.ldA [vU32 y2.1.page, vU32 y2.1.gen, vU32 y2.1.boot, vU64 y2.1.seq] ⟨rfl, rfl, rfl, rfl⟩ ag25 rfl rfl (cells_all 0 rfl) ?_
            refine SL.mv ⟨rfl, rfl, rfl, rfl⟩ rfl ?_
            refine SL.slN hs4 ⟨rfl, rfl, rfl, rfl⟩ ty9 rfl rfl rfl ?_
            refine SL.call (vs := [_]) (Hin := []) (Hr := _ :: _ :: _ :: _) ⟨rfl, rfl, rfl, rfl⟩ rfl ⟨rfl, trivial⟩ cal43 rfl rfl (c_ref06_Nonce hy6) ?_
            rintro _ _ ⟨rfl, rfl⟩
            refine ⟨⟨⟨1, rfl⟩, trivial⟩, ?_⟩
            refine SL.call (vs := [_, _, _]) (Hin := []) (Hr := _ :: _ :: _ :: _) ⟨rfl, rfl, rfl, rfl⟩ rfl ⟨rfl, rfl, rfl, trivial⟩ cal42 rfl rfl (c_ref01_Xor hy7) ?_
            rintro _ _ ⟨rfl, rfl⟩
            refine ⟨⟨⟨1, rfl⟩, trivial⟩, ?_⟩
            refine SL.mv ⟨rfl, rfl, rfl, rfl⟩ rfl ?_
            refine SL.ext ⟨rfl, rfl, rfl, rfl⟩ rfl rfl ?_
            refine SL.ext ⟨rfl, rfl, rfl, rfl⟩ rfl rfl ?_
            refine SL.asg ⟨rfl, rfl, rfl, rfl⟩ rfl ?_
            refine SL.last ?_
            refine SL.asg ⟨rfl, rfl, rfl, rfl⟩ rfl ?_
            refine SL.nx ?_
            refine SX.sr ?_
            obtain ⟨y8, hy8, h⟩ := bnd h
            refine SL.mv ⟨rfl, rfl, rfl, rfl⟩ rfl ?_
            refine SL.call (vs := [_]) (Hin := []) (Hr := _ :: _ :: _ :: _) ⟨rfl, rfl, rfl, rfl⟩ rfl ⟨rfl, trivial⟩ cal44 rfl rfl (c_ref05_Unpad hy8) ?_
            rintro _ _ ⟨rfl, rfl⟩
            refine ⟨trivial, ?_⟩
            refine SL.mv ⟨rfl, rfl, rfl, rfl⟩ rfl ?_
            refine SL.ext ⟨rfl, rfl, rfl, rfl⟩ rfl rfl ?_
            refine SL.ext ⟨rfl, rfl, rfl, rfl⟩ rfl rfl ?_
            refine SL.asg ⟨rfl, rfl, rfl, rfl⟩ rfl ?_
            refine SL.asg ⟨rfl, rfl, rfl, rfl⟩ rfl ?_
            refine SL.nx ?_
            refine SX.seq ?_
            refine SX.sr ?_
            refine SL.mv ⟨rfl, rfl, rfl, rfl⟩ rfl ?_
            refine SL.bin ⟨rfl, rfl, rfl, rfl⟩ rfl rfl Bin.neI ?_
            refine SL.nx ?_
            refine SX.cond rfl (fun hc6 => ?_) (fun hc6 => ?_)
            · skip
              replace h := cT hc6 h
              refine SX.sr ?_
              refine SL.bld [] ⟨rfl, rfl, rfl, rfl⟩ pl25 pk25 ze25 trivial rfl ?_
              refine SL.st 2 ⟨rfl, rfl, rfl⟩ rfl rfl rfl sz25 rfl rfl rfl trivial ?_
              refine SL.asg ⟨rfl, rfl, rfl, rfl⟩ rfl ?_
              refine SL.asg ⟨rfl, rfl, rfl, rfl⟩ rfl ?_
              refine SL.nx ?_
              refine SX.ret ?_
              refine SQ.thnR ?_
              obtain rfl := Option.some.inj h
              exact SQ.fret (resv3 rfl (resv.ag 2 (encHead (⟨0, 0, 0, 0⟩ : HeadA)) ag25 rfl rfl rfl rfl) rfl rfl) (ret_of (M := []) ⟨rfl, rfl⟩ fun _ hw => HpOk.pick (H := [_, _, _]) hw [] 3 rfl)
            · skip
              replace h := cF hc6 h
              refine SX.skip ?_
              refine SQ.thn ?_
              refine SX.sr ?_
              refine SL.ldA [vU32 y2.1.page, vU32 y2.1.gen, vU32 y2.1.boot, vU64 y2.1.seq] ⟨rfl, rfl, rfl, rfl⟩ ag25 rfl rfl (cells_all 1 rfl) ?_
              refine SL.mv ⟨rfl, rfl, rfl, rfl⟩ rfl ?_
              refine SL.st 2 ⟨rfl, rfl, rfl⟩ rfl rfl rfl sz25 rfl rfl rfl trivial ?_
              refine SL.asg ⟨rfl, rfl, rfl, rfl⟩ rfl ?_
              refine SL.asg ⟨rfl, rfl, rfl, rfl⟩ rfl ?_
              refine SL.nx ?_
              refine SX.ret ?_
              obtain rfl := Option.some.inj h
              exact SQ.fret (resv3 rfl (resv.ag 2 (encHead y2.1) ag25 rfl rfl rfl rfl) rfl rfl) (ret_of (M := []) ⟨rfl, rfl⟩ fun _ hw => HpOk.pick (H := [_, _, _]) hw [] 3 rfl)


end Go.Proofs.YtnpnmdbleopikaaDoor
