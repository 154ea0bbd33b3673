/- Walks of ChaCha20's quarter turns and rounds. Condition: none but the sizes stated. -/
import Derived.Test.YtnpnmdbleopikaaDoorG0
namespace Go.Proofs.YtnpnmdbleopikaaDoor
open Go
variable {K : Nat → Prop} {w0 : World} {H : List Chunk}

theorem left_all : ∀ n : Fin 32, (toU64 (n.1 : Int) &&& 31).toNat = n.1 ∧ (32 - (toU64 (n.1 : Int) &&& 31)).toNat = 32 - n.1 := by decide
theorem rotl_pos (x : UInt32) (n : Nat) (h1 : n < 32) : rotl32 x (n : Int) = rl x n := by
  obtain ⟨e1, e2⟩ := left_all ⟨n, h1⟩
  simp only at e1 e2
  unfold rotl32 rl
  rw [e1, e2]
theorem turnA_lt : ∀ i, turnA i < 32 | 0 => (by decide : 16 < 32) | _ + 1 => (by decide : 8 < 32)
theorem turnB_lt : ∀ i, turnB i < 32 | 0 => (by decide : 12 < 32) | _ + 1 => (by decide : 7 < 32)
theorem c_arx_Quarter (q : Q4) : Con Tryd.prog K w0 87 [vU32 q.a, vU32 q.b, vU32 q.c, vU32 q.d] [] H (fun r M => r = .agg (arr vU32 q.quarter.list) ∧ M = []) := by
  refine Con.enter Tryd.func87 rfl rfl ?_
  refine SX.sr ?_
  refine SL.alloc ⟨rfl, rfl, rfl, rfl⟩ ze129 (fun _ => trivial) fun b0 => ?_
  refine SL.nx ?_
  refine SX.seq ?_
  refine SX.sr ?_
  refine SL.bldU [vI 16, vI 12] ⟨rfl, rfl, rfl, rfl⟩ ty140 sz3 ze140 rfl ⟨rfl, rfl, trivial⟩ rfl rfl (by simp [Value.cells]) ?_
  refine SL.bldU [vI 8, vI 7] ⟨rfl, rfl, rfl, rfl⟩ ty140 sz3 ze140 rfl ⟨rfl, rfl, trivial⟩ rfl rfl (by simp [Value.cells]) ?_
  refine SL.bld (r := #[vI 16, vI 12, vI 8, vI 7]) [_, _] ⟨rfl, rfl, rfl, rfl⟩ pl141 pk141 ze141 ⟨rfl, rfl, trivial⟩ rfl ?_
  refine SL.mv ⟨rfl, rfl, rfl, rfl⟩ rfl ?_
  refine SL.nx ?_
  refine SX.block ?_
  refine SX.mono (SX.loop (α := Nat) (fun i => i ≤ 2) (fun i => [(0, vU32 (q.steps i).a), (1, vU32 (q.steps i).b), (2, vU32 (q.steps i).c), (3, vU32 (q.steps i).d), (8, vP b0 0), (13, .agg #[vI 16, vI 12, vI 8, vI 7]), (14, vI i)]) (fun i => own b0 (.cells (arr vU32 [0, 0, 0, 0]) 129) :: H) (fun i => 2 - i) (fun i D hp => ?_) 0 (by omega)) (by repeat' (first | exact trivial | refine And.intro rfl ?_))
  refine SX.sr ?_
  refine SL.bin ⟨rfl, rfl, rfl, rfl⟩ rfl rfl Bin.ltI ?_
  refine SL.nx ?_
  refine SX.seq ?_
  refine SX.cond rfl (fun hc1 => ?_) (fun hc1 => ?_)
  · skip
    have hi : i < 2 := by simp at hc1; omega
    refine SX.skip ?_
    refine SQ.thn ?_
    refine SX.seq ?_
    refine SX.block ?_
    refine SX.sr ?_
    refine SL.ixAA (i := i) (c' := #[vI (turnA i : Int), vI (turnB i : Int)]) ⟨rfl, rfl, rfl, rfl⟩ ty141 ag140 rfl rfl (by omega) (by omega) (by rcases (by omega : i = 0 ∨ i = 1) with rfl | rfl <;> rfl) ?_
    refine SL.alloc ⟨rfl, rfl, rfl, rfl⟩ ze140 (fun _ => trivial) fun b1 => ?_
    refine SL.st 0 ⟨rfl, rfl, rfl⟩ rfl rfl rfl sz140 rfl rfl rfl trivial ?_
    refine SL.nx ?_
    refine SX.sr ?_
    refine SL.mv ⟨rfl, rfl, rfl, rfl⟩ rfl ?_
    refine SL.mv ⟨rfl, rfl, rfl, rfl⟩ rfl ?_
    refine SL.bin ⟨rfl, rfl, rfl, rfl⟩ rfl rfl Bin.add32 ?_
    refine SL.asg ⟨rfl, rfl, rfl, rfl⟩ rfl ?_
    refine SL.nx ?_
    refine SX.sr ?_
    refine SL.mv ⟨rfl, rfl, rfl, rfl⟩ rfl ?_
    refine SL.mv ⟨rfl, rfl, rfl, rfl⟩ rfl ?_
    refine SL.bin ⟨rfl, rfl, rfl, rfl⟩ rfl rfl Bin.xor32 ?_
    refine SL.iaAp (n := 0) ⟨rfl, rfl, rfl, rfl⟩ ty140 sz3 rfl rfl (by omega) (by omega) ?_
    refine SL.ld ⟨rfl, rfl, rfl, rfl⟩ sc3 rfl (cell_own 0 rfl rfl) ?_
    refine SL.call (vs := [_, _]) (Hin := []) ⟨rfl, rfl, rfl, rfl⟩ rfl ⟨rfl, rfl, trivial⟩ cal97 rfl rfl (c_math_bits_RotateLeft32 _ (turnA i : Int)) ?_
    rintro _ _ ⟨rfl, rfl⟩
    refine ⟨trivial, ?_⟩
    rw [rotl_pos _ _ (turnA_lt i)]
    refine SL.asg ⟨rfl, rfl, rfl, rfl⟩ rfl ?_
    refine SL.nx ?_
    refine SX.sr ?_
    refine SL.mv ⟨rfl, rfl, rfl, rfl⟩ rfl ?_
    refine SL.mv ⟨rfl, rfl, rfl, rfl⟩ rfl ?_
    refine SL.bin ⟨rfl, rfl, rfl, rfl⟩ rfl rfl Bin.add32 ?_
    refine SL.asg ⟨rfl, rfl, rfl, rfl⟩ rfl ?_
    refine SL.nx ?_
    refine SX.region ?_
    refine SL.mv ⟨rfl, rfl, rfl, rfl⟩ rfl ?_
    refine SL.mv ⟨rfl, rfl, rfl, rfl⟩ rfl ?_
    refine SL.bin ⟨rfl, rfl, rfl, rfl⟩ rfl rfl Bin.xor32 ?_
    refine SL.iaAp (n := 1) ⟨rfl, rfl, rfl, rfl⟩ ty140 sz3 rfl rfl (by omega) (by omega) ?_
    refine SL.ld ⟨rfl, rfl, rfl, rfl⟩ sc3 rfl (cell_own 0 rfl rfl) ?_
    refine SL.call (vs := [_, _]) (Hin := []) ⟨rfl, rfl, rfl, rfl⟩ rfl ⟨rfl, rfl, trivial⟩ cal97 rfl rfl (c_math_bits_RotateLeft32 _ (turnB i : Int)) ?_
    rintro _ _ ⟨rfl, rfl⟩
    refine ⟨trivial, ?_⟩
    rw [rotl_pos _ _ (turnB_lt i)]
    refine SL.asg ⟨rfl, rfl, rfl, rfl⟩ rfl ?_
    refine SL.nil ?_
    refine SQ.blk ?_
    refine SQ.thn ?_
    refine SX.region ?_
    refine SL.bin ⟨rfl, rfl, rfl, rfl⟩ rfl rfl (Bin.addI (by omega) (by omega)) ?_
    refine SL.mv ⟨rfl, rfl, rfl, rfl⟩ rfl ?_
    refine SL.nil ?_
    exact SQ.again (i + 1) (by omega) (by omega) (by repeat' (first | exact trivial | refine And.intro rfl ?_)) (fun w hw => hw.skip [_])
  · skip
    have hi : i = 2 := by simp at hc1; omega
    subst hi
    refine SX.exit ?_
    refine SQ.thnE ?_
    refine SQ.lpE ?_
    refine SQ.blkE ?_
    refine SQ.thn ?_
    refine SX.sr ?_
    refine SL.mv ⟨rfl, rfl, rfl, rfl⟩ rfl ?_
    refine SL.mv ⟨rfl, rfl, rfl, rfl⟩ rfl ?_
    refine SL.mv ⟨rfl, rfl, rfl, rfl⟩ rfl ?_
    refine SL.mv ⟨rfl, rfl, rfl, rfl⟩ rfl ?_
    refine SL.bldU (q.quarter.list.map vU32) ⟨rfl, rfl, rfl, rfl⟩ ty129 sz22 ze129 rfl ⟨rfl, rfl, rfl, rfl, trivial⟩ rfl rfl (fun v hv => by obtain ⟨x, _, rfl⟩ := List.mem_map.1 hv; rfl) ?_
    refine SL.stF 0 ⟨rfl, rfl, rfl⟩ rfl rfl rfl sz129 rfl rfl (arr_one (fun _ => rfl) q.quarter.list) trivial ?_
    refine SL.nx ?_
    refine SX.ret ?_
    exact SQ.fret (resv1 rfl (resv.ag 0 (q.quarter.list.map vU32) ag129 rfl rfl rfl rfl)) (ret_of (M := []) ⟨rfl, rfl⟩ fun _ h => h.skip [_])

theorem c_arx_round (ws : List UInt32) (step : Nat) (b : Nat) (e : TypeId) (hw : ws.length = 16) (hs : step ≤ 1) : Con Tryd.prog K w0 68 [vP b 0, vI step] [own b (.cells (arr vU32 ws) e)] H (fun r M => r = .tuple #[] ∧ M = [own b (.cells (arr vU32 (roundA ws step)) e)]) := by
  refine Con.enter Tryd.func68 rfl rfl ?_
  refine SX.sr ?_
  refine SL.mv ⟨rfl, rfl, rfl, rfl⟩ rfl ?_
  refine SL.nx ?_
  refine SX.block ?_
  refine SX.mono (SX.loop (α := Nat) (fun i => i ≤ 4) (fun i => [(0, vP b 0), (1, vI step), (10, vI i)]) (fun i => own b (.cells (arr vU32 (roundN ws step i)) e) :: H) (fun i => 4 - i) (fun i D hp => ?_) 0 (by omega)) (by repeat' (first | exact trivial | refine And.intro rfl ?_))
  have hwl : (roundN ws step i).length = 16 := (roundN_length ws step i).trans hw
  refine SX.sr ?_
  refine SL.bin ⟨rfl, rfl, rfl, rfl⟩ rfl rfl Bin.ltI ?_
  refine SL.nx ?_
  refine SX.seq ?_
  refine SX.cond rfl (fun hc1 => ?_) (fun hc1 => ?_)
  · skip
    have hi : i < 4 := by simp at hc1; omega
    have h16 : ∀ k, k < 4 → ixA step i k < 16 := fun k hk => by unfold ixA; omega
    refine SX.skip ?_
    refine SQ.thn ?_
    refine SX.seq ?_
    refine SX.block ?_
    refine SX.sr ?_
    refine SL.mv ⟨rfl, rfl, rfl, rfl⟩ rfl ?_
    refine SL.asg ⟨rfl, rfl, rfl, rfl⟩ rfl ?_
    refine SL.nx ?_
    refine SX.sr ?_
    refine SL.alloc ⟨rfl, rfl, rfl, rfl⟩ ze128 (fun _ => trivial) fun b0 => ?_
    refine SL.nx ?_
    refine SX.seq ?_
    refine SX.sr ?_
    refine SL.mv ⟨rfl, rfl, rfl, rfl⟩ rfl ?_
    refine SL.nx ?_
    refine SX.block ?_
    refine SX.mono (SX.loop (α := Nat) (fun k => k ≤ 4) (fun k => [(0, vP b 0), (1, vI step), (4, vI i), (5, vP b0 0), (10, vI i), (13, vI k)]) (fun k => own b0 (.cells (arr vI (((List.range k).map fun j => ((ixA step i j : Nat) : Int)) ++ List.replicate (4 - k) 0)) 128) :: own b (.cells (arr vU32 (roundN ws step i)) e) :: H) (fun k => 4 - k) (fun k D hp => ?_) 0 (by omega)) (by repeat' (first | exact trivial | refine And.intro rfl ?_))
    refine SX.sr ?_
    refine SL.bin ⟨rfl, rfl, rfl, rfl⟩ rfl rfl Bin.ltI ?_
    refine SL.nx ?_
    refine SX.seq ?_
    refine SX.cond rfl (fun hc2 => ?_) (fun hc2 => ?_)
    · skip
      have hk : k < 4 := by simp at hc2; omega
      have hks : k * step ≤ 3 := Nat.le_trans (Nat.mul_le_mul_left k hs) (by omega)
      have hks2 : ((k : Int) * step) = ((k * step : Nat) : Int) := by simp
      refine SX.skip ?_
      refine SQ.thn ?_
      refine SX.seq ?_
      refine SX.block ?_
      refine SX.sr ?_
      refine SL.mv ⟨rfl, rfl, rfl, rfl⟩ rfl ?_
      refine SL.asg ⟨rfl, rfl, rfl, rfl⟩ rfl ?_
      refine SL.nx ?_
      refine SX.region ?_
      refine SL.mv ⟨rfl, rfl, rfl, rfl⟩ rfl ?_
      refine SL.mv ⟨rfl, rfl, rfl, rfl⟩ rfl ?_
      refine SL.bin ⟨rfl, rfl, rfl, rfl⟩ rfl rfl (Bin.mulI (by omega) (by omega)) ?_
      refine SL.mv ⟨rfl, rfl, rfl, rfl⟩ rfl ?_
      refine SL.mv ⟨rfl, rfl, rfl, rfl⟩ rfl ?_
      refine SL.mv ⟨rfl, rfl, rfl, rfl⟩ rfl ?_
      refine SL.bin ⟨rfl, rfl, rfl, rfl⟩ rfl rfl (Bin.mulI (by omega) (by omega)) ?_
      refine SL.bin ⟨rfl, rfl, rfl, rfl⟩ rfl rfl (Bin.addI (by omega) (by omega)) ?_
      refine SL.bin ⟨rfl, rfl, rfl, rfl⟩ rfl rfl (Bin.modI (by omega) (by omega)) ?_
      refine SL.bin ⟨rfl, rfl, rfl, rfl⟩ rfl rfl (Bin.addI (by omega) (by omega)) ?_
      refine SL.iaAp (n := k) ⟨rfl, rfl, rfl, rfl⟩ ty128 sz3 rfl rfl (by omega) (by omega) ?_
      refine SL.stA (f := vI) 0 ⟨rfl, rfl, rfl⟩ rfl rfl rfl sz3 rfl rfl (by simp; omega) trivial ?_
      rw [fill_set _ _ _ 4 k (by simp) hk]
      refine SL.nil ?_
      refine SQ.blk ?_
      refine SQ.thn ?_
      refine SX.region ?_
      refine SL.bin ⟨rfl, rfl, rfl, rfl⟩ rfl rfl (Bin.addI (by omega) (by omega)) ?_
      refine SL.mv ⟨rfl, rfl, rfl, rfl⟩ rfl ?_
      refine SL.nil ?_
      refine SQ.again (k + 1) (by omega) (by omega) (by repeat' (first | exact trivial | refine And.intro rfl ?_)) (fun w hw => ?_)
      have e1 : (4 * (k : Int) + ((i : Int) + (k : Int) * step) % 4) = ((ixA step i k : Nat) : Int) := by simp [ixA]
      simp only [List.range_succ, List.map_append, List.map_cons, List.map_nil]
      rw [e1] at hw
      exact hw
    · skip
      have hk : k = 4 := by simp at hc2; omega
      subst hk
      have hat : ((List.range 4).map fun j => ((ixA step i j : Nat) : Int)) ++ List.replicate (4 - 4) 0 = [((ixA step i 0 : Nat) : Int), ((ixA step i 1 : Nat) : Int), ((ixA step i 2 : Nat) : Int), ((ixA step i 3 : Nat) : Int)] := by rfl
      rw [hat]
      refine SX.exit ?_
      refine SQ.thnE ?_
      refine SQ.lpE ?_
      refine SQ.blkE ?_
      refine SQ.thn ?_
      generalize hq : (⟨(roundN ws step i).getD (ixA step i 0) 0, (roundN ws step i).getD (ixA step i 1) 0, (roundN ws step i).getD (ixA step i 2) 0, (roundN ws step i).getD (ixA step i 3) 0⟩ : Q4) = q
      refine SX.meet (α := Nat) (fun _ => True) (fun x => [(0, vP b 0), (1, vI step), (5, vP b0 0), (7, vP x 0), (10, vI i)]) (fun x => own x (.cells (arr vU32 q.quarter.list) 129) :: own b0 (.cells (arr vI [((ixA step i 0 : Nat) : Int), ((ixA step i 1 : Nat) : Int), ((ixA step i 2 : Nat) : Int), ((ixA step i 3 : Nat) : Int)]) 128) :: own b (.cells (arr vU32 (roundN ws step i)) e) :: H) ?_ (fun x hx => ?_)
      · skip
        refine SX.drawI mix [0, 1] (Pl.ap [(true, 0), (true, 1), (true, 2), (true, 3), (true, 4), (true, 5), (true, 6), (true, 7), (true, 8), (true, 9), (true, 10), (true, 11), (true, 12), (true, 13), (true, 14), (true, 15), (true, 16), (true, 17), (true, 18), (true, 19), (true, 20), (true, 21), (true, 22), (true, 23)] (.alt 24 (Pl.of [(false, 25), (false, 26)]) (.cons (false, 25) (Pl.of [(false, 24), (false, 26)])))) (by kernel_rfl) ?_
        refine SL.mv ⟨rfl, rfl, rfl, rfl⟩ rfl ?_
        refine SL.iaAp (n := 0) ⟨rfl, rfl, rfl, rfl⟩ ty128 sz3 rfl rfl (by omega) (by omega) ?_
        refine SL.ld ⟨rfl, rfl, rfl, rfl⟩ sc3 rfl (cell_own 0 rfl rfl) ?_
        refine SL.nchk ⟨rfl, rfl, rfl, rfl⟩ rfl ?_
        refine SL.iaAp (n := ixA step i 0) ⟨rfl, rfl, rfl, rfl⟩ ty102 sz22 rfl rfl rfl (h16 _ (by omega)) ?_
        refine SL.ld ⟨rfl, rfl, rfl, rfl⟩ sc22 rfl (cell_own 1 rfl (arr_get (get_getD 0 (by rw [hwl]; exact h16 _ (by omega))))) ?_
        refine SL.mv ⟨rfl, rfl, rfl, rfl⟩ rfl ?_
        refine SL.iaAp (n := 1) ⟨rfl, rfl, rfl, rfl⟩ ty128 sz3 rfl rfl (by omega) (by omega) ?_
        refine SL.ld ⟨rfl, rfl, rfl, rfl⟩ sc3 rfl (cell_own 0 rfl rfl) ?_
        refine SL.nchk ⟨rfl, rfl, rfl, rfl⟩ rfl ?_
        refine SL.iaAp (n := ixA step i 1) ⟨rfl, rfl, rfl, rfl⟩ ty102 sz22 rfl rfl rfl (h16 _ (by omega)) ?_
        refine SL.ld ⟨rfl, rfl, rfl, rfl⟩ sc22 rfl (cell_own 1 rfl (arr_get (get_getD 0 (by rw [hwl]; exact h16 _ (by omega))))) ?_
        refine SL.mv ⟨rfl, rfl, rfl, rfl⟩ rfl ?_
        refine SL.iaAp (n := 2) ⟨rfl, rfl, rfl, rfl⟩ ty128 sz3 rfl rfl (by omega) (by omega) ?_
        refine SL.ld ⟨rfl, rfl, rfl, rfl⟩ sc3 rfl (cell_own 0 rfl rfl) ?_
        refine SL.nchk ⟨rfl, rfl, rfl, rfl⟩ rfl ?_
        refine SL.iaAp (n := ixA step i 2) ⟨rfl, rfl, rfl, rfl⟩ ty102 sz22 rfl rfl rfl (h16 _ (by omega)) ?_
        refine SL.ld ⟨rfl, rfl, rfl, rfl⟩ sc22 rfl (cell_own 1 rfl (arr_get (get_getD 0 (by rw [hwl]; exact h16 _ (by omega))))) ?_
        refine SL.mv ⟨rfl, rfl, rfl, rfl⟩ rfl ?_
        refine SL.iaAp (n := 3) ⟨rfl, rfl, rfl, rfl⟩ ty128 sz3 rfl rfl (by omega) (by omega) ?_
        refine SL.ld ⟨rfl, rfl, rfl, rfl⟩ sc3 rfl (cell_own 0 rfl rfl) ?_
        refine SL.nchk ⟨rfl, rfl, rfl, rfl⟩ rfl ?_
        refine SL.iaAp (n := ixA step i 3) ⟨rfl, rfl, rfl, rfl⟩ ty102 sz22 rfl rfl rfl (h16 _ (by omega)) ?_
        refine SL.ld ⟨rfl, rfl, rfl, rfl⟩ sc22 rfl (cell_own 1 rfl (arr_get (get_getD 0 (by rw [hwl]; exact h16 _ (by omega))))) ?_
        refine SL.two ?_ ?_
        · skip
          refine SL.call (vs := [_, _, _, _]) (Hin := []) ⟨rfl, rfl, rfl, rfl⟩ rfl ⟨rfl, rfl, rfl, rfl, trivial⟩ cal87 (by rw [← hq]; rfl) rfl (c_arx_Quarter q) ?_
          rintro _ _ ⟨rfl, rfl⟩
          refine ⟨⟨⟨0, rfl⟩, ⟨1, rfl⟩, trivial⟩, ?_⟩
          refine SL.alloc ⟨rfl, rfl, rfl, rfl⟩ ze129 (fun _ => ⟨⟨1, rfl⟩, ⟨2, rfl⟩, trivial⟩) fun b1 => ?_
          refine SL.stF 0 ⟨rfl, rfl, rfl⟩ rfl rfl rfl sz129 rfl rfl (arr_one (fun _ => rfl) q.quarter.list) ⟨⟨1, rfl⟩, ⟨2, rfl⟩, trivial⟩ ?_
          refine SL.nil ?_
          exact SQ.mid b1 trivial (by repeat' (first | exact trivial | refine And.intro rfl ?_))
        · skip
          refine SL.alloc ⟨rfl, rfl, rfl, rfl⟩ ze129 (fun _ => ⟨⟨1, rfl⟩, ⟨2, rfl⟩, trivial⟩) fun b1 => ?_
          refine SL.call (vs := [_, _, _, _]) (Hin := []) ⟨rfl, rfl, rfl, rfl⟩ rfl ⟨rfl, rfl, rfl, rfl, trivial⟩ cal87 (by rw [← hq]; rfl) rfl (c_arx_Quarter q) ?_
          rintro _ _ ⟨rfl, rfl⟩
          refine ⟨⟨⟨1, rfl⟩, ⟨2, rfl⟩, trivial⟩, ?_⟩
          refine SL.stF 0 ⟨rfl, rfl, rfl⟩ rfl rfl rfl sz129 rfl rfl (arr_one (fun _ => rfl) q.quarter.list) ⟨⟨1, rfl⟩, ⟨2, rfl⟩, trivial⟩ ?_
          refine SL.nil ?_
          exact SQ.mid b1 trivial (by repeat' (first | exact trivial | refine And.intro rfl ?_))
      -- live: (0, vP b 0), (5, vP b0 0), (10, vI i)
      · skip
        refine SX.sr ?_
        refine SL.ldA (q.quarter.list.map vU32) ⟨rfl, rfl, rfl, rfl⟩ ag129 rfl rfl (cells_all 0 rfl) ?_
        refine SL.mv ⟨rfl, rfl, rfl, rfl⟩ rfl ?_
        refine SL.nx ?_
        refine SX.block ?_
        refine SX.mono (SX.loop (α := Nat) (fun k => k ≤ 4) (fun k => [(0, vP b 0), (1, vI step), (5, vP b0 0), (10, vI i), (53, .agg (arr vU32 q.quarter.list)), (54, vI k)]) (fun k => own x (.cells (arr vU32 q.quarter.list) 129) :: own b0 (.cells (arr vI [((ixA step i 0 : Nat) : Int), ((ixA step i 1 : Nat) : Int), ((ixA step i 2 : Nat) : Int), ((ixA step i 3 : Nat) : Int)]) 128) :: own b (.cells (arr vU32 (setsN (roundN ws step i) (ixA step i) q.quarter.list k)) e) :: H) (fun k => 4 - k) (fun k D hp => ?_) 0 (by omega)) (by repeat' (first | exact trivial | refine And.intro rfl ?_))
        refine SX.sr ?_
        refine SL.bin ⟨rfl, rfl, rfl, rfl⟩ rfl rfl Bin.ltI ?_
        refine SL.nx ?_
        refine SX.seq ?_
        refine SX.cond rfl (fun hc3 => ?_) (fun hc3 => ?_)
        · skip
          have hk : k < 4 := by simp at hc3; omega
          have hix : [((ixA step i 0 : Nat) : Int), ((ixA step i 1 : Nat) : Int), ((ixA step i 2 : Nat) : Int), ((ixA step i 3 : Nat) : Int)][k]? = some ((ixA step i k : Nat) : Int) := by
            rcases (by omega : k = 0 ∨ k = 1 ∨ k = 2 ∨ k = 3) with rfl | rfl | rfl | rfl <;> rfl
          have hsl : (setsN (roundN ws step i) (ixA step i) q.quarter.list k).length = 16 := (setsN_length ..).trans hwl
          refine SX.skip ?_
          refine SQ.thn ?_
          refine SX.seq ?_
          refine SX.block ?_
          refine SX.sr ?_
          refine SL.mv ⟨rfl, rfl, rfl, rfl⟩ rfl ?_
          refine SL.ixA (i := k) ⟨rfl, rfl, rfl, rfl⟩ ty129 sc22 rfl rfl (by omega) (by omega) (arr_get (get_getD 0 hk)) ?_
          refine SL.asg ⟨rfl, rfl, rfl, rfl⟩ rfl ?_
          refine SL.asg ⟨rfl, rfl, rfl, rfl⟩ rfl ?_
          refine SL.nx ?_
          refine SX.drawI mix [1] (Pl.ap [(true, 0), (true, 1), (true, 2), (true, 3), (true, 4), (true, 5), (true, 6)] (.last 7 .nil)) (by kernel_rfl) ?_
          refine SL.mv ⟨rfl, rfl, rfl, rfl⟩ rfl ?_
          refine SL.mv ⟨rfl, rfl, rfl, rfl⟩ rfl ?_
          refine SL.iaAp (n := k) ⟨rfl, rfl, rfl, rfl⟩ ty128 sz3 rfl rfl (by omega) (by omega) ?_
          refine SL.ld ⟨rfl, rfl, rfl, rfl⟩ sc3 rfl (cell_own 0 rfl (arr_get hix)) ?_
          refine SL.mv ⟨rfl, rfl, rfl, rfl⟩ rfl ?_
          refine SL.nchk ⟨rfl, rfl, rfl, rfl⟩ rfl ?_
          refine SL.iaAp (n := ixA step i k) ⟨rfl, rfl, rfl, rfl⟩ ty102 sz22 rfl rfl rfl (h16 _ hk) ?_
          refine SL.last ?_
          refine SL.stA (f := vU32) 2 ⟨rfl, rfl, rfl⟩ rfl rfl rfl sz22 rfl rfl (by rw [hsl]; exact h16 _ hk) trivial ?_
          refine SL.nil ?_
          refine SQ.blk ?_
          refine SQ.thn ?_
          refine SX.region ?_
          refine SL.bin ⟨rfl, rfl, rfl, rfl⟩ rfl rfl (Bin.addI (by omega) (by omega)) ?_
          refine SL.mv ⟨rfl, rfl, rfl, rfl⟩ rfl ?_
          refine SL.nil ?_
          exact SQ.again (k + 1) (by omega) (by omega) (by repeat' (first | exact trivial | refine And.intro rfl ?_))
        · skip
          have hk : k = 4 := by simp at hc3; omega
          subst hk
          refine SX.exit ?_
          refine SQ.thnE ?_
          refine SQ.lpE ?_
          refine SQ.blkE ?_
          refine SQ.blk ?_
          refine SQ.thn ?_
          refine SX.region ?_
          refine SL.bin ⟨rfl, rfl, rfl, rfl⟩ rfl rfl (Bin.addI (by omega) (by omega)) ?_
          refine SL.mv ⟨rfl, rfl, rfl, rfl⟩ rfl ?_
          refine SL.nil ?_
          refine SQ.again (i + 1) (by omega) (by omega) (by repeat' (first | exact trivial | refine And.intro rfl ?_)) (fun w hw => ?_)
          have e1 : setsN (roundN ws step i) (ixA step i) q.quarter.list 4 = roundN ws step (i + 1) := by rw [roundN, qrA, hq]
          rw [e1] at hw
          exact hw.skip [_, _]
  · skip
    have hi : i = 4 := by simp at hc1; omega
    subst hi
    refine SX.exit ?_
    refine SQ.thnE ?_
    refine SQ.lpE ?_
    refine SQ.blkE ?_
    exact SQ.fend (res0 rfl) (ret_of (M := [_]) ⟨rfl, rfl⟩ fun _ h => h)

end Go.Proofs.YtnpnmdbleopikaaDoor

