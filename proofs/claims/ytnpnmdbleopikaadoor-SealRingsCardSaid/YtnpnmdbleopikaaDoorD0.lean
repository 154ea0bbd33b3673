/- Walks of SHA-256's words: a word turned, a part's sixty-four words. Condition: a part has sixty-four bytes. -/
import Derived.Test.YtnpnmdbleopikaaDoorA0
import Derived.Test.YtnpnmdbleopikaaDoorP1
namespace Go.Proofs.YtnpnmdbleopikaaDoor
open Go
variable {K : Nat → Prop} {w0 : World} {H : List Chunk}

theorem turn_all : ∀ n : Fin 32, 0 < n.1 → (toU64 (-(n.1 : Int)) &&& 31).toNat = 32 - n.1 ∧ (32 - (toU64 (-(n.1 : Int)) &&& 31)).toNat = n.1 := by decide
theorem rotl_neg (x : UInt32) (n : Nat) (h0 : 0 < n) (h1 : n < 32) : rotl32 x (-(n : Int)) = rotr x n := by
  obtain ⟨e1, e2⟩ := turn_all ⟨n, h1⟩ h0
  simp only at e1 e2
  unfold rotl32 rotr
  rw [e1, e2, UInt32.or_comm]
theorem c_sha_turn (x : UInt32) (n : Nat) (h0 : 0 < n) (h1 : n < 32) : Con Tryd.prog K w0 99 [vU32 x, vI n] [] H (fun r M => r = vU32 (rotr x n) ∧ M = []) := by
  refine Con.enter Tryd.func99 rfl rfl ?_
  refine SX.sr ?_
  refine SL.asg ⟨rfl, rfl, rfl, rfl⟩ rfl ?_
  refine SL.nx ?_
  refine SX.sr ?_
  refine SL.mv ⟨rfl, rfl, rfl, rfl⟩ rfl ?_
  refine SL.mv ⟨rfl, rfl, rfl, rfl⟩ rfl ?_
  refine SL.negI ⟨rfl, rfl, rfl, rfl⟩ rfl (by omega) (by omega) ?_
  refine SL.call (vs := [_, _]) (Hin := []) ⟨rfl, rfl, rfl, rfl⟩ rfl ⟨rfl, rfl, trivial⟩ cal97 rfl rfl (c_math_bits_RotateLeft32 x (-(n : Int))) ?_
  rintro _ _ ⟨rfl, rfl⟩
  refine ⟨trivial, ?_⟩
  refine SL.asg ⟨rfl, rfl, rfl, rfl⟩ rfl ?_
  refine SL.nx ?_
  refine SX.ret ?_
  exact SQ.fret (res1 rfl rfl) (ret_of (M := []) ⟨by rw [rotl_neg x n h0 h1], rfl⟩ fun _ h => h.skip [])

theorem c_sha_spread (s : List UInt8) (hs : s.length = 64) : Con Tryd.prog K w0 98 [vS s] [] H (fun r M => r = .agg (arr vU32 (spreadA s)) ∧ M = []) := by
  refine Con.enter Tryd.func98 rfl rfl ?_
  refine SX.sr ?_
  refine SL.alloc ⟨rfl, rfl, rfl, rfl⟩ ze135 (fun _ => trivial) fun b0 => ?_
  refine SL.nx ?_
  refine SX.sr ?_
  refine SL.alloc ⟨rfl, rfl, rfl, rfl⟩ ze135 (fun _ => trivial) fun b1 => ?_
  refine SL.nx ?_
  refine SX.seq ?_
  refine SX.sr ?_
  refine SL.mv ⟨rfl, rfl, rfl, rfl⟩ rfl ?_
  refine SL.nx ?_
  refine SX.block ?_
  refine SX.mono (SX.loop (α := Nat) (fun i => i ≤ 64) (fun i => [(0, vS s), (2, vP b0 0), (3, vP b1 0), (8, vI i)]) (fun i => own b1 (.cells (arr vU32 (spreadN s i ++ List.replicate (64 - i) 0)) 135) :: own b0 (.cells (arr vU32 (List.replicate 64 0)) 135) :: H) (fun i => 64 - i) (fun i D hp => ?_) 0 (by omega)) (by repeat' (first | exact trivial | refine And.intro rfl ?_))
  have hlen := spreadN_length s i
  refine SX.sr ?_
  refine SL.bin ⟨rfl, rfl, rfl, rfl⟩ rfl rfl Bin.ltI ?_
  refine SL.nx ?_
  refine SX.seq ?_
  refine SX.cond rfl (fun hc1 => ?_) (fun hc1 => ?_)
  · skip
    have hi : i < 64 := by simp at hc1; omega
    refine SX.skip ?_
    refine SQ.thn ?_
    refine SX.seq ?_
    refine SX.block ?_
    refine SX.sr ?_
    refine SL.mv ⟨rfl, rfl, rfl, rfl⟩ rfl ?_
    refine SL.asg ⟨rfl, rfl, rfl, rfl⟩ rfl ?_
    refine SL.nx ?_
    refine SX.seq ?_
    refine SX.sr ?_
    refine SL.mv ⟨rfl, rfl, rfl, rfl⟩ rfl ?_
    refine SL.bin ⟨rfl, rfl, rfl, rfl⟩ rfl rfl Bin.ltI ?_
    refine SL.nx ?_
    refine SX.cond rfl (fun hc2 => ?_) (fun hc2 => ?_)
    · skip
      have h16 : i < 16 := by simp at hc2; omega
      refine SX.sr ?_
      refine SL.mv ⟨rfl, rfl, rfl, rfl⟩ rfl ?_
      refine SL.bin ⟨rfl, rfl, rfl, rfl⟩ rfl rfl (Bin.mulI (by omega) (by omega)) ?_
      refine SL.asg ⟨rfl, rfl, rfl, rfl⟩ rfl ?_
      refine SL.nx ?_
      refine SX.seq ?_
      refine SX.drawI mix [] (Pl.ap [(true, 0), (true, 1), (true, 2), (true, 3), (true, 4), (true, 5), (true, 6), (true, 7), (true, 8), (true, 9), (true, 10), (true, 11), (true, 12), (true, 13), (true, 14), (true, 15), (true, 16), (true, 17), (true, 18), (true, 19), (true, 20), (true, 21), (true, 22), (true, 23), (true, 24), (true, 25), (true, 26)] (.last 27 .nil)) (by kernel_rfl) ?_
      refine SL.mv ⟨rfl, rfl, rfl, rfl⟩ rfl ?_
      refine SL.mv ⟨rfl, rfl, rfl, rfl⟩ rfl ?_
      refine SL.mv ⟨rfl, rfl, rfl, rfl⟩ rfl ?_
      refine SL.ixS (4 * i) ⟨rfl, rfl, rfl, rfl⟩ ty9 rfl rfl (by omega) (by omega) ?_
      refine SL.cv ⟨rfl, rfl, rfl, rfl⟩ rfl (Cv.u8_32 ty5 ty22) ?_
      refine SL.bin ⟨rfl, rfl, rfl, rfl⟩ rfl rfl (Bin.shl32 (n := 24)) ?_
      refine SL.mv ⟨rfl, rfl, rfl, rfl⟩ rfl ?_
      refine SL.mv ⟨rfl, rfl, rfl, rfl⟩ rfl ?_
      refine SL.bin ⟨rfl, rfl, rfl, rfl⟩ rfl rfl (Bin.addI (by omega) (by omega)) ?_
      refine SL.ixS ((4 * i) + 1) ⟨rfl, rfl, rfl, rfl⟩ ty9 rfl rfl (by omega) (by omega) ?_
      refine SL.cv ⟨rfl, rfl, rfl, rfl⟩ rfl (Cv.u8_32 ty5 ty22) ?_
      refine SL.bin ⟨rfl, rfl, rfl, rfl⟩ rfl rfl (Bin.shl32 (n := 16)) ?_
      refine SL.bin ⟨rfl, rfl, rfl, rfl⟩ rfl rfl Bin.or32 ?_
      refine SL.mv ⟨rfl, rfl, rfl, rfl⟩ rfl ?_
      refine SL.mv ⟨rfl, rfl, rfl, rfl⟩ rfl ?_
      refine SL.bin ⟨rfl, rfl, rfl, rfl⟩ rfl rfl (Bin.addI (by omega) (by omega)) ?_
      refine SL.ixS ((4 * i) + 2) ⟨rfl, rfl, rfl, rfl⟩ ty9 rfl rfl (by omega) (by omega) ?_
      refine SL.cv ⟨rfl, rfl, rfl, rfl⟩ rfl (Cv.u8_32 ty5 ty22) ?_
      refine SL.bin ⟨rfl, rfl, rfl, rfl⟩ rfl rfl (Bin.shl32 (n := 8)) ?_
      refine SL.bin ⟨rfl, rfl, rfl, rfl⟩ rfl rfl Bin.or32 ?_
      refine SL.mv ⟨rfl, rfl, rfl, rfl⟩ rfl ?_
      refine SL.mv ⟨rfl, rfl, rfl, rfl⟩ rfl ?_
      refine SL.bin ⟨rfl, rfl, rfl, rfl⟩ rfl rfl (Bin.addI (by omega) (by omega)) ?_
      refine SL.ixS ((4 * i) + 3) ⟨rfl, rfl, rfl, rfl⟩ ty9 rfl rfl (by omega) (by omega) ?_
      refine SL.cv ⟨rfl, rfl, rfl, rfl⟩ rfl (Cv.u8_32 ty5 ty22) ?_
      refine SL.bin ⟨rfl, rfl, rfl, rfl⟩ rfl rfl Bin.or32 ?_
      refine SL.iaAp (n := i) ⟨rfl, rfl, rfl, rfl⟩ ty135 sz22 rfl rfl (by omega) (by omega) ?_
      refine SL.last ?_
      refine SL.stA (f := vU32) 0 ⟨rfl, rfl, rfl⟩ rfl rfl rfl sz22 rfl rfl (by simp; omega) trivial ?_
      rw [fill_set _ _ _ 64 i hlen hi]
      refine SL.nx ?_
      refine SX.exit ?_
      refine SQ.thnE ?_
      refine SQ.blkE ?_
      refine SQ.thn ?_
      refine SX.region ?_
      refine SL.bin ⟨rfl, rfl, rfl, rfl⟩ rfl rfl (Bin.addI (by omega) (by omega)) ?_
      refine SL.mv ⟨rfl, rfl, rfl, rfl⟩ rfl ?_
      refine SL.nil ?_
      refine SQ.again (i + 1) (by omega) (by omega) ⟨rfl, rfl, rfl, rfl, trivial⟩ (fun w h => by
        have e : nextW s (spreadN s i) = wordBE s (4 * i) := by unfold nextW; rw [hlen, if_pos h16]
        rw [spreadN, e]
        exact h)
    · skip
      have h16 : 16 ≤ i := by simp at hc2; omega
      refine SX.skip ?_
      refine SQ.thn ?_
      refine SX.seq ?_
      refine SX.drawI mix [0] (Pl.of [(true, 0), (true, 1), (true, 2), (true, 3), (true, 4), (true, 5), (true, 6), (true, 7), (true, 8), (true, 9)]) (by kernel_rfl) ?_
      refine SL.mv ⟨rfl, rfl, rfl, rfl⟩ rfl ?_
      refine SL.bin ⟨rfl, rfl, rfl, rfl⟩ rfl rfl (Bin.subI (by omega) (by omega)) ?_
      refine SL.iaAp (n := (i - 15)) ⟨rfl, rfl, rfl, rfl⟩ ty135 sz22 rfl rfl (by omega) (by omega) ?_
      refine SL.ld ⟨rfl, rfl, rfl, rfl⟩ sc22 rfl (cell_own 0 rfl (arr_app 0 (by omega))) ?_
      refine SL.mv ⟨rfl, rfl, rfl, rfl⟩ rfl ?_
      refine SL.bin ⟨rfl, rfl, rfl, rfl⟩ rfl rfl (Bin.subI (by omega) (by omega)) ?_
      refine SL.iaAp (n := (i - 2)) ⟨rfl, rfl, rfl, rfl⟩ ty135 sz22 rfl rfl (by omega) (by omega) ?_
      refine SL.ld ⟨rfl, rfl, rfl, rfl⟩ sc22 rfl (cell_own 0 rfl (arr_app 0 (by omega))) ?_
      refine SL.asg ⟨rfl, rfl, rfl, rfl⟩ rfl ?_
      refine SL.asg ⟨rfl, rfl, rfl, rfl⟩ rfl ?_
      refine SL.nx ?_
      refine SX.drawI mix [0] (Pl.ap [(true, 0), (true, 1), (true, 2), (true, 3), (true, 4), (true, 5), (true, 6), (true, 7), (true, 8), (true, 9), (true, 10), (true, 12), (true, 15), (true, 16), (true, 19), (true, 21), (true, 24), (true, 25), (false, 11), (false, 13), (true, 14), (true, 17), (true, 18), (false, 20), (false, 22), (true, 23), (true, 26), (true, 27), (true, 28)] (.last 29 .nil)) (by kernel_rfl) ?_
      refine SL.mv ⟨rfl, rfl, rfl, rfl⟩ rfl ?_
      refine SL.mv ⟨rfl, rfl, rfl, rfl⟩ rfl ?_
      refine SL.bin ⟨rfl, rfl, rfl, rfl⟩ rfl rfl (Bin.subI (by omega) (by omega)) ?_
      refine SL.iaAp (n := (i - 16)) ⟨rfl, rfl, rfl, rfl⟩ ty135 sz22 rfl rfl (by omega) (by omega) ?_
      refine SL.ld ⟨rfl, rfl, rfl, rfl⟩ sc22 rfl (cell_own 0 rfl (arr_app 0 (by omega))) ?_
      refine SL.mv ⟨rfl, rfl, rfl, rfl⟩ rfl ?_
      refine SL.bin ⟨rfl, rfl, rfl, rfl⟩ rfl rfl (Bin.subI (by omega) (by omega)) ?_
      refine SL.iaAp (n := (i - 7)) ⟨rfl, rfl, rfl, rfl⟩ ty135 sz22 rfl rfl (by omega) (by omega) ?_
      refine SL.ld ⟨rfl, rfl, rfl, rfl⟩ sc22 rfl (cell_own 0 rfl (arr_app 0 (by omega))) ?_
      refine SL.bin ⟨rfl, rfl, rfl, rfl⟩ rfl rfl Bin.add32 ?_
      refine SL.mv ⟨rfl, rfl, rfl, rfl⟩ rfl ?_
      refine SL.mv ⟨rfl, rfl, rfl, rfl⟩ rfl ?_
      refine SL.mv ⟨rfl, rfl, rfl, rfl⟩ rfl ?_
      refine SL.bin ⟨rfl, rfl, rfl, rfl⟩ rfl rfl (Bin.shr32 (n := 3)) ?_
      refine SL.mv ⟨rfl, rfl, rfl, rfl⟩ rfl ?_
      refine SL.mv ⟨rfl, rfl, rfl, rfl⟩ rfl ?_
      refine SL.mv ⟨rfl, rfl, rfl, rfl⟩ rfl ?_
      refine SL.bin ⟨rfl, rfl, rfl, rfl⟩ rfl rfl (Bin.shr32 (n := 10)) ?_
      refine SL.call (vs := [_, _]) (Hin := []) ⟨rfl, rfl, rfl, rfl⟩ rfl ⟨rfl, rfl, trivial⟩ cal99 rfl rfl (c_sha_turn _ 7 (by omega) (by omega)) ?_
      rintro _ _ ⟨rfl, rfl⟩
      refine ⟨⟨⟨0, rfl⟩, trivial⟩, ?_⟩
      refine SL.call (vs := [_, _]) (Hin := []) ⟨rfl, rfl, rfl, rfl⟩ rfl ⟨rfl, rfl, trivial⟩ cal99 rfl rfl (c_sha_turn _ 18 (by omega) (by omega)) ?_
      rintro _ _ ⟨rfl, rfl⟩
      refine ⟨⟨⟨0, rfl⟩, trivial⟩, ?_⟩
      refine SL.bin ⟨rfl, rfl, rfl, rfl⟩ rfl rfl Bin.xor32 ?_
      refine SL.bin ⟨rfl, rfl, rfl, rfl⟩ rfl rfl Bin.xor32 ?_
      refine SL.bin ⟨rfl, rfl, rfl, rfl⟩ rfl rfl Bin.add32 ?_
      refine SL.call (vs := [_, _]) (Hin := []) ⟨rfl, rfl, rfl, rfl⟩ rfl ⟨rfl, rfl, trivial⟩ cal99 rfl rfl (c_sha_turn _ 17 (by omega) (by omega)) ?_
      rintro _ _ ⟨rfl, rfl⟩
      refine ⟨⟨⟨0, rfl⟩, trivial⟩, ?_⟩
      refine SL.call (vs := [_, _]) (Hin := []) ⟨rfl, rfl, rfl, rfl⟩ rfl ⟨rfl, rfl, trivial⟩ cal99 rfl rfl (c_sha_turn _ 19 (by omega) (by omega)) ?_
      rintro _ _ ⟨rfl, rfl⟩
      refine ⟨⟨⟨0, rfl⟩, trivial⟩, ?_⟩
      refine SL.bin ⟨rfl, rfl, rfl, rfl⟩ rfl rfl Bin.xor32 ?_
      refine SL.bin ⟨rfl, rfl, rfl, rfl⟩ rfl rfl Bin.xor32 ?_
      refine SL.bin ⟨rfl, rfl, rfl, rfl⟩ rfl rfl Bin.add32 ?_
      refine SL.iaAp (n := i) ⟨rfl, rfl, rfl, rfl⟩ ty135 sz22 rfl rfl (by omega) (by omega) ?_
      refine SL.last ?_
      refine SL.stA (f := vU32) 0 ⟨rfl, rfl, rfl⟩ rfl rfl rfl sz22 rfl rfl (by simp; omega) trivial ?_
      rw [fill_set _ _ _ 64 i hlen hi]
      refine SL.nil ?_
      refine SQ.blk ?_
      refine SQ.thn ?_
      refine SX.region ?_
      refine SL.bin ⟨rfl, rfl, rfl, rfl⟩ rfl rfl (Bin.addI (by omega) (by omega)) ?_
      refine SL.mv ⟨rfl, rfl, rfl, rfl⟩ rfl ?_
      refine SL.nil ?_
      refine SQ.again (i + 1) (by omega) (by omega) ⟨rfl, rfl, rfl, rfl, trivial⟩ (fun w h => by
        have e : nextW s (spreadN s i) = (spreadN s i).getD (i - 16) 0 + (spreadN s i).getD (i - 7) 0 + sig0 ((spreadN s i).getD (i - 15) 0) + sig1 ((spreadN s i).getD (i - 2) 0) := by unfold nextW; rw [hlen, if_neg (by omega)]
        rw [spreadN, e]
        exact h)
  · skip
    have hi : i = 64 := by simp at hc1; omega
    subst hi
    refine SX.exit ?_
    refine SQ.thnE ?_
    refine SQ.lpE ?_
    refine SQ.blkE ?_
    refine SQ.thn ?_
    refine SX.sr ?_
    refine SL.ldA ((spreadA s).map vU32) ⟨rfl, rfl, rfl, rfl⟩ ag135 (by simp [spreadA, hlen]) rfl (cells_own 0 rfl (fun j u hu => by simpa [arr, spreadA] using hu)) ?_
    refine SL.stF 1 ⟨rfl, rfl, rfl⟩ rfl rfl rfl sz135 (by simp [spreadA, hlen]) (by simp [arr]) (arr_one (fun _ => rfl) (spreadA s)) trivial ?_
    refine SL.nx ?_
    refine SX.ret ?_
    exact SQ.fret (resv1 rfl (resv.ag 1 ((spreadA s).map vU32) ag135 (by simp [spreadA, hlen]) rfl rfl (by simp only [List.drop_zero]; exact List.take_of_length_le (by simp [spreadA, hlen])))) (ret_of (M := []) ⟨rfl, rfl⟩ fun _ h => h.skip [_, _])

end Go.Proofs.YtnpnmdbleopikaaDoor

