/- Walks of strings.Repeat at the text of one zero byte, and of what it calls. Condition: at most 8192 times. -/
import Derived.Test.YtnpnmdbleopikaaDoorB0
namespace Go.Proofs.YtnpnmdbleopikaaDoor
open Go
variable {K : Nat → Prop} {w0 : World} {H : List Chunk}

theorem shr64_small {y : UInt64} (h : y.toNat < 4294967296) : shr64 y 32 = 0 := by
  apply UInt64.toNat_inj.1
  have h1 : y.toNat / 4294967296 = 0 := Nat.div_eq_of_lt h
  simp [shr64, h1]
theorem big63 (n : Nat) (h : n < 9223372036854775808) : decide ((9223372036854775807 : UInt64) < toU64 n) = false := by
  rw [decide_eq_false_iff_not, UInt64.lt_iff_toNat_lt]
  have h1 : (9223372036854775807 : UInt64).toNat = 9223372036854775807 := by decide
  have h2 : (toU64 n).toNat = n := by simp only [toU64, UInt64.toNat_ofNat']; omega
  omega
theorem and64_small {y : UInt64} (h : y.toNat < 4294967296) : y &&& 4294967295 = y := by
  apply UInt64.toNat_inj.1
  rw [UInt64.toNat_and]
  exact Nat.and_two_pow_sub_one_of_lt_two_pow (n := 32) h
theorem c_Mul64 (y : UInt64) (hy : y.toNat < 4294967296) : Con Tryd.prog K w0 82 [vU64 1, vU64 y] [] H (fun r M => r = .tuple #[vU64 0, vU64 y] ∧ M = []) := by
  refine Con.enter Tryd.func82 rfl rfl ?_
  refine SX.sr ?_
  refine SL.asg ⟨rfl, rfl, rfl, rfl⟩ rfl ?_
  refine SL.asg ⟨rfl, rfl, rfl, rfl⟩ rfl ?_
  refine SL.nx ?_
  refine SX.sr ?_
  refine SL.mv ⟨rfl, rfl, rfl, rfl⟩ rfl ?_
  refine SL.bin ⟨rfl, rfl, rfl, rfl⟩ rfl rfl (Bin.and64 (b := 4294967295)) ?_
  refine SL.asg ⟨rfl, rfl, rfl, rfl⟩ rfl ?_
  refine SL.nx ?_
  refine SX.sr ?_
  refine SL.mv ⟨rfl, rfl, rfl, rfl⟩ rfl ?_
  refine SL.bin ⟨rfl, rfl, rfl, rfl⟩ rfl rfl (Bin.shr64 (n := 32)) ?_
  refine SL.asg ⟨rfl, rfl, rfl, rfl⟩ rfl ?_
  refine SL.nx ?_
  refine SX.sr ?_
  refine SL.mv ⟨rfl, rfl, rfl, rfl⟩ rfl ?_
  refine SL.bin ⟨rfl, rfl, rfl, rfl⟩ rfl rfl (Bin.and64 (b := 4294967295)) ?_
  refine SL.asg ⟨rfl, rfl, rfl, rfl⟩ rfl ?_
  refine SL.nx ?_
  refine SX.sr ?_
  refine SL.mv ⟨rfl, rfl, rfl, rfl⟩ rfl ?_
  refine SL.bin ⟨rfl, rfl, rfl, rfl⟩ rfl rfl (Bin.shr64 (n := 32)) ?_
  refine SL.asg ⟨rfl, rfl, rfl, rfl⟩ rfl ?_
  refine SL.nx ?_
  refine SX.sr ?_
  refine SL.mv ⟨rfl, rfl, rfl, rfl⟩ rfl ?_
  refine SL.mv ⟨rfl, rfl, rfl, rfl⟩ rfl ?_
  refine SL.bin ⟨rfl, rfl, rfl, rfl⟩ rfl rfl Bin.mul64 ?_
  refine SL.asg ⟨rfl, rfl, rfl, rfl⟩ rfl ?_
  refine SL.nx ?_
  refine SX.sr ?_
  refine SL.mv ⟨rfl, rfl, rfl, rfl⟩ rfl ?_
  refine SL.mv ⟨rfl, rfl, rfl, rfl⟩ rfl ?_
  refine SL.bin ⟨rfl, rfl, rfl, rfl⟩ rfl rfl Bin.mul64 ?_
  refine SL.mv ⟨rfl, rfl, rfl, rfl⟩ rfl ?_
  refine SL.bin ⟨rfl, rfl, rfl, rfl⟩ rfl rfl (Bin.shr64 (n := 32)) ?_
  refine SL.bin ⟨rfl, rfl, rfl, rfl⟩ rfl rfl Bin.add64 ?_
  refine SL.asg ⟨rfl, rfl, rfl, rfl⟩ rfl ?_
  refine SL.nx ?_
  refine SX.sr ?_
  refine SL.mv ⟨rfl, rfl, rfl, rfl⟩ rfl ?_
  refine SL.bin ⟨rfl, rfl, rfl, rfl⟩ rfl rfl (Bin.and64 (b := 4294967295)) ?_
  refine SL.asg ⟨rfl, rfl, rfl, rfl⟩ rfl ?_
  refine SL.nx ?_
  refine SX.sr ?_
  refine SL.mv ⟨rfl, rfl, rfl, rfl⟩ rfl ?_
  refine SL.bin ⟨rfl, rfl, rfl, rfl⟩ rfl rfl (Bin.shr64 (n := 32)) ?_
  refine SL.asg ⟨rfl, rfl, rfl, rfl⟩ rfl ?_
  refine SL.nx ?_
  refine SX.sr ?_
  refine SL.mv ⟨rfl, rfl, rfl, rfl⟩ rfl ?_
  refine SL.mv ⟨rfl, rfl, rfl, rfl⟩ rfl ?_
  refine SL.mv ⟨rfl, rfl, rfl, rfl⟩ rfl ?_
  refine SL.bin ⟨rfl, rfl, rfl, rfl⟩ rfl rfl Bin.mul64 ?_
  refine SL.bin ⟨rfl, rfl, rfl, rfl⟩ rfl rfl Bin.add64 ?_
  refine SL.asg ⟨rfl, rfl, rfl, rfl⟩ rfl ?_
  refine SL.nx ?_
  refine SX.sr ?_
  refine SL.mv ⟨rfl, rfl, rfl, rfl⟩ rfl ?_
  refine SL.mv ⟨rfl, rfl, rfl, rfl⟩ rfl ?_
  refine SL.bin ⟨rfl, rfl, rfl, rfl⟩ rfl rfl Bin.mul64 ?_
  refine SL.mv ⟨rfl, rfl, rfl, rfl⟩ rfl ?_
  refine SL.bin ⟨rfl, rfl, rfl, rfl⟩ rfl rfl Bin.add64 ?_
  refine SL.mv ⟨rfl, rfl, rfl, rfl⟩ rfl ?_
  refine SL.bin ⟨rfl, rfl, rfl, rfl⟩ rfl rfl (Bin.shr64 (n := 32)) ?_
  refine SL.bin ⟨rfl, rfl, rfl, rfl⟩ rfl rfl Bin.add64 ?_
  refine SL.asg ⟨rfl, rfl, rfl, rfl⟩ rfl ?_
  refine SL.nx ?_
  refine SX.sr ?_
  refine SL.mv ⟨rfl, rfl, rfl, rfl⟩ rfl ?_
  refine SL.mv ⟨rfl, rfl, rfl, rfl⟩ rfl ?_
  refine SL.bin ⟨rfl, rfl, rfl, rfl⟩ rfl rfl Bin.mul64 ?_
  refine SL.asg ⟨rfl, rfl, rfl, rfl⟩ rfl ?_
  refine SL.nx ?_
  refine SX.ret ?_
  have h1 : shr64 y 32 = 0 := shr64_small hy
  have h2 : y &&& 4294967295 = y := and64_small hy
  have h3 : shr64 (1 : UInt64) 32 = 0 := by decide
  have h4 : (1 : UInt64) &&& 4294967295 = 1 := by decide
  have h5 : shr64 (0 : UInt64) 32 = 0 := by decide
  have h6 : (0 : UInt64) &&& 4294967295 = 0 := by decide
  refine SQ.fret (res2 rfl rfl rfl) (ret_of (M := []) ⟨?_, rfl⟩ fun _ h => h.skip [])
  simp [h1, h2, h3, h4, h5, h6]

theorem c_Mul (y : UInt64) (hy : y.toNat < 4294967296) : Con Tryd.prog K w0 61 [vU64 1, vU64 y] [] H (fun r M => r = .tuple #[vU64 0, vU64 y] ∧ M = []) := by
  refine Con.enter Tryd.func61 rfl rfl ?_
  refine SX.sr ?_
  refine SL.asg ⟨rfl, rfl, rfl, rfl⟩ rfl ?_
  refine SL.asg ⟨rfl, rfl, rfl, rfl⟩ rfl ?_
  refine SL.nx ?_
  refine SX.seq ?_
  refine SX.cond rfl (fun hc1 => absurd hc1 (by decide)) (fun hc1 => ?_)
  refine SX.skip ?_
  refine SQ.thn ?_
  refine SX.sr ?_
  refine SL.mv ⟨rfl, rfl, rfl, rfl⟩ rfl ?_
  refine SL.mv ⟨rfl, rfl, rfl, rfl⟩ rfl ?_
  refine SL.call (vs := [_, _]) (Hin := []) ⟨rfl, rfl, rfl, rfl⟩ rfl ⟨rfl, rfl, trivial⟩ cal82 rfl rfl (c_Mul64 y hy) ?_
  rintro _ _ ⟨rfl, rfl⟩
  refine ⟨trivial, ?_⟩
  refine SL.mv ⟨rfl, rfl, rfl, rfl⟩ rfl ?_
  refine SL.ext ⟨rfl, rfl, rfl, rfl⟩ rfl rfl ?_
  refine SL.ext ⟨rfl, rfl, rfl, rfl⟩ rfl rfl ?_
  refine SL.asg ⟨rfl, rfl, rfl, rfl⟩ rfl ?_
  refine SL.asg ⟨rfl, rfl, rfl, rfl⟩ rfl ?_
  refine SL.nx ?_
  refine SX.sr ?_
  refine SL.mv ⟨rfl, rfl, rfl, rfl⟩ rfl ?_
  refine SL.mv ⟨rfl, rfl, rfl, rfl⟩ rfl ?_
  refine SL.asg ⟨rfl, rfl, rfl, rfl⟩ rfl ?_
  refine SL.asg ⟨rfl, rfl, rfl, rfl⟩ rfl ?_
  refine SL.nx ?_
  refine SX.ret ?_
  exact SQ.fret (res2 rfl rfl rfl) (ret_of (M := []) ⟨rfl, rfl⟩ fun _ h => h.skip [])

theorem c_grow0 (b n : Nat) (hn : n ≤ 281474976710656) : Con Tryd.prog K w0 84 [vP b 0, vI n] [own b (.cells #[vP b 0, .slice none 0 0] 53)] H (fun r M => r = .tuple #[] ∧ ∃ v, M = [own b (.cells #[vP b 0, v] 53), rowC 5 1 v 0 []]) := by
  refine Con.enter Tryd.func84 rfl rfl ?_
  refine SX.seq ?_
  refine SX.drawI mix [0] (Pl.of [(true, 0), (true, 1), (true, 2), (true, 3), (true, 4), (true, 5), (true, 6), (true, 7), (true, 9), (true, 10), (true, 11), (true, 12), (true, 13), (false, 8), (true, 14), (true, 15)]) (by kernel_rfl) ?_
  refine SL.mv ⟨rfl, rfl, rfl, rfl⟩ rfl ?_
  refine SL.nchk ⟨rfl, rfl, rfl, rfl⟩ rfl ?_
  refine SL.fa ⟨rfl, rfl, rfl, rfl⟩ rfl fo53_1 ?_
  refine SL.ld ⟨rfl, rfl, rfl, rfl⟩ sc41 rfl (cell_own 0 rfl rfl) ?_
  refine SL.capL ⟨rfl, rfl, rfl, rfl⟩ ty41 rfl ?_
  refine SL.bin ⟨rfl, rfl, rfl, rfl⟩ rfl rfl (Bin.mulI (by omega) (by omega)) ?_
  refine SL.mv ⟨rfl, rfl, rfl, rfl⟩ rfl ?_
  refine SL.bin ⟨rfl, rfl, rfl, rfl⟩ rfl rfl (Bin.addI (by omega) (by omega)) ?_
  refine SL.mv ⟨rfl, rfl, rfl, rfl⟩ rfl ?_
  refine SL.nchk ⟨rfl, rfl, rfl, rfl⟩ rfl ?_
  refine SL.fa ⟨rfl, rfl, rfl, rfl⟩ rfl fo53_1 ?_
  refine SL.ld ⟨rfl, rfl, rfl, rfl⟩ sc41 rfl (cell_own 0 rfl rfl) ?_
  refine SL.lenL ⟨rfl, rfl, rfl, rfl⟩ ty41 rfl ?_
  refine SL.mnz (n := n) (fn := Tryd.f94) ⟨rfl, rfl, rfl, rfl⟩ rfl (by omega) hn ty41 (fun w r w' hr => by rw [run_callFunc_extern (e := Extern.BytealgMakeNoZero.makeNoZero #[3] #[41]) Tryd.func94 (by kernel_rfl) (by kernel_rfl) (by kernel_rfl) (by kernel_rfl)]; rw [show (Extern.BytealgMakeNoZero.makeNoZero #[3] #[41] #[vI n]).run Tryd.prog w = .ok r w' from hr]; rfl) (fun _ _ => ⟨⟨1, rfl⟩, trivial⟩) fun b1 cs hcs hcm => ?_
  refine SL.slHR 0 ⟨rfl, rfl, rfl, rfl⟩ ty41 sz5 rfl rfl rfl (by omega) ?_
  refine SL.asg ⟨rfl, rfl, rfl, rfl⟩ rfl ?_
  refine SL.nx ?_
  refine SX.sr ?_
  refine SL.mv ⟨rfl, rfl, rfl, rfl⟩ rfl ?_
  refine SL.mv ⟨rfl, rfl, rfl, rfl⟩ rfl ?_
  refine SL.nchk ⟨rfl, rfl, rfl, rfl⟩ rfl ?_
  refine SL.fa ⟨rfl, rfl, rfl, rfl⟩ rfl fo53_1 ?_
  refine SL.ld ⟨rfl, rfl, rfl, rfl⟩ sc41 rfl (cell_own 1 rfl rfl) ?_
  refine SL.cpN ⟨rfl, rfl, rfl, rfl⟩ ty41 sz5 rfl rfl ?_
  refine SL.nx ?_
  refine SX.region ?_
  refine SL.mv ⟨rfl, rfl, rfl, rfl⟩ rfl ?_
  refine SL.mv ⟨rfl, rfl, rfl, rfl⟩ rfl ?_
  refine SL.nchk ⟨rfl, rfl, rfl, rfl⟩ rfl ?_
  refine SL.fa ⟨rfl, rfl, rfl, rfl⟩ rfl fo53_1 ?_
  refine SL.st 1 ⟨rfl, rfl, rfl⟩ rfl rfl rfl sz41 rfl rfl rfl trivial ?_
  refine SL.nil ?_
  refine SQ.heap (H' := rowC 5 1 (.slice (some ⟨b1, 0, none⟩) 0 cs.size) 0 [] :: own b (.cells #[vP b 0, .slice (some ⟨b1, 0, none⟩) 0 cs.size] 53) :: H) ?_ fun w hw => HpOk.asRow hw (by simp) (by omega)
  exact SQ.fend (res0 rfl) (ret_of (M := [_, _]) ⟨rfl, _, rfl⟩ fun _ h => h.perm (List.Perm.swap _ _ _))

theorem c_Grow0 (b n : Nat) (p : Value) (hp : adr b p) (h0 : 0 < n) (hn : n ≤ 281474976710656) : Con Tryd.prog K w0 63 [vP b 0, vI n] [own b (.cells #[p, .slice none 0 0] 53)] H (fun r M => r = .tuple #[] ∧ ∃ v, M = [own b (.cells #[vP b 0, v] 53), rowC 5 1 v 0 []]) := by
  refine Con.enter Tryd.func63 rfl rfl ?_
  refine SX.sr ?_
  refine SL.mv ⟨rfl, rfl, rfl, rfl⟩ rfl ?_
  refine SL.call (vs := [_]) (Hin := [_]) ⟨rfl, rfl, rfl, rfl⟩ rfl ⟨rfl, trivial⟩ cal58 rfl rfl (c_copyCheck 53 b p (.slice none 0 0) hp li53) ?_
  rintro _ _ ⟨rfl, rfl⟩
  refine ⟨trivial, ?_⟩
  refine SL.nx ?_
  refine SX.seq ?_
  refine SX.sr ?_
  refine SL.mv ⟨rfl, rfl, rfl, rfl⟩ rfl ?_
  refine SL.bin ⟨rfl, rfl, rfl, rfl⟩ rfl rfl Bin.ltI ?_
  refine SL.nx ?_
  refine SX.cond rfl (fun hc1 => absurd hc1 (by simp)) (fun hc1 => ?_)
  refine SX.skip ?_
  refine SQ.thn ?_
  refine SX.seq ?_
  refine SX.drawI mix [0] (Pl.of [(true, 0), (true, 1), (true, 2), (true, 3), (true, 4), (true, 5), (true, 6), (true, 7), (true, 8), (true, 9), (true, 10), (true, 11), (true, 12)]) (by kernel_rfl) ?_
  refine SL.mv ⟨rfl, rfl, rfl, rfl⟩ rfl ?_
  refine SL.nchk ⟨rfl, rfl, rfl, rfl⟩ rfl ?_
  refine SL.fa ⟨rfl, rfl, rfl, rfl⟩ rfl fo53_1 ?_
  refine SL.ld ⟨rfl, rfl, rfl, rfl⟩ sc41 rfl (cell_own 0 rfl rfl) ?_
  refine SL.capL ⟨rfl, rfl, rfl, rfl⟩ ty41 rfl ?_
  refine SL.mv ⟨rfl, rfl, rfl, rfl⟩ rfl ?_
  refine SL.nchk ⟨rfl, rfl, rfl, rfl⟩ rfl ?_
  refine SL.fa ⟨rfl, rfl, rfl, rfl⟩ rfl fo53_1 ?_
  refine SL.ld ⟨rfl, rfl, rfl, rfl⟩ sc41 rfl (cell_own 0 rfl rfl) ?_
  refine SL.lenL ⟨rfl, rfl, rfl, rfl⟩ ty41 rfl ?_
  refine SL.bin ⟨rfl, rfl, rfl, rfl⟩ rfl rfl (Bin.subI (by omega) (by omega)) ?_
  refine SL.mv ⟨rfl, rfl, rfl, rfl⟩ rfl ?_
  refine SL.bin ⟨rfl, rfl, rfl, rfl⟩ rfl rfl Bin.ltI ?_
  refine SL.nx ?_
  refine SX.cond rfl (fun hc2 => ?_) (fun hc2 => absurd hc2 (by simp; omega))
  refine SX.region ?_
  refine SL.mv ⟨rfl, rfl, rfl, rfl⟩ rfl ?_
  refine SL.mv ⟨rfl, rfl, rfl, rfl⟩ rfl ?_
  refine SL.call (vs := [_, _]) (Hin := [_]) ⟨rfl, rfl, rfl, rfl⟩ rfl ⟨rfl, rfl, trivial⟩ cal84 rfl rfl (c_grow0 b n hn) ?_
  rintro _ _ ⟨rfl, v, rfl⟩
  refine ⟨trivial, ?_⟩
  refine SL.nil ?_
  exact SQ.fend (res0 rfl) (ret_of (M := [_, _]) ⟨rfl, v, rfl⟩ fun _ h => h)

theorem c_Repeat0 (n : Nat) (hn : n ≤ 8192) : Con Tryd.prog K w0 48 [vS [0], vI n] [] H (fun r M => r = vS (List.replicate n 0) ∧ M = []) := by
  refine Con.enter Tryd.func48 rfl rfl ?_
  refine SX.sr ?_
  refine SL.asg ⟨rfl, rfl, rfl, rfl⟩ rfl ?_
  refine SL.nx ?_
  refine SX.seq ?_
  refine SX.sr ?_
  refine SL.mv ⟨rfl, rfl, rfl, rfl⟩ rfl ?_
  refine SL.nx ?_
  refine SX.block ?_
  refine SX.sr ?_
  refine SL.bin ⟨rfl, rfl, rfl, rfl⟩ rfl rfl Bin.eqI ?_
  refine SL.asg ⟨rfl, rfl, rfl, rfl⟩ rfl ?_
  refine SL.nx ?_
  refine SX.cond rfl (fun hc1 => ?_) (fun hc1 => ?_)
  · skip
    refine SX.sr ?_
    refine SL.asg ⟨rfl, rfl, rfl, rfl⟩ rfl ?_
    refine SL.nx ?_
    refine SX.ret ?_
    refine SQ.blkR ?_
    refine SQ.thnR ?_
    exact SQ.fret (res1 rfl rfl) (ret_of (M := []) ⟨by have h0 : n = 0 := (by simpa using hc1); subst h0; rfl, rfl⟩ fun _ h => h.skip [])
  · skip
    have h0 : n ≠ 0 := by intro h; subst h; simp at hc1
    refine SX.sr ?_
    refine SL.bin ⟨rfl, rfl, rfl, rfl⟩ rfl rfl Bin.eqI ?_
    refine SL.asg ⟨rfl, rfl, rfl, rfl⟩ rfl ?_
    refine SL.nx ?_
    refine SX.cond rfl (fun hc2 => ?_) (fun hc2 => ?_)
    · skip
      refine SX.sr ?_
      refine SL.mv ⟨rfl, rfl, rfl, rfl⟩ rfl ?_
      refine SL.asg ⟨rfl, rfl, rfl, rfl⟩ rfl ?_
      refine SL.nx ?_
      refine SX.ret ?_
      refine SQ.blkR ?_
      refine SQ.thnR ?_
      exact SQ.fret (res1 rfl rfl) (ret_of (M := []) ⟨by have h1 : n = 1 := (by simp at hc2; omega); subst h1; rfl, rfl⟩ fun _ h => h.skip [])
    · skip
      refine SX.skip ?_
      refine SQ.blk ?_
      refine SQ.thn ?_
      refine SX.seq ?_
      refine SX.sr ?_
      refine SL.mv ⟨rfl, rfl, rfl, rfl⟩ rfl ?_
      refine SL.bin ⟨rfl, rfl, rfl, rfl⟩ rfl rfl Bin.ltI ?_
      refine SL.nx ?_
      refine SX.cond rfl (fun hc3 => absurd hc3 (by simp)) (fun hc3 => ?_)
      refine SX.skip ?_
      refine SQ.thn ?_
      refine SX.sr ?_
      refine SL.mv ⟨rfl, rfl, rfl, rfl⟩ rfl ?_
      refine SL.lenS ⟨rfl, rfl, rfl, rfl⟩ ty9 rfl ?_
      refine SL.cv ⟨rfl, rfl, rfl, rfl⟩ rfl (Cv.i_64 ty3 ty79) ?_
      refine SL.mv ⟨rfl, rfl, rfl, rfl⟩ rfl ?_
      refine SL.cv ⟨rfl, rfl, rfl, rfl⟩ rfl (Cv.i_64 ty3 ty79) ?_
      refine SL.call (vs := [_, _]) (Hin := []) ⟨rfl, rfl, rfl, rfl⟩ rfl ⟨rfl, rfl, trivial⟩ cal61 rfl rfl (c_Mul (toU64 n) (by simp [toU64]; omega)) ?_
      rintro _ _ ⟨rfl, rfl⟩
      refine ⟨trivial, ?_⟩
      refine SL.mv ⟨rfl, rfl, rfl, rfl⟩ rfl ?_
      refine SL.ext ⟨rfl, rfl, rfl, rfl⟩ rfl rfl ?_
      refine SL.ext ⟨rfl, rfl, rfl, rfl⟩ rfl rfl ?_
      refine SL.asg ⟨rfl, rfl, rfl, rfl⟩ rfl ?_
      refine SL.asg ⟨rfl, rfl, rfl, rfl⟩ rfl ?_
      refine SL.nx ?_
      refine SX.seq ?_
      refine SX.sr ?_
      refine SL.mv ⟨rfl, rfl, rfl, rfl⟩ rfl ?_
      refine SL.bin ⟨rfl, rfl, rfl, rfl⟩ rfl rfl (Bin.gt64 (b := 0)) ?_
      refine SL.mv ⟨rfl, rfl, rfl, rfl⟩ rfl ?_
      refine SL.or (c := false) 31 3 34 rfl (fun hb k => ?_) (fun hb k => ?_) ?_
      · skip
        refine SL.pass rfl rfl rfl ?_
        refine SL.pass rfl rfl rfl ?_
        refine SL.pk ⟨rfl, rfl, rfl, rfl⟩ rfl rfl ?_
        exact k.mono (by repeat' (first | exact trivial | refine And.intro rfl ?_))
      · skip
        refine SL.mv ⟨rfl, rfl, rfl, rfl⟩ rfl ?_
        refine SL.bin ⟨rfl, rfl, rfl, rfl⟩ rfl rfl (Bin.gt64 (b := 9223372036854775807)) ?_
        rw [big63 n (by omega)]
        refine SL.pk ⟨rfl, rfl, rfl, rfl⟩ rfl rfl ?_
        exact k.mono (by repeat' (first | exact trivial | refine And.intro rfl ?_))
      refine SL.nx ?_
      refine SX.cond rfl (fun hc4 => absurd hc4 (by decide)) (fun hc4 => ?_)
      refine SX.skip ?_
      refine SQ.thn ?_
      refine SX.sr ?_
      refine SL.mv ⟨rfl, rfl, rfl, rfl⟩ rfl ?_
      have hto : ((toU64 n).toNat : Int) = n := by simp only [toU64, UInt64.toNat_ofNat']; omega
      refine SL.cv ⟨rfl, rfl, rfl, rfl⟩ rfl (Cv.i_I (n := ((toU64 n).toNat : Int)) ty79 ty3 (by omega) (by omega)) ?_
      rw [hto]
      refine SL.asg ⟨rfl, rfl, rfl, rfl⟩ rfl ?_
      refine SL.nx ?_
      refine SX.seq ?_
      refine SX.sr ?_
      refine SL.mv ⟨rfl, rfl, rfl, rfl⟩ rfl ?_
      refine SL.lenS ⟨rfl, rfl, rfl, rfl⟩ ty9 rfl ?_
      refine SL.bin ⟨rfl, rfl, rfl, rfl⟩ rfl rfl Bin.eqI ?_
      refine SL.nx ?_
      refine SX.cond rfl (fun hc5 => absurd hc5 (by decide)) (fun hc5 => ?_)
      refine SX.skip ?_
      refine SQ.thn ?_
      refine SX.seq ?_
      refine SX.sr ?_
      refine SL.mv ⟨rfl, rfl, rfl, rfl⟩ rfl ?_
      refine SL.ixS 0 ⟨rfl, rfl, rfl, rfl⟩ ty9 rfl rfl (by decide) (by decide) ?_
      refine SL.nx ?_
      refine SX.block ?_
      refine SX.seq ?_
      refine SX.sr ?_
      refine SL.bin ⟨rfl, rfl, rfl, rfl⟩ rfl rfl (Bin.eq8 (b := 32)) ?_
      refine SL.asg ⟨rfl, rfl, rfl, rfl⟩ rfl ?_
      refine SL.nx ?_
      refine SX.cond rfl (fun hc6 => absurd hc6 (by decide)) (fun hc6 => ?_)
      refine SX.sr ?_
      refine SL.bin ⟨rfl, rfl, rfl, rfl⟩ rfl rfl (Bin.eq8 (b := 45)) ?_
      refine SL.asg ⟨rfl, rfl, rfl, rfl⟩ rfl ?_
      refine SL.nx ?_
      refine SX.cond rfl (fun hc7 => absurd hc7 (by decide)) (fun hc7 => ?_)
      refine SX.sr ?_
      refine SL.bin ⟨rfl, rfl, rfl, rfl⟩ rfl rfl (Bin.eq8 (b := 48)) ?_
      refine SL.asg ⟨rfl, rfl, rfl, rfl⟩ rfl ?_
      refine SL.nx ?_
      refine SX.cond rfl (fun hc8 => absurd hc8 (by decide)) (fun hc8 => ?_)
      refine SX.sr ?_
      refine SL.bin ⟨rfl, rfl, rfl, rfl⟩ rfl rfl (Bin.eq8 (b := 61)) ?_
      refine SL.asg ⟨rfl, rfl, rfl, rfl⟩ rfl ?_
      refine SL.nx ?_
      refine SX.cond rfl (fun hc9 => absurd hc9 (by decide)) (fun hc9 => ?_)
      refine SX.region ?_
      refine SL.bin ⟨rfl, rfl, rfl, rfl⟩ rfl rfl (Bin.eq8 (b := 9)) ?_
      refine SL.asg ⟨rfl, rfl, rfl, rfl⟩ rfl ?_
      refine SL.nx ?_
      refine SX.cond rfl (fun hc10 => absurd hc10 (by decide)) (fun hc10 => ?_)
      refine SX.skip ?_
      refine SQ.blk ?_
      refine SQ.thn ?_
      refine SX.sr ?_
      refine SL.mv ⟨rfl, rfl, rfl, rfl⟩ rfl ?_
      refine SL.asg ⟨rfl, rfl, rfl, rfl⟩ rfl ?_
      refine SL.nx ?_
      refine SX.seq ?_
      refine SX.sr ?_
      refine SL.mv ⟨rfl, rfl, rfl, rfl⟩ rfl ?_
      refine SL.bin ⟨rfl, rfl, rfl, rfl⟩ rfl rfl Bin.gtI ?_
      refine SL.nx ?_
      refine SX.cond rfl (fun hc11 => absurd hc11 (by simp; omega)) (fun hc11 => ?_)
      refine SX.skip ?_
      refine SQ.thn ?_
      refine SX.sr ?_
      refine SL.alloc ⟨rfl, rfl, rfl, rfl⟩ ze53 (fun _ => trivial) fun b0 => ?_
      refine SL.nx ?_
      refine SX.sr ?_
      refine SL.mv ⟨rfl, rfl, rfl, rfl⟩ rfl ?_
      refine SL.call (vs := [_, _]) (Hin := [_]) ⟨rfl, rfl, rfl, rfl⟩ rfl ⟨rfl, rfl, trivial⟩ cal63 rfl rfl (c_Grow0 b0 n _ (.inl rfl) (by omega) (by omega)) ?_
      rintro _ _ ⟨rfl, v1, rfl⟩
      refine ⟨trivial, ?_⟩
      refine SL.nx ?_
      refine SX.sr ?_
      refine SL.mv ⟨rfl, rfl, rfl, rfl⟩ rfl ?_
      refine SL.call (vs := [_, _]) (Hin := [_, _]) ⟨rfl, rfl, rfl, rfl⟩ rfl ⟨rfl, rfl, trivial⟩ cal64 rfl rfl (c_WriteString 53 b0 _ v1 0 [] [0] (.inr rfl) li53 (by simp)) ?_
      rintro _ _ ⟨rfl, v2, rfl⟩
      refine ⟨trivial, ?_⟩
      refine SL.nx ?_
      refine SX.seq ?_
      refine SX.block ?_
      refine SX.mono (SX.loop (α := Nat × Value) (fun x => 1 ≤ x.1 ∧ x.1 ≤ n) (fun x => [(0, vS [0]), (7, vI n), (8, vI n), (9, vP b0 0)]) (fun x => own b0 (.cells #[vP b0 0, x.2] 53) :: rowC 5 1 x.2 x.1 ((List.replicate x.1 0).map fun b => vU8 b) :: H) (fun x => n - x.1) (fun x D hp => ?_) (1, v2) ⟨Nat.le_refl _, by simp only; omega⟩) (by repeat' (first | exact trivial | refine And.intro rfl ?_))
      obtain ⟨m, v⟩ := x
      obtain ⟨h1, h2⟩ := hp
      simp only at h1 h2
      refine SX.seq ?_
      refine SX.sr ?_
      refine SL.call (vs := [_]) (Hin := [_, _]) ⟨rfl, rfl, rfl, rfl⟩ rfl ⟨rfl, trivial⟩ cal65 rfl rfl (c_Len 53 b0 (vP b0 0) v m _) ?_
      rintro _ _ ⟨rfl, rfl⟩
      refine ⟨trivial, ?_⟩
      refine SL.mv ⟨rfl, rfl, rfl, rfl⟩ rfl ?_
      refine SL.bin ⟨rfl, rfl, rfl, rfl⟩ rfl rfl Bin.ltI ?_
      refine SL.nx ?_
      refine SX.cond rfl (fun hc12 => ?_) (fun hc12 => ?_)
      · skip
        refine SX.skip ?_
        refine SQ.thn ?_
        refine SX.block ?_
        refine SX.sr ?_
        refine SL.mv ⟨rfl, rfl, rfl, rfl⟩ rfl ?_
        refine SL.call (vs := [_]) (Hin := [_, _]) ⟨rfl, rfl, rfl, rfl⟩ rfl ⟨rfl, trivial⟩ cal65 rfl rfl (c_Len 53 b0 (vP b0 0) v m _) ?_
        rintro _ _ ⟨rfl, rfl⟩
        refine ⟨trivial, ?_⟩
        refine SL.bin ⟨rfl, rfl, rfl, rfl⟩ rfl rfl (Bin.subI (by omega) (by omega)) ?_
        refine SL.call (vs := [_]) (Hin := [_, _]) ⟨rfl, rfl, rfl, rfl⟩ rfl ⟨rfl, trivial⟩ cal65 rfl rfl (c_Len 53 b0 (vP b0 0) v m _) ?_
        rintro _ _ ⟨rfl, rfl⟩
        refine ⟨trivial, ?_⟩
        refine SL.mv ⟨rfl, rfl, rfl, rfl⟩ rfl ?_
        refine SL.minI3 ⟨rfl, rfl, rfl, rfl⟩ rfl rfl rfl ?_
        refine SL.asg ⟨rfl, rfl, rfl, rfl⟩ rfl ?_
        refine SL.nx ?_
        refine SX.region ?_
        refine SL.call (vs := [_]) (Hin := [_, _]) ⟨rfl, rfl, rfl, rfl⟩ rfl ⟨rfl, trivial⟩ cal25 rfl rfl (c_String 53 b0 (vP b0 0) v m (List.replicate m 0) (by omega)) ?_
        rintro _ _ ⟨rfl, rfl⟩
        refine ⟨trivial, ?_⟩
        refine SL.mv ⟨rfl, rfl, rfl, rfl⟩ rfl ?_
        refine SL.slSh (min (n - m) m) ⟨rfl, rfl, rfl, rfl⟩ ty9 rfl rfl (by omega) (by simp; omega) ?_
        refine SL.call (vs := [_, _]) (Hin := [_, _]) ⟨rfl, rfl, rfl, rfl⟩ rfl ⟨rfl, rfl, trivial⟩ cal64 rfl rfl (c_WriteString 53 b0 _ v m _ ((List.replicate m 0).take (min (n - m) m)) (.inr rfl) li53 (by simp; omega)) ?_
        rintro _ _ ⟨rfl, v', rfl⟩
        refine ⟨trivial, ?_⟩
        refine SL.nil ?_
        refine SQ.blk ?_
        exact SQ.again (m + min (n - m) m, v') ⟨by simp only; omega, by simp only; omega⟩ (by simp at hc12; simp only; omega) ⟨rfl, rfl, rfl, rfl, trivial⟩ (fun w h => by
          have e : (List.replicate m 0).map (fun b => vU8 b) ++ ((List.replicate m 0).take (min (n - m) m)).map (fun b => vU8 b) = (List.replicate (m + min (n - m) m) 0).map fun b => vU8 b := by
            rw [← List.map_append, List.take_replicate, List.replicate_append_replicate]; congr 2; omega
          have e2 : ((List.replicate m (0 : UInt8)).take (min (n - m) m)).length = min (n - m) m := by simp
          rw [e, e2] at h
          exact h)
      · skip
        refine SX.exit ?_
        refine SQ.thnE ?_
        refine SQ.lpE ?_
        refine SQ.blkE ?_
        refine SQ.thn ?_
        refine SX.sr ?_
        refine SL.call (vs := [_]) (Hin := [_, _]) ⟨rfl, rfl, rfl, rfl⟩ rfl ⟨rfl, trivial⟩ cal25 rfl rfl (c_String 53 b0 (vP b0 0) v m (List.replicate m 0) (by omega)) ?_
        rintro _ _ ⟨rfl, rfl⟩
        refine ⟨trivial, ?_⟩
        refine SL.asg ⟨rfl, rfl, rfl, rfl⟩ rfl ?_
        refine SL.nx ?_
        refine SX.ret ?_
        exact SQ.fret (res1 rfl rfl) (ret_of (M := []) ⟨by have h3 : m = n := (by simp at hc12; omega); subst h3; rfl, rfl⟩ fun _ h => h.skip [_, _])
end Go.Proofs.YtnpnmdbleopikaaDoor
