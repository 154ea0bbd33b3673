/- Walks of a key's subkeys, and of texts filled to one size and back. Condition: none but the sizes stated. -/
import Derived.Test.YtnpnmdbleopikaaDoorC1
import Derived.Test.YtnpnmdbleopikaaDoorE0
import Derived.Test.YtnpnmdbleopikaaDoorP3
namespace Go.Proofs.YtnpnmdbleopikaaDoor
open Go
variable {K : Nat → Prop} {w0 : World} {H : List Chunk}
theorem c_keys_Subs (T : List UInt32) (k : KeyA) (hT : ShaT K w0 T) : Con Tryd.prog K w0 30 [.agg (encKey k).toArray] [] H (fun r M => r = (if rightA [k] = true then .tuple #[vS (subA T k sealW), vS (subA T k bindW), vI 0] else .tuple #[vS [], vS [], vI 40]) ∧ M = []) := by
  refine Con.enter Tryd.func30 rfl rfl ?_
  refine SX.sr ?_
  refine SL.box ⟨rfl, rfl, rfl, rfl⟩ rfl (fun _ => trivial) fun b0 => ?_
  refine SL.asg ⟨rfl, rfl, rfl, rfl⟩ rfl ?_
  refine SL.asg ⟨rfl, rfl, rfl, rfl⟩ rfl ?_
  refine SL.asg ⟨rfl, rfl, rfl, rfl⟩ rfl ?_
  refine SL.nx ?_
  refine SX.seq ?_
  refine SX.sr ?_
  refine SL.ldA (encKey k) ⟨rfl, rfl, rfl, rfl⟩ ag44 rfl rfl (cells_all 0 rfl) ?_
  refine SL.bsl [_] ⟨rfl, rfl, rfl, rfl⟩ ty32 sz44 ze44 ⟨rfl, trivial⟩ rfl rfl rfl (by simp [Value.cells, encKey]) rfl rfl (fun _ => trivial) fun b1 => ?_
  refine SL.call (vs := [_]) (Hin := [_]) ⟨rfl, rfl, rfl, rfl⟩ rfl ⟨rfl, trivial⟩ cal38 rfl rfl (Con.lend (B := [own b1 (.cells (encKey k).toArray 44)]) (Hin := []) fun K' w1 hk hB => c_keys_Right _ [k] (SlOf.lent (enc := encKey) (sz := 2) (xs := [k]) (fun _ => rfl) (Nat.le_refl 1) rfl (hB _ (List.mem_cons_self ..))) rfl (by simp)) ?_
  rintro _ _ ⟨M', rfl, rfl, rfl⟩
  refine ⟨trivial, ?_⟩
  refine SL.not ⟨rfl, rfl, rfl, rfl⟩ rfl ?_
  refine SL.nx ?_
  refine SX.cond rfl (fun hc1 => ?_) (fun hc1 => ?_)
  · skip
    have hr : rightA [k] = false := by simpa using hc1
    refine SX.sr ?_
    refine SL.asg ⟨rfl, rfl, rfl, rfl⟩ rfl ?_
    refine SL.asg ⟨rfl, rfl, rfl, rfl⟩ rfl ?_
    refine SL.asg ⟨rfl, rfl, rfl, rfl⟩ rfl ?_
    refine SL.nx ?_
    refine SX.ret ?_
    refine SQ.thnR ?_
    exact SQ.fret (res3 rfl rfl rfl rfl) (ret_of (M := []) ⟨by rw [hr]; rfl, rfl⟩ fun _ h => h.skip [_, _])
  · skip
    have hr : rightA [k] = true := by simpa using hc1
    have hkl := rightA_one hr
    refine SX.skip ?_
    refine SQ.thn ?_
    refine SX.sr ?_
    refine SL.fa ⟨rfl, rfl, rfl, rfl⟩ rfl fo44_0 ?_
    refine SL.ld ⟨rfl, rfl, rfl, rfl⟩ sc22 rfl (cell_own 1 rfl rfl) ?_
    refine SL.cv ⟨rfl, rfl, rfl, rfl⟩ rfl (Cv.u32_8 ty22 ty5) ?_
    refine SL.fa ⟨rfl, rfl, rfl, rfl⟩ rfl fo44_0 ?_
    refine SL.ld ⟨rfl, rfl, rfl, rfl⟩ sc22 rfl (cell_own 1 rfl rfl) ?_
    refine SL.bin ⟨rfl, rfl, rfl, rfl⟩ rfl rfl (Bin.shr32 (n := 8)) ?_
    refine SL.cv ⟨rfl, rfl, rfl, rfl⟩ rfl (Cv.u32_8 ty22 ty5) ?_
    refine SL.fa ⟨rfl, rfl, rfl, rfl⟩ rfl fo44_0 ?_
    refine SL.ld ⟨rfl, rfl, rfl, rfl⟩ sc22 rfl (cell_own 1 rfl rfl) ?_
    refine SL.bin ⟨rfl, rfl, rfl, rfl⟩ rfl rfl (Bin.shr32 (n := 16)) ?_
    refine SL.cv ⟨rfl, rfl, rfl, rfl⟩ rfl (Cv.u32_8 ty22 ty5) ?_
    refine SL.fa ⟨rfl, rfl, rfl, rfl⟩ rfl fo44_0 ?_
    refine SL.ld ⟨rfl, rfl, rfl, rfl⟩ sc22 rfl (cell_own 1 rfl rfl) ?_
    refine SL.bin ⟨rfl, rfl, rfl, rfl⟩ rfl rfl (Bin.shr32 (n := 24)) ?_
    refine SL.cv ⟨rfl, rfl, rfl, rfl⟩ rfl (Cv.u32_8 ty22 ty5) ?_
    refine SL.bsl [_, _, _, _] ⟨rfl, rfl, rfl, rfl⟩ ty41 sz5 ze5 ⟨rfl, rfl, rfl, rfl, trivial⟩ rfl rfl rfl (by simp [Value.cells]) rfl rfl (fun _ => trivial) fun b2 => ?_
    refine SL.bts [_, _, _, _] ⟨rfl, rfl, rfl, rfl⟩ ty41 ty5 ty9 rfl rfl (cells_all 0 rfl) ?_
    refine SL.asg ⟨rfl, rfl, rfl, rfl⟩ rfl ?_
    refine SL.nx ?_
    refine SX.sr ?_
    refine SL.fa ⟨rfl, rfl, rfl, rfl⟩ rfl fo44_1 ?_
    refine SL.ld ⟨rfl, rfl, rfl, rfl⟩ sc9 rfl (cell_own 2 rfl rfl) ?_
    refine SL.mv ⟨rfl, rfl, rfl, rfl⟩ rfl ?_
    refine SL.bin ⟨rfl, rfl, rfl, rfl⟩ rfl rfl (Bin.cat (s := sealW) (t := le32 k.gen) (by simp [le32, sealW])) ?_
    refine SL.call (vs := [_, _, _]) (Hin := []) ⟨rfl, rfl, rfl, rfl⟩ rfl ⟨rfl, rfl, rfl, trivial⟩ cal49 rfl rfl (c_mac_Expand T k.secret (sealW ++ le32 k.gen) hT (by omega) (by simp [le32, sealW])) ?_
    rintro _ _ ⟨rfl, rfl⟩
    refine ⟨trivial, ?_⟩
    refine SL.mv ⟨rfl, rfl, rfl, rfl⟩ rfl ?_
    refine SL.ext ⟨rfl, rfl, rfl, rfl⟩ rfl rfl ?_
    refine SL.ext ⟨rfl, rfl, rfl, rfl⟩ rfl rfl ?_
    refine SL.asg ⟨rfl, rfl, rfl, rfl⟩ rfl ?_
    refine SL.asg ⟨rfl, rfl, rfl, rfl⟩ rfl ?_
    refine SL.nx ?_
    refine SX.sr ?_
    refine SL.fa ⟨rfl, rfl, rfl, rfl⟩ rfl fo44_1 ?_
    refine SL.ld ⟨rfl, rfl, rfl, rfl⟩ sc9 rfl (cell_own 2 rfl rfl) ?_
    refine SL.mv ⟨rfl, rfl, rfl, rfl⟩ rfl ?_
    refine SL.bin ⟨rfl, rfl, rfl, rfl⟩ rfl rfl (Bin.cat (s := bindW) (t := le32 k.gen) (by simp [le32, bindW])) ?_
    refine SL.call (vs := [_, _, _]) (Hin := []) ⟨rfl, rfl, rfl, rfl⟩ rfl ⟨rfl, rfl, rfl, trivial⟩ cal49 rfl rfl (c_mac_Expand T k.secret (bindW ++ le32 k.gen) hT (by omega) (by simp [le32, bindW])) ?_
    rintro _ _ ⟨rfl, rfl⟩
    refine ⟨trivial, ?_⟩
    refine SL.mv ⟨rfl, rfl, rfl, rfl⟩ rfl ?_
    refine SL.ext ⟨rfl, rfl, rfl, rfl⟩ rfl rfl ?_
    refine SL.ext ⟨rfl, rfl, rfl, rfl⟩ rfl rfl ?_
    refine SL.asg ⟨rfl, rfl, rfl, rfl⟩ rfl ?_
    refine SL.asg ⟨rfl, rfl, rfl, rfl⟩ rfl ?_
    refine SL.nx ?_
    refine SX.sr ?_
    refine SL.mv ⟨rfl, rfl, rfl, rfl⟩ rfl ?_
    refine SL.mv ⟨rfl, rfl, rfl, rfl⟩ rfl ?_
    refine SL.asg ⟨rfl, rfl, rfl, rfl⟩ rfl ?_
    refine SL.asg ⟨rfl, rfl, rfl, rfl⟩ rfl ?_
    refine SL.asg ⟨rfl, rfl, rfl, rfl⟩ rfl ?_
    refine SL.nx ?_
    refine SX.ret ?_
    exact SQ.fret (res3 rfl rfl rfl rfl) (ret_of (M := []) ⟨by rw [hr]; rfl, rfl⟩ fun _ h => h.skip [_, _, _])

theorem c_pad_Pad (s : List UInt8) (hn : s.length ≤ 9223372036854775807) : Con Tryd.prog K w0 29 [vS s] [] H (fun r M => r = (if 198 < s.length then .tuple #[vS [], vI 50] else .tuple #[vS (padA s), vI 0]) ∧ M = []) := by
  refine Con.enter Tryd.func29 rfl rfl ?_
  refine SX.sr ?_
  refine SL.asg ⟨rfl, rfl, rfl, rfl⟩ rfl ?_
  refine SL.asg ⟨rfl, rfl, rfl, rfl⟩ rfl ?_
  refine SL.nx ?_
  refine SX.seq ?_
  refine SX.sr ?_
  refine SL.mv ⟨rfl, rfl, rfl, rfl⟩ rfl ?_
  refine SL.lenS ⟨rfl, rfl, rfl, rfl⟩ ty9 rfl ?_
  refine SL.bin ⟨rfl, rfl, rfl, rfl⟩ rfl rfl Bin.gtI ?_
  refine SL.nx ?_
  refine SX.cond rfl (fun hc1 => ?_) (fun hc1 => ?_)
  · skip
    have h0 : 198 < s.length := by simp at hc1; omega
    refine SX.sr ?_
    refine SL.asg ⟨rfl, rfl, rfl, rfl⟩ rfl ?_
    refine SL.asg ⟨rfl, rfl, rfl, rfl⟩ rfl ?_
    refine SL.nx ?_
    refine SX.ret ?_
    refine SQ.thnR ?_
    exact SQ.fret (res2 rfl rfl rfl) (ret_of (M := []) ⟨by rw [if_pos h0], rfl⟩ fun _ h => h.skip [])
  · skip
    have h0 : ¬ 198 < s.length := by simp at hc1; omega
    have e1 : (198 - (s.length : Int)) = ((198 - s.length : Nat) : Int) := by omega
    refine SX.skip ?_
    refine SQ.thn ?_
    refine SX.seq ?_
    refine SX.drawI mix [] (Pl.ap [(true, 0), (true, 1), (true, 2), (true, 3), (true, 4), (true, 5), (true, 6), (true, 9), (true, 11), (true, 12), (true, 13)] (.alt 7 (.alt 8 (Pl.of [(true, 10), (false, 14), (true, 15), (true, 16), (true, 17)]) (.cons (false, 14) (Pl.of [(false, 8), (true, 10), (true, 15), (true, 16), (true, 17)]))) (.cons (false, 14) (Pl.of [(false, 7), (false, 8), (true, 10), (true, 15), (true, 16), (true, 17)])))) (by kernel_rfl) ?_
    refine SL.mv ⟨rfl, rfl, rfl, rfl⟩ rfl ?_
    refine SL.lenS ⟨rfl, rfl, rfl, rfl⟩ ty9 rfl ?_
    refine SL.bin ⟨rfl, rfl, rfl, rfl⟩ rfl rfl (Bin.shrI (n := 8) (by omega) (by omega)) ?_
    refine SL.cv ⟨rfl, rfl, rfl, rfl⟩ rfl (Cv.i_8 ty3 ty5) ?_
    refine SL.mv ⟨rfl, rfl, rfl, rfl⟩ rfl ?_
    refine SL.lenS ⟨rfl, rfl, rfl, rfl⟩ ty9 rfl ?_
    refine SL.cv ⟨rfl, rfl, rfl, rfl⟩ rfl (Cv.i_8 ty3 ty5) ?_
    refine SL.mv ⟨rfl, rfl, rfl, rfl⟩ rfl ?_
    refine SL.mv ⟨rfl, rfl, rfl, rfl⟩ rfl ?_
    refine SL.lenS ⟨rfl, rfl, rfl, rfl⟩ ty9 rfl ?_
    refine SL.bin ⟨rfl, rfl, rfl, rfl⟩ rfl rfl (Bin.subI (by omega) (by omega)) ?_
    rw [e1]
    refine SL.two ?_ ?_
    · skip
      refine SL.bsl [_, _] ⟨rfl, rfl, rfl, rfl⟩ ty41 sz5 ze5 ⟨rfl, rfl, trivial⟩ rfl rfl rfl (by simp [Value.cells]) rfl rfl (fun _ => trivial) fun b0 => ?_
      refine SL.two ?_ ?_
      · skip
        refine SL.bts [_, _] ⟨rfl, rfl, rfl, rfl⟩ ty41 ty5 ty9 rfl rfl (cells_all 0 rfl) ?_
        refine SL.bin ⟨rfl, rfl, rfl, rfl⟩ rfl rfl (Bin.cat (by simp; omega)) ?_
        refine SL.call (vs := [_, _]) (Hin := []) ⟨rfl, rfl, rfl, rfl⟩ rfl ⟨rfl, rfl, trivial⟩ cal48 rfl rfl (c_Repeat0 (198 - s.length) (by omega)) ?_
        rintro _ _ ⟨rfl, rfl⟩
        refine ⟨trivial, ?_⟩
        refine SL.bin ⟨rfl, rfl, rfl, rfl⟩ rfl rfl (Bin.cat (by simp; omega)) ?_
        refine SL.asg ⟨rfl, rfl, rfl, rfl⟩ rfl ?_
        refine SL.asg ⟨rfl, rfl, rfl, rfl⟩ rfl ?_
        refine SL.nx ?_
        refine SX.ret ?_
        exact SQ.fret (res2 rfl rfl rfl) (ret_of (M := []) ⟨by rw [if_neg h0]; rfl, rfl⟩ fun _ h => h.skip [_])
      · skip
        refine SL.call (vs := [_, _]) (Hin := []) ⟨rfl, rfl, rfl, rfl⟩ rfl ⟨rfl, rfl, trivial⟩ cal48 rfl rfl (c_Repeat0 (198 - s.length) (by omega)) ?_
        rintro _ _ ⟨rfl, rfl⟩
        refine ⟨trivial, ?_⟩
        refine SL.bts [_, _] ⟨rfl, rfl, rfl, rfl⟩ ty41 ty5 ty9 rfl rfl (cells_all 0 rfl) ?_
        refine SL.bin ⟨rfl, rfl, rfl, rfl⟩ rfl rfl (Bin.cat (by simp; omega)) ?_
        refine SL.bin ⟨rfl, rfl, rfl, rfl⟩ rfl rfl (Bin.cat (by simp; omega)) ?_
        refine SL.asg ⟨rfl, rfl, rfl, rfl⟩ rfl ?_
        refine SL.asg ⟨rfl, rfl, rfl, rfl⟩ rfl ?_
        refine SL.nx ?_
        refine SX.ret ?_
        exact SQ.fret (res2 rfl rfl rfl) (ret_of (M := []) ⟨by rw [if_neg h0]; rfl, rfl⟩ fun _ h => h.skip [_])
    · skip
      refine SL.call (vs := [_, _]) (Hin := []) ⟨rfl, rfl, rfl, rfl⟩ rfl ⟨rfl, rfl, trivial⟩ cal48 rfl rfl (c_Repeat0 (198 - s.length) (by omega)) ?_
      rintro _ _ ⟨rfl, rfl⟩
      refine ⟨trivial, ?_⟩
      refine SL.bsl [_, _] ⟨rfl, rfl, rfl, rfl⟩ ty41 sz5 ze5 ⟨rfl, rfl, trivial⟩ rfl rfl rfl (by simp [Value.cells]) rfl rfl (fun _ => trivial) fun b0 => ?_
      refine SL.bts [_, _] ⟨rfl, rfl, rfl, rfl⟩ ty41 ty5 ty9 rfl rfl (cells_all 0 rfl) ?_
      refine SL.bin ⟨rfl, rfl, rfl, rfl⟩ rfl rfl (Bin.cat (by simp; omega)) ?_
      refine SL.bin ⟨rfl, rfl, rfl, rfl⟩ rfl rfl (Bin.cat (by simp; omega)) ?_
      refine SL.asg ⟨rfl, rfl, rfl, rfl⟩ rfl ?_
      refine SL.asg ⟨rfl, rfl, rfl, rfl⟩ rfl ?_
      refine SL.nx ?_
      refine SX.ret ?_
      exact SQ.fret (res2 rfl rfl rfl) (ret_of (M := []) ⟨by rw [if_neg h0]; rfl, rfl⟩ fun _ h => h.skip [_])

theorem c_pad_Unpad (b : List UInt8) : Con Tryd.prog K w0 40 [vS b] [] H (fun r M => r = .tuple #[vS (unpadA b).1, vI (unpadA b).2] ∧ M = []) := by
  refine Con.enter Tryd.func40 rfl rfl ?_
  refine SX.sr ?_
  refine SL.asg ⟨rfl, rfl, rfl, rfl⟩ rfl ?_
  refine SL.asg ⟨rfl, rfl, rfl, rfl⟩ rfl ?_
  refine SL.nx ?_
  refine SX.seq ?_
  refine SX.sr ?_
  refine SL.mv ⟨rfl, rfl, rfl, rfl⟩ rfl ?_
  refine SL.lenS ⟨rfl, rfl, rfl, rfl⟩ ty9 rfl ?_
  refine SL.bin ⟨rfl, rfl, rfl, rfl⟩ rfl rfl Bin.neI ?_
  refine SL.nx ?_
  refine SX.cond rfl (fun hc1 => ?_) (fun hc1 => ?_)
  · skip
    have h0 : b.length ≠ 200 := by simp at hc1; omega
    have hu : unpadA b = ([], 50) := by unfold unpadA; rw [if_pos h0]
    rw [hu]
    refine SX.sr ?_
    refine SL.asg ⟨rfl, rfl, rfl, rfl⟩ rfl ?_
    refine SL.asg ⟨rfl, rfl, rfl, rfl⟩ rfl ?_
    refine SL.nx ?_
    refine SX.ret ?_
    refine SQ.thnR ?_
    exact SQ.fret (res2 rfl rfl rfl) (ret_of (M := []) ⟨rfl, rfl⟩ fun _ h => h.skip [])
  · skip
    have h0 : b.length = 200 := by simp at hc1; omega
    have e1 : ((b.getD 0 0).toNat : Int) * 2 ^ (min 8 64) = (((b.getD 0 0).toNat * 256 : Nat) : Int) := by simp
    have hb0 := (b.getD 0 0).toNat_lt
    have hb1 := (b.getD 1 0).toNat_lt
    refine SX.skip ?_
    refine SQ.thn ?_
    refine SX.seq ?_
    refine SX.drawI mix [] (Pl.of [(true, 0), (true, 1), (true, 2), (true, 3), (true, 4), (true, 5), (true, 6), (true, 7), (true, 8)]) (by kernel_rfl) ?_
    refine SL.mv ⟨rfl, rfl, rfl, rfl⟩ rfl ?_
    refine SL.ixS 0 ⟨rfl, rfl, rfl, rfl⟩ ty9 rfl rfl (by omega) (by omega) ?_
    refine SL.cv ⟨rfl, rfl, rfl, rfl⟩ rfl (Cv.u8_I ty5 ty3) ?_
    refine SL.bin ⟨rfl, rfl, rfl, rfl⟩ rfl rfl (Bin.shlI (n := 8) (by rw [e1]; omega) (by rw [e1]; omega)) ?_
    rw [e1]
    refine SL.mv ⟨rfl, rfl, rfl, rfl⟩ rfl ?_
    refine SL.ixS 1 ⟨rfl, rfl, rfl, rfl⟩ ty9 rfl rfl (by omega) (by omega) ?_
    refine SL.cv ⟨rfl, rfl, rfl, rfl⟩ rfl (Cv.u8_I ty5 ty3) ?_
    refine SL.bin ⟨rfl, rfl, rfl, rfl⟩ rfl rfl (Bin.orI (a := (b.getD 0 0).toNat * 256) (b := (b.getD 1 0).toNat) (by omega) (by omega)) ?_
    have e2 : (b.getD 0 0).toNat * 256 ||| (b.getD 1 0).toNat = lenA b := by
      have := Nat.shiftLeft_add_eq_or_of_lt (i := 8) (b := (b.getD 1 0).toNat) (by omega) (b.getD 0 0).toNat
      rw [Nat.shiftLeft_eq, show (2 : Nat) ^ 8 = 256 from rfl] at this
      unfold lenA
      omega
    rw [e2]
    have hla : lenA b < 65536 := by unfold lenA; omega
    refine SL.asg ⟨rfl, rfl, rfl, rfl⟩ rfl ?_
    refine SL.nx ?_
    refine SX.seq ?_
    refine SX.sr ?_
    refine SL.mv ⟨rfl, rfl, rfl, rfl⟩ rfl ?_
    refine SL.bin ⟨rfl, rfl, rfl, rfl⟩ rfl rfl Bin.gtI ?_
    refine SL.nx ?_
    refine SX.cond rfl (fun hc2 => ?_) (fun hc2 => ?_)
    · skip
      have h1 : 198 < lenA b := by simp at hc2; omega
      have hu : unpadA b = ([], 50) := by unfold unpadA; rw [if_neg (by omega), if_pos h1]
      rw [hu]
      refine SX.sr ?_
      refine SL.asg ⟨rfl, rfl, rfl, rfl⟩ rfl ?_
      refine SL.asg ⟨rfl, rfl, rfl, rfl⟩ rfl ?_
      refine SL.nx ?_
      refine SX.ret ?_
      refine SQ.thnR ?_
      exact SQ.fret (res2 rfl rfl rfl) (ret_of (M := []) ⟨rfl, rfl⟩ fun _ h => h.skip [])
    · skip
      have h1 : ¬ 198 < lenA b := by simp at hc2; omega
      refine SX.skip ?_
      refine SQ.thn ?_
      refine SX.sr ?_
      refine SL.asg ⟨rfl, rfl, rfl, rfl⟩ rfl ?_
      refine SL.nx ?_
      refine SX.seq ?_
      refine SX.sr ?_
      refine SL.mv ⟨rfl, rfl, rfl, rfl⟩ rfl ?_
      refine SL.bin ⟨rfl, rfl, rfl, rfl⟩ rfl rfl (Bin.subI (by omega) (by omega)) ?_
      refine SL.mv ⟨rfl, rfl, rfl, rfl⟩ rfl ?_
      refine SL.nx ?_
      refine SX.block ?_
      refine SX.mono (SX.loop (α := Nat × UInt8) (fun x => x.1 ≤ 198 - lenA b ∧ (x.2 = 0 ↔ ∀ j, j < x.1 → b.getD (2 + lenA b + j) 0 = 0)) (fun x => [(0, vS b), (4, vI (lenA b)), (5, vU8 x.2), (21, vI (198 - (lenA b : Int))), (22, vI x.1)]) (fun x => H) (fun x => 198 - lenA b - x.1) (fun x D hp => ?_) (0, 0) ⟨Nat.zero_le _, by simp⟩) (by repeat' (first | exact trivial | refine And.intro rfl ?_))
      obtain ⟨i, x⟩ := x
      obtain ⟨hi, hx⟩ := hp
      simp only at hi hx
      refine SX.sr ?_
      refine SL.bin ⟨rfl, rfl, rfl, rfl⟩ rfl rfl Bin.ltI ?_
      refine SL.nx ?_
      refine SX.seq ?_
      refine SX.cond rfl (fun hc3 => ?_) (fun hc3 => ?_)
      · skip
        have hlt : i < 198 - lenA b := by simp at hc3; omega
        refine SX.skip ?_
        refine SQ.thn ?_
        refine SX.seq ?_
        refine SX.block ?_
        refine SX.sr ?_
        refine SL.mv ⟨rfl, rfl, rfl, rfl⟩ rfl ?_
        refine SL.asg ⟨rfl, rfl, rfl, rfl⟩ rfl ?_
        refine SL.nx ?_
        refine SX.region ?_
        refine SL.mv ⟨rfl, rfl, rfl, rfl⟩ rfl ?_
        refine SL.mv ⟨rfl, rfl, rfl, rfl⟩ rfl ?_
        refine SL.mv ⟨rfl, rfl, rfl, rfl⟩ rfl ?_
        refine SL.bin ⟨rfl, rfl, rfl, rfl⟩ rfl rfl (Bin.addI (by omega) (by omega)) ?_
        refine SL.mv ⟨rfl, rfl, rfl, rfl⟩ rfl ?_
        refine SL.bin ⟨rfl, rfl, rfl, rfl⟩ rfl rfl (Bin.addI (by omega) (by omega)) ?_
        refine SL.ixS (2 + lenA b + i) ⟨rfl, rfl, rfl, rfl⟩ ty9 rfl rfl (by omega) (by omega) ?_
        refine SL.bin ⟨rfl, rfl, rfl, rfl⟩ rfl rfl Bin.or8 ?_
        refine SL.asg ⟨rfl, rfl, rfl, rfl⟩ rfl ?_
        refine SL.nil ?_
        refine SQ.blk ?_
        refine SQ.thn ?_
        refine SX.region ?_
        refine SL.bin ⟨rfl, rfl, rfl, rfl⟩ rfl rfl (Bin.addI (by omega) (by omega)) ?_
        refine SL.mv ⟨rfl, rfl, rfl, rfl⟩ rfl ?_
        refine SL.nil ?_
        refine SQ.again (i + 1, x ||| b.getD (2 + lenA b + i) 0) ⟨hlt, ?_⟩ (by simp only; omega) (by repeat' (first | exact trivial | refine And.intro rfl ?_))
        simp only
        rw [or_zero8, hx]
        constructor
        · rintro ⟨h1, h2⟩ j hj
          rcases Nat.lt_or_ge j i with h | h
          · exact h1 j h
          · obtain rfl : j = i := by omega
            exact h2
        · intro h
          exact ⟨fun j hj => h j (by omega), h i (by omega)⟩
      · skip
        have hie : i = 198 - lenA b := by simp at hc3; omega
        subst hie
        refine SX.exit ?_
        refine SQ.thnE ?_
        refine SQ.lpE ?_
        refine SQ.blkE ?_
        refine SQ.thn ?_
        refine SX.seq ?_
        refine SX.sr ?_
        refine SL.mv ⟨rfl, rfl, rfl, rfl⟩ rfl ?_
        refine SL.bin ⟨rfl, rfl, rfl, rfl⟩ rfl rfl (Bin.ne8 (b := 0)) ?_
        refine SL.nx ?_
        refine SX.cond rfl (fun hc4 => ?_) (fun hc4 => ?_)
        · skip
          have hu : unpadA b = ([], 50) := by
            unfold unpadA
            rw [if_neg (by omega), if_neg h1, if_neg (fun hc => by simp at hc4; exact hc4 (hx.2 hc))]
          rw [hu]
          refine SX.sr ?_
          refine SL.asg ⟨rfl, rfl, rfl, rfl⟩ rfl ?_
          refine SL.asg ⟨rfl, rfl, rfl, rfl⟩ rfl ?_
          refine SL.nx ?_
          refine SX.ret ?_
          refine SQ.thnR ?_
          exact SQ.fret (res2 rfl rfl rfl) (ret_of (M := []) ⟨rfl, rfl⟩ fun _ h => h.skip [])
        · skip
          have hu : unpadA b = ((b.drop 2).take (lenA b), 0) := by
            unfold unpadA
            rw [if_neg (by omega), if_neg h1, if_pos (show cleanA b from hx.1 (by simpa using hc4))]
          rw [hu]
          refine SX.skip ?_
          refine SQ.thn ?_
          refine SX.sr ?_
          refine SL.mv ⟨rfl, rfl, rfl, rfl⟩ rfl ?_
          refine SL.mv ⟨rfl, rfl, rfl, rfl⟩ rfl ?_
          refine SL.bin ⟨rfl, rfl, rfl, rfl⟩ rfl rfl (Bin.addI (by omega) (by omega)) ?_
          refine SL.slS 2 (2 + lenA b) ⟨rfl, rfl, rfl, rfl⟩ ty9 rfl rfl rfl (by omega) (by omega) (by omega) (by omega) ?_
          refine SL.asg ⟨rfl, rfl, rfl, rfl⟩ rfl ?_
          refine SL.asg ⟨rfl, rfl, rfl, rfl⟩ rfl ?_
          refine SL.nx ?_
          refine SX.ret ?_
          refine SQ.fret (res2 rfl rfl rfl) (ret_of (M := []) ⟨?_, rfl⟩ fun _ h => h.skip [])
          rw [show 2 + lenA b - 2 = lenA b by omega]

end Go.Proofs.YtnpnmdbleopikaaDoor

