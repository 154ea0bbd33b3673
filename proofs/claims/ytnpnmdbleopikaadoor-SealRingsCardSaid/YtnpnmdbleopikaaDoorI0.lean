/- The walk of a sealed block. Condition: rings of at most 2^40 keys, texts of at most 2^39 bytes. -/
import Derived.Test.YtnpnmdbleopikaaDoorE1
import Derived.Test.YtnpnmdbleopikaaDoorG2
import Derived.Test.YtnpnmdbleopikaaDoorH1
import Derived.Test.YtnpnmdbleopikaaDoorP6
namespace Go.Proofs.YtnpnmdbleopikaaDoor
open Go
variable {K : Nat → Prop} {w0 : World} {H : List Chunk}

theorem c_padR (s : List UInt8) (hn : s.length ≤ 9223372036854775807) : Con Tryd.prog K w0 29 [vS s] [] H (fun r M => r = .tuple #[vS (padR s).1, vI (padR s).2] ∧ M = []) :=
  (c_pad_Pad s hn).mono fun v M h => ⟨by rw [h.1]; unfold padR; split <;> rfl, h.2⟩
theorem c_subsR (T : List UInt32) (k : KeyA) (hT : ShaT K w0 T) (hr : rightA [k] = true) : Con Tryd.prog K w0 30 [.agg (encKey k).toArray] [] H (fun r M => r = .tuple #[vS (subA T k sealW), vS (subA T k bindW), vI 0] ∧ M = []) :=
  (c_keys_Subs T k hT).mono fun v M h => ⟨by rw [h.1, if_pos hr], h.2⟩
theorem c_seal_Seal (T : List UInt32) (v : Value) (l : List KeyA) (h : HeadA) (s : List UInt8) (hT : ShaT K w0 T) (hk : SlOf K w0 encKey 2 v l) (hv : v.cells = #[v]) (hl : l.length ≤ 1099511627776) (hn : s.length ≤ 9223372036854775807) : Con Tryd.prog K w0 16 [v, .agg (encHead h).toArray, vS s] [] H (fun r M => r = .tuple #[vS (sealA T l h s).1, vI (sealA T l h s).2] ∧ M = []) := by
  refine Con.enter Tryd.func16 rfl rfl ?_
  refine SX.sr ?_
  refine SL.box ⟨rfl, rfl, rfl, rfl⟩ rfl (fun _ => trivial) fun b0 => ?_
  refine SL.asg ⟨rfl, rfl, rfl, rfl⟩ rfl ?_
  refine SL.asg ⟨rfl, rfl, rfl, rfl⟩ rfl ?_
  refine SL.nx ?_
  refine SX.sr ?_
  refine SL.mv ⟨rfl, rfl, rfl, rfl⟩ rfl ?_
  refine SL.fa ⟨rfl, rfl, rfl, rfl⟩ rfl fo25_1 ?_
  refine SL.ld ⟨rfl, rfl, rfl, rfl⟩ sc22 rfl (cell_own 0 rfl rfl) ?_
  refine SL.call (vs := [_, _]) (Hin := []) ⟨rfl, rfl, rfl, rfl⟩ rfl ⟨rfl, rfl, trivial⟩ cal28 rfl rfl (c_keys_Find v l h.gen hk hv hl) ?_
  rintro _ _ ⟨rfl, rfl⟩
  refine ⟨trivial, ?_⟩
  generalize hf : findA l h.gen = f
  refine SL.mv ⟨rfl, rfl, rfl, rfl⟩ rfl ?_
  refine SL.ext ⟨rfl, rfl, rfl, rfl⟩ rfl rfl ?_
  refine SL.ext ⟨rfl, rfl, rfl, rfl⟩ rfl rfl ?_
  refine SL.alloc ⟨rfl, rfl, rfl, rfl⟩ ze44 (fun _ => trivial) fun b1 => ?_
  refine SL.st 0 ⟨rfl, rfl, rfl⟩ rfl rfl rfl sz44 rfl rfl rfl trivial ?_
  refine SL.asg ⟨rfl, rfl, rfl, rfl⟩ rfl ?_
  refine SL.nx ?_
  refine SX.seq ?_
  refine SX.sr ?_
  refine SL.mv ⟨rfl, rfl, rfl, rfl⟩ rfl ?_
  refine SL.bin ⟨rfl, rfl, rfl, rfl⟩ rfl rfl Bin.neI ?_
  refine SL.nx ?_
  refine SX.cond rfl (fun hc1 => ?_) (fun hc1 => ?_)
  · skip
    have he : f.2 ≠ 0 := by simpa using hc1
    have hs : sealA T l h s = ([], f.2) := by unfold sealA; rw [hf, if_pos he]
    rw [hs]
    refine SX.sr ?_
    refine SL.mv ⟨rfl, rfl, rfl, rfl⟩ rfl ?_
    refine SL.asg ⟨rfl, rfl, rfl, rfl⟩ rfl ?_
    refine SL.asg ⟨rfl, rfl, rfl, rfl⟩ rfl ?_
    refine SL.nx ?_
    refine SX.ret ?_
    refine SQ.thnR ?_
    exact SQ.fret (res2 rfl rfl rfl) (ret_of (M := []) ⟨rfl, rfl⟩ fun _ h => h.skip [_, _])
  · skip
    have he : f.2 = 0 := by simpa using hc1
    have hok := find_ok (l := l) (g := h.gen) (by rw [hf]; exact he)
    rw [hf] at hok
    refine SX.skip ?_
    refine SQ.thn ?_
    refine SX.sr ?_
    refine SL.mv ⟨rfl, rfl, rfl, rfl⟩ rfl ?_
    refine SL.call (vs := [_]) (Hin := []) ⟨rfl, rfl, rfl, rfl⟩ rfl ⟨rfl, trivial⟩ cal29 rfl rfl (c_padR s hn) ?_
    rintro _ _ ⟨rfl, rfl⟩
    refine ⟨trivial, ?_⟩
    refine SL.mv ⟨rfl, rfl, rfl, rfl⟩ rfl ?_
    refine SL.ext ⟨rfl, rfl, rfl, rfl⟩ rfl rfl ?_
    refine SL.ext ⟨rfl, rfl, rfl, rfl⟩ rfl rfl ?_
    refine SL.asg ⟨rfl, rfl, rfl, rfl⟩ rfl ?_
    refine SL.asg ⟨rfl, rfl, rfl, rfl⟩ rfl ?_
    refine SL.nx ?_
    refine SX.seq ?_
    refine SX.sr ?_
    refine SL.mv ⟨rfl, rfl, rfl, rfl⟩ rfl ?_
    refine SL.bin ⟨rfl, rfl, rfl, rfl⟩ rfl rfl Bin.neI ?_
    refine SL.nx ?_
    refine SX.cond rfl (fun hc2 => ?_) (fun hc2 => ?_)
    · skip
      have h1 : 198 < s.length := by
        unfold padR at hc2
        split at hc2
        · assumption
        · simp at hc2
      have hs : sealA T l h s = ([], 50) := by unfold sealA; rw [hf, if_neg (by simp [he]), if_pos h1]
      have hp : padR s = ([], 50) := by unfold padR; rw [if_pos h1]
      rw [hs, hp]
      refine SX.sr ?_
      refine SL.mv ⟨rfl, rfl, rfl, rfl⟩ rfl ?_
      refine SL.asg ⟨rfl, rfl, rfl, rfl⟩ rfl ?_
      refine SL.asg ⟨rfl, rfl, rfl, rfl⟩ rfl ?_
      refine SL.nx ?_
      refine SX.ret ?_
      refine SQ.thnR ?_
      exact SQ.fret (res2 rfl rfl rfl) (ret_of (M := []) ⟨rfl, rfl⟩ fun _ h => h.skip [_, _])
    · skip
      have h1 : ¬ 198 < s.length := by
        intro h1
        unfold padR at hc2
        rw [if_pos h1] at hc2
        simp at hc2
      have hp : padR s = (padA s, 0) := by unfold padR; rw [if_neg h1]
      have hpl : (padA s).length = 200 := padA_length (by omega)
      have hbl := boundA_length T f.1 h hpl
      have hsl1 := subA_length T f.1 sealW
      have hsl2 := subA_length T f.1 bindW
      have hs : sealA T l h s = (blkA T f.1 h s, 0) := by unfold sealA; rw [hf, if_neg (by simp [he]), if_neg h1]
      rw [hs, hp]
      refine SX.skip ?_
      refine SQ.thn ?_
      refine SX.sr ?_
      refine SL.ldA (encKey f.1) ⟨rfl, rfl, rfl, rfl⟩ ag44 rfl rfl (cells_all 0 rfl) ?_
      refine SL.call (vs := [_]) (Hin := []) ⟨rfl, rfl, rfl, rfl⟩ rfl ⟨rfl, trivial⟩ cal30 rfl rfl (c_subsR T f.1 hT hok.2.2.2) ?_
      rintro _ _ ⟨rfl, rfl⟩
      refine ⟨trivial, ?_⟩
      refine SL.mv ⟨rfl, rfl, rfl, rfl⟩ rfl ?_
      refine SL.ext ⟨rfl, rfl, rfl, rfl⟩ rfl rfl ?_
      refine SL.ext ⟨rfl, rfl, rfl, rfl⟩ rfl rfl ?_
      refine SL.ext ⟨rfl, rfl, rfl, rfl⟩ rfl rfl ?_
      refine SL.asg ⟨rfl, rfl, rfl, rfl⟩ rfl ?_
      refine SL.asg ⟨rfl, rfl, rfl, rfl⟩ rfl ?_
      refine SL.asg ⟨rfl, rfl, rfl, rfl⟩ rfl ?_
      refine SL.nx ?_
      refine SX.sr ?_
      refine SL.mv ⟨rfl, rfl, rfl, rfl⟩ rfl ?_
      refine SL.ldA (encHead h) ⟨rfl, rfl, rfl, rfl⟩ ag25 rfl rfl (cells_all 1 rfl) ?_
      refine SL.call (vs := [_]) (Hin := []) ⟨rfl, rfl, rfl, rfl⟩ rfl ⟨rfl, trivial⟩ cal26 rfl rfl (c_seal_nonce h) ?_
      rintro _ _ ⟨rfl, rfl⟩
      refine ⟨trivial, ?_⟩
      refine SL.mv ⟨rfl, rfl, rfl, rfl⟩ rfl ?_
      refine SL.call (vs := [_, _, _]) (Hin := []) ⟨rfl, rfl, rfl, rfl⟩ rfl ⟨rfl, rfl, rfl, trivial⟩ cal31 rfl rfl (c_arx_Xor (subA T f.1 sealW) (nonceA h) (padA s) hsl1 (nonceA_length h) (by omega)) ?_
      rintro _ _ ⟨rfl, rfl⟩
      refine ⟨trivial, ?_⟩
      refine SL.mv ⟨rfl, rfl, rfl, rfl⟩ rfl ?_
      refine SL.ext ⟨rfl, rfl, rfl, rfl⟩ rfl rfl ?_
      refine SL.ext ⟨rfl, rfl, rfl, rfl⟩ rfl rfl ?_
      refine SL.asg ⟨rfl, rfl, rfl, rfl⟩ rfl ?_
      refine SL.asg ⟨rfl, rfl, rfl, rfl⟩ rfl ?_
      refine SL.nx ?_
      refine SX.sr ?_
      refine SL.ldA (encHead h) ⟨rfl, rfl, rfl, rfl⟩ ag25 rfl rfl (cells_all 1 rfl) ?_
      refine SL.call (vs := [_]) (Hin := []) ⟨rfl, rfl, rfl, rfl⟩ rfl ⟨rfl, trivial⟩ cal13 rfl rfl (c_seal_Put h) ?_
      rintro _ _ ⟨rfl, rfl⟩
      refine ⟨trivial, ?_⟩
      refine SL.mv ⟨rfl, rfl, rfl, rfl⟩ rfl ?_
      refine SL.bin ⟨rfl, rfl, rfl, rfl⟩ rfl rfl (Bin.cat (by rw [putA_length, xorA_length]; omega)) ?_
      refine SL.asg ⟨rfl, rfl, rfl, rfl⟩ rfl ?_
      refine SL.nx ?_
      refine SX.sr ?_
      refine SL.mv ⟨rfl, rfl, rfl, rfl⟩ rfl ?_
      refine SL.mv ⟨rfl, rfl, rfl, rfl⟩ rfl ?_
      refine SL.mv ⟨rfl, rfl, rfl, rfl⟩ rfl ?_
      refine SL.bsl [_] ⟨rfl, rfl, rfl, rfl⟩ ty83 sz9 ze9 ⟨rfl, trivial⟩ rfl rfl rfl (by simp [Value.cells]) rfl rfl (fun _ => trivial) fun b2 => ?_
      refine SL.call (vs := [_, _]) (Hin := [_]) ⟨rfl, rfl, rfl, rfl⟩ rfl ⟨rfl, rfl, trivial⟩ cal32 rfl rfl (c_mac_Mac T (subA T f.1 bindW) [boundA T f.1 h (padA s)] b2 hT (by omega) (by simp; omega) (by simp)) ?_
      rintro _ _ ⟨rfl, rfl⟩
      refine ⟨trivial, ?_⟩
      refine SL.bin ⟨rfl, rfl, rfl, rfl⟩ rfl rfl (Bin.cat (by rw [macA_length]; have := hbl; simp only [boundA] at this; omega)) ?_
      refine SL.asg ⟨rfl, rfl, rfl, rfl⟩ rfl ?_
      refine SL.asg ⟨rfl, rfl, rfl, rfl⟩ rfl ?_
      refine SL.nx ?_
      refine SX.ret ?_
      exact SQ.fret (res2 rfl rfl rfl) (ret_of (M := []) ⟨by simp [blkA, boundA], rfl⟩ fun _ h => h.skip [_, _])

end Go.Proofs.YtnpnmdbleopikaaDoor

