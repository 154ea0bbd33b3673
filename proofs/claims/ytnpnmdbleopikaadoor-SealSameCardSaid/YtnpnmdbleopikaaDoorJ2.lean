/- Walk of SealSame. Condition: the tables of the sum stand. -/
import Derived.Test.YtnpnmdbleopikaaDoorJ1
namespace Go.Proofs.YtnpnmdbleopikaaDoor
open Go
variable {K : Nat → Prop} {w0 : World} {H : List Chunk}
theorem c_law06_SealSame (T : List UInt32) (v : Value) (l : List KeyA) (bb : List UInt8) (hT : ShaT K w0 T) (hk : SlOf K w0 encKey 2 v l) (hl : l.length ≤ 9223372036854775807) (hb : bb.length ≤ 9223372036854775807) : Con Tryd.prog K w0 7 [v, vS bb] [] H (fun v M => v = vB true ∧ M = []) := by
  have hll : (l.take (min l.length 30)).length ≤ 30 := by simp; omega
  have hok := open_ok (T := T) (l := l.take (min l.length 30)) (b := bb)
  have herr := open_err (T := T) (l := l.take (min l.length 30)) (b := bb)
  generalize ho : openA T (l.take (min l.length 30)) bb = o at hok herr
  obtain ⟨h, s, e⟩ := o
  simp only at hok herr
  refine Con.enter Tryd.func7 rfl rfl ?_
  refine SX.sr ?_
  refine SL.asg ⟨rfl, rfl, rfl, rfl⟩ rfl ?_
  refine SL.nx ?_
  refine SX.sr ?_
  refine SL.call (vs := []) (Hin := []) ⟨rfl, rfl, rfl, rfl⟩ rfl trivial cal10 rfl rfl (c_law06_shown T hT) ?_
  rintro _ _ ⟨rfl, rfl⟩
  refine ⟨trivial, ?_⟩
  refine SL.asg ⟨rfl, rfl, rfl, rfl⟩ rfl ?_
  refine SL.nx ?_
  refine SX.sr ?_
  refine SL.mv ⟨rfl, rfl, rfl, rfl⟩ rfl ?_
  refine SL.call (vs := [_]) (Hin := []) ⟨rfl, rfl, rfl, rfl⟩ rfl ⟨rfl, trivial⟩ cal17 rfl rfl (c_law06_cut v l hk hl) ?_
  rintro _ _ ⟨⟨v1, rfl, hv1⟩, rfl⟩
  refine ⟨trivial, ?_⟩
  refine SL.mv ⟨rfl, rfl, rfl, rfl⟩ rfl ?_
  refine SL.call (vs := [_, _]) (Hin := []) ⟨rfl, rfl, rfl, rfl⟩ rfl ⟨rfl, rfl, trivial⟩ cal19 rfl rfl (c_seal_Open T _ _ bb hT hv1 hv1.cells1 (by omega) hb) ?_
  rintro _ _ ⟨rfl, rfl⟩
  rw [ho]
  refine ⟨trivial, ?_⟩
  refine SL.mv ⟨rfl, rfl, rfl, rfl⟩ rfl ?_
  refine SL.ext ⟨rfl, rfl, rfl, rfl⟩ rfl rfl ?_
  refine SL.ext ⟨rfl, rfl, rfl, rfl⟩ rfl rfl ?_
  refine SL.ext ⟨rfl, rfl, rfl, rfl⟩ rfl rfl ?_
  refine SL.alloc ⟨rfl, rfl, rfl, rfl⟩ ze25 (fun _ => trivial) fun b0 => ?_
  refine SL.st 0 ⟨rfl, rfl, rfl⟩ rfl rfl rfl sz25 rfl rfl rfl trivial ?_
  refine SL.asg ⟨rfl, rfl, rfl, rfl⟩ rfl ?_
  refine SL.asg ⟨rfl, rfl, rfl, rfl⟩ rfl ?_
  refine SL.nx ?_
  refine SX.seq ?_
  refine SX.sr ?_
  refine SL.mv ⟨rfl, rfl, rfl, rfl⟩ rfl ?_
  refine SL.bin ⟨rfl, rfl, rfl, rfl⟩ rfl rfl Bin.neI ?_
  refine SL.nx ?_
  refine SX.cond rfl (fun hc1 => ?_) (fun hc1 => ?_)
  · skip
    obtain ⟨e1, e2⟩ := herr (by simpa using hc1)
    subst e1 e2
    refine SX.sr ?_
    refine SL.mv ⟨rfl, rfl, rfl, rfl⟩ rfl ?_
    refine SL.mv ⟨rfl, rfl, rfl, rfl⟩ rfl ?_
    refine SL.mv ⟨rfl, rfl, rfl, rfl⟩ rfl ?_
    refine SL.bin ⟨rfl, rfl, rfl, rfl⟩ rfl rfl Bin.sameS ?_
    refine SL.pk ⟨rfl, rfl, rfl, rfl⟩ rfl rfl ?_
    refine SL.mv ⟨rfl, rfl, rfl, rfl⟩ rfl ?_
    refine SL.ldA (encHead head0) ⟨rfl, rfl, rfl, rfl⟩ ag25 rfl rfl (cells_all 0 rfl) ?_
    refine SL.bld [] ⟨rfl, rfl, rfl, rfl⟩ pl25 pk25 ze25 trivial rfl ?_
    refine SL.eqAgg (b := true) ⟨rfl, rfl, rfl, rfl⟩ fl25 rfl rfl rfl ?_
    refine SL.pk ⟨rfl, rfl, rfl, rfl⟩ rfl rfl ?_
    refine SL.asg ⟨rfl, rfl, rfl, rfl⟩ rfl ?_
    refine SL.nx ?_
    refine SX.ret ?_
    refine SQ.thnR ?_
    exact SQ.fret (res1 rfl rfl) (ret_of (M := []) ⟨rfl, rfl⟩ fun _ h => h.skip [_])
  · skip
    have e0 : e = 0 := by simpa using hc1
    have hs := hok e0
    have hs198 : s.length ≤ 198 := (seal_ok (by rw [hs])).2.1
    refine SX.skip ?_
    refine SQ.thn ?_
    refine SX.seq ?_
    refine SX.drawI mix [0] (Pl.of [(true, 0), (true, 2), (true, 3), (false, 1), (false, 4), (true, 5), (true, 6), (true, 7), (true, 8), (true, 9)]) (by kernel_rfl) ?_
    refine SL.mv ⟨rfl, rfl, rfl, rfl⟩ rfl ?_
    refine SL.ldA (encHead h) ⟨rfl, rfl, rfl, rfl⟩ ag25 rfl rfl (cells_all 0 rfl) ?_
    refine SL.mv ⟨rfl, rfl, rfl, rfl⟩ rfl ?_
    refine SL.call (vs := [_]) (Hin := []) ⟨rfl, rfl, rfl, rfl⟩ rfl ⟨rfl, trivial⟩ cal17 rfl rfl (c_law06_cut v l hk hl) ?_
    rintro _ _ ⟨⟨v2, rfl, hv2⟩, rfl⟩
    refine ⟨⟨⟨0, rfl⟩, trivial⟩, ?_⟩
    refine SL.call (vs := [_, _, _]) (Hin := []) ⟨rfl, rfl, rfl, rfl⟩ rfl ⟨rfl, rfl, rfl, trivial⟩ cal16 rfl rfl (c_seal_Seal T _ _ h s hT hv2 hv2.cells1 (by omega) (by omega)) ?_
    rintro _ _ ⟨rfl, rfl⟩
    rw [hs]
    refine ⟨⟨⟨0, rfl⟩, trivial⟩, ?_⟩
    refine SL.mv ⟨rfl, rfl, rfl, rfl⟩ rfl ?_
    refine SL.ext ⟨rfl, rfl, rfl, rfl⟩ rfl rfl ?_
    refine SL.ext ⟨rfl, rfl, rfl, rfl⟩ rfl rfl ?_
    refine SL.asg ⟨rfl, rfl, rfl, rfl⟩ rfl ?_
    refine SL.asg ⟨rfl, rfl, rfl, rfl⟩ rfl ?_
    refine SL.nx ?_
    refine SX.sr ?_
    refine SL.mv ⟨rfl, rfl, rfl, rfl⟩ rfl ?_
    refine SL.mv ⟨rfl, rfl, rfl, rfl⟩ rfl ?_
    refine SL.mv ⟨rfl, rfl, rfl, rfl⟩ rfl ?_
    refine SL.bin ⟨rfl, rfl, rfl, rfl⟩ rfl rfl (Bin.eqT rfl) ?_
    refine SL.pk ⟨rfl, rfl, rfl, rfl⟩ rfl rfl ?_
    refine SL.mv ⟨rfl, rfl, rfl, rfl⟩ rfl ?_
    refine SL.mv ⟨rfl, rfl, rfl, rfl⟩ rfl ?_
    refine SL.mv ⟨rfl, rfl, rfl, rfl⟩ rfl ?_
    refine SL.bin ⟨rfl, rfl, rfl, rfl⟩ rfl rfl Bin.sameS ?_
    refine SL.pk ⟨rfl, rfl, rfl, rfl⟩ rfl rfl ?_
    refine SL.asg ⟨rfl, rfl, rfl, rfl⟩ rfl ?_
    refine SL.nx ?_
    refine SX.ret ?_
    exact SQ.fret (res1 rfl rfl) (ret_of (M := []) ⟨rfl, rfl⟩ fun _ h => h.skip [_])



end Go.Proofs.YtnpnmdbleopikaaDoor
