/- Walk of SealBack. Condition: the tables of the sum stand. -/
import Derived.Test.YtnpnmdbleopikaaDoorJ1
namespace Go.Proofs.YtnpnmdbleopikaaDoor
open Go
variable {K : Nat → Prop} {w0 : World} {H : List Chunk}

theorem flat_head (h : HeadA) : flatE [(0, .int .u32), (1, .int .u32), (2, .int .u32), (3, .int .u64)] (encHead h).toArray (encHead h).toArray = some true := by
  simp [flatE, eqV, encHead, vU32, vU64]
theorem seal_back {T : List UInt32} {l : List KeyA} {h : HeadA} {s : List UInt8} (e : (sealA T l h s).2 = 0) :
    openA T l (sealA T l h s).1 = (h, s, 0) ∧ (sealA T l h s).1.length = 256 ∧ getA ((sealA T l h s).1.take 24) = (h, true) := by
  refine ⟨open_seal e, ?_⟩
  obtain ⟨_, hs, he⟩ := seal_ok e
  rw [he]
  exact ⟨blkA_length _ _ _ hs, by rw [blk_take24, getA_putA]⟩
theorem c_law06_SealBack (T : List UInt32) (v : Value) (l : List KeyA) (h : HeadA) (s : List UInt8) (hT : ShaT K w0 T) (hk : SlOf K w0 encKey 2 v l) (hl : l.length ≤ 9223372036854775807) (hs : s.length ≤ 9223372036854775807) : Con Tryd.prog K w0 6 [v, .agg (encHead h).toArray, vS s] [] H (fun v M => v = vB true ∧ M = []) := by
  have hll : (l.take (min l.length 30)).length ≤ 30 := by simp; omega
  have hok := seal_back (T := T) (l := l.take (min l.length 30)) (h := h) (s := s)
  have herr := seal_err (T := T) (l := l.take (min l.length 30)) (h := h) (s := s)
  generalize ho : sealA T (l.take (min l.length 30)) h s = o at hok herr
  obtain ⟨b, e⟩ := o
  simp only at hok herr
  refine Con.enter Tryd.func6 rfl rfl ?_
  refine SX.sr ?_
  refine SL.box ⟨rfl, rfl, rfl, rfl⟩ rfl (fun _ => trivial) fun b0 => ?_
  refine SL.asg ⟨rfl, rfl, rfl, rfl⟩ rfl ?_
  refine SL.nx ?_
  refine SX.sr ?_
  refine SL.call (vs := []) (Hin := []) ⟨rfl, rfl, rfl, rfl⟩ rfl trivial cal10 rfl rfl (c_law06_shown T hT) ?_
  rintro _ _ ⟨rfl, rfl⟩
  refine ⟨trivial, ?_⟩
  refine SL.asg ⟨rfl, rfl, rfl, rfl⟩ rfl ?_
  refine SL.nx ?_
  refine SX.seq ?_
  refine SX.drawI mix [0] (Pl.of [(true, 0), (true, 2), (true, 3), (false, 1), (false, 4), (true, 5), (true, 6), (true, 7), (true, 8), (true, 9)]) (by kernel_rfl) ?_
  refine SL.mv ⟨rfl, rfl, rfl, rfl⟩ rfl ?_
  refine SL.ldA (encHead h) ⟨rfl, rfl, rfl, rfl⟩ ag25 rfl rfl (cells_all 0 rfl) ?_
  refine SL.mv ⟨rfl, rfl, rfl, rfl⟩ rfl ?_
  refine SL.call (vs := [_]) (Hin := []) ⟨rfl, rfl, rfl, rfl⟩ rfl ⟨rfl, trivial⟩ cal17 rfl rfl (c_law06_cut v l hk hl) ?_
  rintro _ _ ⟨⟨v1, rfl, hv1⟩, rfl⟩
  refine ⟨⟨⟨0, rfl⟩, trivial⟩, ?_⟩
  refine SL.call (vs := [_, _, _]) (Hin := []) ⟨rfl, rfl, rfl, rfl⟩ rfl ⟨rfl, rfl, rfl, trivial⟩ cal16 rfl rfl (c_seal_Seal T _ _ h s hT hv1 hv1.cells1 (by omega) hs) ?_
  rintro _ _ ⟨rfl, rfl⟩
  rw [ho]
  refine ⟨⟨⟨0, rfl⟩, trivial⟩, ?_⟩
  refine SL.mv ⟨rfl, rfl, rfl, rfl⟩ rfl ?_
  refine SL.ext ⟨rfl, rfl, rfl, rfl⟩ rfl rfl ?_
  refine SL.ext ⟨rfl, rfl, rfl, rfl⟩ rfl rfl ?_
  refine SL.asg ⟨rfl, rfl, rfl, rfl⟩ rfl ?_
  refine SL.asg ⟨rfl, rfl, rfl, rfl⟩ rfl ?_
  refine SL.nx ?_
  refine SX.seq ?_
  refine SX.sr ?_
  refine SL.mv ⟨rfl, rfl, rfl, rfl⟩ rfl ?_
  refine SL.bin ⟨rfl, rfl, rfl, rfl⟩ rfl rfl Bin.neI ?_
  refine SL.nx ?_
  refine SX.cond rfl (fun hc1 => ?_) (fun hc1 => ?_)
  · skip
    have e1 := herr (by simpa using hc1)
    subst e1
    refine SX.sr ?_
    refine SL.mv ⟨rfl, rfl, rfl, rfl⟩ rfl ?_
    refine SL.mv ⟨rfl, rfl, rfl, rfl⟩ rfl ?_
    refine SL.mv ⟨rfl, rfl, rfl, rfl⟩ rfl ?_
    refine SL.bin ⟨rfl, rfl, rfl, rfl⟩ rfl rfl Bin.sameS ?_
    refine SL.pk ⟨rfl, rfl, rfl, rfl⟩ rfl rfl ?_
    refine SL.asg ⟨rfl, rfl, rfl, rfl⟩ rfl ?_
    refine SL.nx ?_
    refine SX.ret ?_
    refine SQ.thnR ?_
    exact SQ.fret (res1 rfl rfl) (ret_of (M := []) ⟨rfl, rfl⟩ fun _ h => h.skip [_])
  · skip
    have e0 : e = 0 := by simpa using hc1
    obtain ⟨hop, hlen, hget⟩ := hok e0
    refine SX.skip ?_
    refine SQ.thn ?_
    refine SX.sr ?_
    refine SL.mv ⟨rfl, rfl, rfl, rfl⟩ rfl ?_
    refine SL.call (vs := [_]) (Hin := []) ⟨rfl, rfl, rfl, rfl⟩ rfl ⟨rfl, trivial⟩ cal17 rfl rfl (c_law06_cut v l hk hl) ?_
    rintro _ _ ⟨⟨v2, rfl, hv2⟩, rfl⟩
    refine ⟨trivial, ?_⟩
    refine SL.mv ⟨rfl, rfl, rfl, rfl⟩ rfl ?_
    refine SL.call (vs := [_, _]) (Hin := []) ⟨rfl, rfl, rfl, rfl⟩ rfl ⟨rfl, rfl, trivial⟩ cal19 rfl rfl (c_seal_Open T _ _ b hT hv2 hv2.cells1 (by omega) (by omega)) ?_
    rintro _ _ ⟨rfl, rfl⟩
    rw [hop]
    refine ⟨trivial, ?_⟩
    refine SL.mv ⟨rfl, rfl, rfl, rfl⟩ rfl ?_
    refine SL.ext ⟨rfl, rfl, rfl, rfl⟩ rfl rfl ?_
    refine SL.ext ⟨rfl, rfl, rfl, rfl⟩ rfl rfl ?_
    refine SL.ext ⟨rfl, rfl, rfl, rfl⟩ rfl rfl ?_
    refine SL.alloc ⟨rfl, rfl, rfl, rfl⟩ ze25 (fun _ => trivial) fun b1 => ?_
    refine SL.st 0 ⟨rfl, rfl, rfl⟩ rfl rfl rfl sz25 rfl rfl rfl trivial ?_
    refine SL.asg ⟨rfl, rfl, rfl, rfl⟩ rfl ?_
    refine SL.asg ⟨rfl, rfl, rfl, rfl⟩ rfl ?_
    refine SL.nx ?_
    refine SX.sr ?_
    refine SL.mv ⟨rfl, rfl, rfl, rfl⟩ rfl ?_
    refine SL.mv ⟨rfl, rfl, rfl, rfl⟩ rfl ?_
    refine SL.lenS ⟨rfl, rfl, rfl, rfl⟩ ty9 rfl ?_
    refine SL.minI ⟨rfl, rfl, rfl, rfl⟩ rfl rfl ?_
    refine SL.slSh 24 ⟨rfl, rfl, rfl, rfl⟩ ty9 rfl rfl (by simp [hlen]; omega) (by simp [hlen]) ?_
    refine SL.call (vs := [_]) (Hin := []) ⟨rfl, rfl, rfl, rfl⟩ rfl ⟨rfl, trivial⟩ cal11 rfl rfl (c_seal_Get (b.take 24)) ?_
    rintro _ _ ⟨rfl, rfl⟩
    rw [hget]
    refine ⟨trivial, ?_⟩
    refine SL.mv ⟨rfl, rfl, rfl, rfl⟩ rfl ?_
    refine SL.ext ⟨rfl, rfl, rfl, rfl⟩ rfl rfl ?_
    refine SL.ext ⟨rfl, rfl, rfl, rfl⟩ rfl rfl ?_
    refine SL.alloc ⟨rfl, rfl, rfl, rfl⟩ ze25 (fun _ => trivial) fun b2 => ?_
    refine SL.st 0 ⟨rfl, rfl, rfl⟩ rfl rfl rfl sz25 rfl rfl rfl trivial ?_
    refine SL.asg ⟨rfl, rfl, rfl, rfl⟩ rfl ?_
    refine SL.nx ?_
    refine SX.sr ?_
    refine SL.mv ⟨rfl, rfl, rfl, rfl⟩ rfl ?_
    refine SL.mv ⟨rfl, rfl, rfl, rfl⟩ rfl ?_
    refine SL.mv ⟨rfl, rfl, rfl, rfl⟩ rfl ?_
    refine SL.lenS ⟨rfl, rfl, rfl, rfl⟩ ty9 rfl ?_
    refine SL.bin ⟨rfl, rfl, rfl, rfl⟩ rfl rfl (Bin.eqT (by simp [hlen])) ?_
    refine SL.pk ⟨rfl, rfl, rfl, rfl⟩ rfl rfl ?_
    refine SL.mv ⟨rfl, rfl, rfl, rfl⟩ rfl ?_
    refine SL.mv ⟨rfl, rfl, rfl, rfl⟩ rfl ?_
    refine SL.bin ⟨rfl, rfl, rfl, rfl⟩ rfl rfl (Bin.eqT rfl) ?_
    refine SL.pk ⟨rfl, rfl, rfl, rfl⟩ rfl rfl ?_
    refine SL.mv ⟨rfl, rfl, rfl, rfl⟩ rfl ?_
    refine SL.ldA (encHead h) ⟨rfl, rfl, rfl, rfl⟩ ag25 rfl rfl (cells_all 1 rfl) ?_
    refine SL.ldA (encHead h) ⟨rfl, rfl, rfl, rfl⟩ ag25 rfl rfl (cells_all 2 rfl) ?_
    refine SL.eqAgg (b := true) ⟨rfl, rfl, rfl, rfl⟩ fl25 rfl rfl (flat_head h) ?_
    refine SL.pk ⟨rfl, rfl, rfl, rfl⟩ rfl rfl ?_
    refine SL.mv ⟨rfl, rfl, rfl, rfl⟩ rfl ?_
    refine SL.mv ⟨rfl, rfl, rfl, rfl⟩ rfl ?_
    refine SL.mv ⟨rfl, rfl, rfl, rfl⟩ rfl ?_
    refine SL.bin ⟨rfl, rfl, rfl, rfl⟩ rfl rfl Bin.sameS ?_
    refine SL.pk ⟨rfl, rfl, rfl, rfl⟩ rfl rfl ?_
    refine SL.mv ⟨rfl, rfl, rfl, rfl⟩ rfl ?_
    refine SL.mv ⟨rfl, rfl, rfl, rfl⟩ rfl ?_
    refine SL.pk ⟨rfl, rfl, rfl, rfl⟩ rfl rfl ?_
    refine SL.mv ⟨rfl, rfl, rfl, rfl⟩ rfl ?_
    refine SL.ldA (encHead h) ⟨rfl, rfl, rfl, rfl⟩ ag25 rfl rfl (cells_all 0 rfl) ?_
    refine SL.ldA (encHead h) ⟨rfl, rfl, rfl, rfl⟩ ag25 rfl rfl (cells_all 2 rfl) ?_
    refine SL.eqAgg (b := true) ⟨rfl, rfl, rfl, rfl⟩ fl25 rfl rfl (flat_head h) ?_
    refine SL.pk ⟨rfl, rfl, rfl, rfl⟩ rfl rfl ?_
    refine SL.asg ⟨rfl, rfl, rfl, rfl⟩ rfl ?_
    refine SL.nx ?_
    refine SX.ret ?_
    exact SQ.fret (res1 rfl rfl) (ret_of (M := []) ⟨rfl, rfl⟩ fun _ h => h.skip [_, _, _])



end Go.Proofs.YtnpnmdbleopikaaDoor
