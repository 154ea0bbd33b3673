/- The walk of what a block is opened to. Condition: rings of at most 2^40 keys, texts of at most 2^39 bytes. -/
import Derived.Test.YtnpnmdbleopikaaDoorI0
import Derived.Test.YtnpnmdbleopikaaDoorA0
namespace Go.Proofs.YtnpnmdbleopikaaDoor
open Go
variable {K : Nat → Prop} {w0 : World} {H : List Chunk}

theorem take_drop_200 {bb : List UInt8} (h : bb.length = 256) : ((bb.drop 24).take (224 - 24)).length = 200 := by simp [h]
theorem c_seal_Open (T : List UInt32) (v : Value) (l : List KeyA) (bb : List UInt8) (hT : ShaT K w0 T) (hk : SlOf K w0 encKey 2 v l) (hv : v.cells = #[v]) (hl : l.length ≤ 1099511627776) (hn : bb.length ≤ 9223372036854775807) : Con Tryd.prog K w0 19 [v, vS bb] [] H (fun r M => r = .tuple #[.agg (encHead (openA T l bb).1).toArray, vS (openA T l bb).2.1, vI (openA T l bb).2.2] ∧ M = []) := by
  refine Con.enter Tryd.func19 rfl rfl ?_
  refine SX.sr ?_
  refine SL.alloc ⟨rfl, rfl, rfl, rfl⟩ ze25 (fun _ => trivial) fun b0 => ?_
  refine SL.asg ⟨rfl, rfl, rfl, rfl⟩ rfl ?_
  refine SL.asg ⟨rfl, rfl, rfl, rfl⟩ rfl ?_
  refine SL.nx ?_
  refine SX.sr ?_
  refine SL.bld [] ⟨rfl, rfl, rfl, rfl⟩ pl25 pk25 ze25 trivial rfl ?_
  refine SL.alloc ⟨rfl, rfl, rfl, rfl⟩ ze25 (fun _ => trivial) fun b1 => ?_
  refine SL.st 0 ⟨rfl, rfl, rfl⟩ rfl rfl rfl sz25 rfl rfl rfl trivial ?_
  refine SL.nx ?_
  refine SX.seq ?_
  refine SX.sr ?_
  refine SL.mv ⟨rfl, rfl, rfl, rfl⟩ rfl ?_
  refine SL.call (vs := [_]) (Hin := []) ⟨rfl, rfl, rfl, rfl⟩ rfl ⟨rfl, trivial⟩ cal38 rfl rfl (c_keys_Right v l hk hv hl) ?_
  rintro _ _ ⟨rfl, rfl⟩
  refine ⟨trivial, ?_⟩
  refine SL.not ⟨rfl, rfl, rfl, rfl⟩ rfl ?_
  refine SL.nx ?_
  refine SX.cond rfl (fun hc1 => ?_) (fun hc1 => ?_)
  · skip
    have hr : rightA l = false := by simpa using hc1
    have ho : openA T l bb = (head0, [], 40) := by unfold openA; rw [if_pos hr]
    rw [ho]
    refine SX.sr ?_
    refine SL.ldA (encHead head0) ⟨rfl, rfl, rfl, rfl⟩ ag25 rfl rfl (cells_all 0 rfl) ?_
    refine SL.st 1 ⟨rfl, rfl, rfl⟩ rfl rfl rfl sz25 rfl rfl rfl trivial ?_
    refine SL.asg ⟨rfl, rfl, rfl, rfl⟩ rfl ?_
    refine SL.asg ⟨rfl, rfl, rfl, rfl⟩ rfl ?_
    refine SL.nx ?_
    refine SX.ret ?_
    refine SQ.thnR ?_
    exact SQ.fret (resv3 rfl (resv.ag 1 (encHead head0) ag25 rfl rfl rfl rfl) rfl rfl) (ret_of (M := []) ⟨rfl, rfl⟩ fun _ h => h.skip [_, _])
  · skip
    have hr : ¬ rightA l = false := by simpa using hc1
    refine SX.skip ?_
    refine SQ.thn ?_
    refine SX.seq ?_
    refine SX.sr ?_
    refine SL.mv ⟨rfl, rfl, rfl, rfl⟩ rfl ?_
    refine SL.lenS ⟨rfl, rfl, rfl, rfl⟩ ty9 rfl ?_
    refine SL.bin ⟨rfl, rfl, rfl, rfl⟩ rfl rfl Bin.neI ?_
    refine SL.nx ?_
    refine SX.cond rfl (fun hc2 => ?_) (fun hc2 => ?_)
    · skip
      have hb : bb.length ≠ 256 := by simp at hc2; omega
      have ho : openA T l bb = (head0, [], 61) := by unfold openA; rw [if_neg hr, if_pos hb]
      rw [ho]
      refine SX.sr ?_
      refine SL.ldA (encHead head0) ⟨rfl, rfl, rfl, rfl⟩ ag25 rfl rfl (cells_all 0 rfl) ?_
      refine SL.st 1 ⟨rfl, rfl, rfl⟩ rfl rfl rfl sz25 rfl rfl rfl trivial ?_
      refine SL.asg ⟨rfl, rfl, rfl, rfl⟩ rfl ?_
      refine SL.asg ⟨rfl, rfl, rfl, rfl⟩ rfl ?_
      refine SL.nx ?_
      refine SX.ret ?_
      refine SQ.thnR ?_
      exact SQ.fret (resv3 rfl (resv.ag 1 (encHead head0) ag25 rfl rfl rfl rfl) rfl rfl) (ret_of (M := []) ⟨rfl, rfl⟩ fun _ h => h.skip [_, _])
    · skip
      have hb : bb.length = 256 := by simp at hc2; omega
      have hb' : ¬ bb.length ≠ 256 := fun h => h hb
      refine SX.skip ?_
      refine SQ.thn ?_
      refine SX.sr ?_
      refine SL.mv ⟨rfl, rfl, rfl, rfl⟩ rfl ?_
      refine SL.slSh 24 ⟨rfl, rfl, rfl, rfl⟩ ty9 rfl rfl (by omega) (by omega) ?_
      refine SL.call (vs := [_]) (Hin := []) ⟨rfl, rfl, rfl, rfl⟩ rfl ⟨rfl, trivial⟩ cal11 rfl rfl (c_seal_Get (bb.take 24)) ?_
      rintro _ _ ⟨rfl, rfl⟩
      refine ⟨trivial, ?_⟩
      generalize hg : getA (bb.take 24) = g
      refine SL.mv ⟨rfl, rfl, rfl, rfl⟩ rfl ?_
      refine SL.ext ⟨rfl, rfl, rfl, rfl⟩ rfl rfl ?_
      refine SL.ext ⟨rfl, rfl, rfl, rfl⟩ rfl rfl ?_
      refine SL.alloc ⟨rfl, rfl, rfl, rfl⟩ ze25 (fun _ => trivial) fun b2 => ?_
      refine SL.st 0 ⟨rfl, rfl, rfl⟩ rfl rfl rfl sz25 rfl rfl rfl trivial ?_
      refine SL.asg ⟨rfl, rfl, rfl, rfl⟩ rfl ?_
      refine SL.nx ?_
      refine SX.seq ?_
      refine SX.sr ?_
      refine SL.mv ⟨rfl, rfl, rfl, rfl⟩ rfl ?_
      refine SL.not ⟨rfl, rfl, rfl, rfl⟩ rfl ?_
      refine SL.nx ?_
      refine SX.cond rfl (fun hc3 => ?_) (fun hc3 => ?_)
      · skip
        have h3 : g.2 = false := by simpa using hc3
        have ho : openA T l bb = (head0, [], 61) := by unfold openA; rw [if_neg hr, if_neg hb', hg, if_pos h3]
        rw [ho]
        refine SX.sr ?_
        refine SL.ldA (encHead head0) ⟨rfl, rfl, rfl, rfl⟩ ag25 rfl rfl (cells_all 1 rfl) ?_
        refine SL.st 2 ⟨rfl, rfl, rfl⟩ rfl rfl rfl sz25 rfl rfl rfl trivial ?_
        refine SL.asg ⟨rfl, rfl, rfl, rfl⟩ rfl ?_
        refine SL.asg ⟨rfl, rfl, rfl, rfl⟩ rfl ?_
        refine SL.nx ?_
        refine SX.ret ?_
        refine SQ.thnR ?_
        exact SQ.fret (resv3 rfl (resv.ag 2 (encHead head0) ag25 rfl rfl rfl rfl) rfl rfl) (ret_of (M := []) ⟨rfl, rfl⟩ fun _ h => h.skip [_, _, _])
      · skip
        have h3 : ¬ g.2 = false := by simpa using hc3
        refine SX.skip ?_
        refine SQ.thn ?_
        refine SX.sr ?_
        refine SL.mv ⟨rfl, rfl, rfl, rfl⟩ rfl ?_
        refine SL.fa ⟨rfl, rfl, rfl, rfl⟩ rfl fo25_1 ?_
        refine SL.ld ⟨rfl, rfl, rfl, rfl⟩ sc22 rfl (cell_own 0 rfl rfl) ?_
        refine SL.call (vs := [_, _]) (Hin := []) ⟨rfl, rfl, rfl, rfl⟩ rfl ⟨rfl, rfl, trivial⟩ cal28 rfl rfl (c_keys_Find v l g.1.gen hk hv hl) ?_
        rintro _ _ ⟨rfl, rfl⟩
        refine ⟨trivial, ?_⟩
        generalize hf : findA l g.1.gen = f
        refine SL.mv ⟨rfl, rfl, rfl, rfl⟩ rfl ?_
        refine SL.ext ⟨rfl, rfl, rfl, rfl⟩ rfl rfl ?_
        refine SL.ext ⟨rfl, rfl, rfl, rfl⟩ rfl rfl ?_
        refine SL.alloc ⟨rfl, rfl, rfl, rfl⟩ ze44 (fun _ => trivial) fun b3 => ?_
        refine SL.st 0 ⟨rfl, rfl, rfl⟩ rfl rfl rfl sz44 rfl rfl rfl trivial ?_
        refine SL.asg ⟨rfl, rfl, rfl, rfl⟩ rfl ?_
        refine SL.nx ?_
        refine SX.seq ?_
        refine SX.sr ?_
        refine SL.mv ⟨rfl, rfl, rfl, rfl⟩ rfl ?_
        refine SL.bin ⟨rfl, rfl, rfl, rfl⟩ rfl rfl Bin.neI ?_
        refine SL.nx ?_
        refine SX.cond rfl (fun hc4 => ?_) (fun hc4 => ?_)
        · skip
          have h4 : f.2 ≠ 0 := by simpa using hc4
          have ho : openA T l bb = (head0, [], f.2) := by unfold openA; rw [if_neg hr, if_neg hb', hg, if_neg h3, hf, if_pos h4]
          rw [ho]
          refine SX.sr ?_
          refine SL.ldA (encHead head0) ⟨rfl, rfl, rfl, rfl⟩ ag25 rfl rfl (cells_all 2 rfl) ?_
          refine SL.mv ⟨rfl, rfl, rfl, rfl⟩ rfl ?_
          refine SL.st 3 ⟨rfl, rfl, rfl⟩ rfl rfl rfl sz25 rfl rfl rfl trivial ?_
          refine SL.asg ⟨rfl, rfl, rfl, rfl⟩ rfl ?_
          refine SL.asg ⟨rfl, rfl, rfl, rfl⟩ rfl ?_
          refine SL.nx ?_
          refine SX.ret ?_
          refine SQ.thnR ?_
          exact SQ.fret (resv3 rfl (resv.ag 3 (encHead head0) ag25 rfl rfl rfl rfl) rfl rfl) (ret_of (M := []) ⟨rfl, rfl⟩ fun _ h => h.skip [_, _, _, _])
        · skip
          have h4 : f.2 = 0 := by simpa using hc4
          have h4' : ¬ f.2 ≠ 0 := fun h => h h4
          have hok := find_ok (l := l) (g := g.1.gen) (by rw [hf]; exact h4)
          rw [hf] at hok
          have hsl1 := subA_length T f.1 sealW
          have hsl2 := subA_length T f.1 bindW
          refine SX.skip ?_
          refine SQ.thn ?_
          refine SX.sr ?_
          refine SL.ldA (encKey f.1) ⟨rfl, rfl, rfl, rfl⟩ ag44 rfl rfl (cells_all 0 rfl) ?_
          refine SL.call (vs := [_]) (Hin := []) ⟨rfl, rfl, rfl, rfl⟩ rfl ⟨rfl, trivial⟩ cal30 rfl rfl (c_subsR T f.1 hT hok.2.2.2) ?_
          rintro _ _ ⟨rfl, rfl⟩
          refine ⟨trivial, ?_⟩
          refine SL.mv ⟨rfl, rfl, rfl, rfl⟩ rfl ?_
          refine SL.ext ⟨rfl, rfl, rfl, rfl⟩ rfl rfl ?_
          refine SL.ext ⟨rfl, rfl, rfl, rfl⟩ rfl rfl ?_
          refine SL.ext ⟨rfl, rfl, rfl, rfl⟩ rfl rfl ?_
          refine SL.asg ⟨rfl, rfl, rfl, rfl⟩ rfl ?_
          refine SL.asg ⟨rfl, rfl, rfl, rfl⟩ rfl ?_
          refine SL.asg ⟨rfl, rfl, rfl, rfl⟩ rfl ?_
          refine SL.nx ?_
          refine SX.seq ?_
          refine SX.sr ?_
          refine SL.mv ⟨rfl, rfl, rfl, rfl⟩ rfl ?_
          refine SL.mv ⟨rfl, rfl, rfl, rfl⟩ rfl ?_
          refine SL.slSh 224 ⟨rfl, rfl, rfl, rfl⟩ ty9 rfl rfl (by omega) (by omega) ?_
          refine SL.bsl [_] ⟨rfl, rfl, rfl, rfl⟩ ty83 sz9 ze9 ⟨rfl, trivial⟩ rfl rfl rfl (by simp [Value.cells]) rfl rfl (fun _ => trivial) fun b4 => ?_
          refine SL.call (vs := [_, _]) (Hin := [_]) ⟨rfl, rfl, rfl, rfl⟩ rfl ⟨rfl, rfl, trivial⟩ cal32 rfl rfl (c_mac_Mac T (subA T f.1 bindW) [bb.take 224] b4 hT (by omega) (by simp; omega) (by simp)) ?_
          rintro _ _ ⟨rfl, rfl⟩
          refine ⟨trivial, ?_⟩
          refine SL.mv ⟨rfl, rfl, rfl, rfl⟩ rfl ?_
          refine SL.call (vs := [_]) (Hin := []) ⟨rfl, rfl, rfl, rfl⟩ rfl ⟨rfl, trivial⟩ cal15 rfl rfl (c_seal_Tag bb (by omega)) ?_
          rintro _ _ ⟨rfl, rfl⟩
          refine ⟨trivial, ?_⟩
          refine SL.call (vs := [_, _]) (Hin := []) ⟨rfl, rfl, rfl, rfl⟩ rfl ⟨rfl, rfl, trivial⟩ cal39 rfl rfl (c_mac_Equal _ _ (by rw [macA_length]; omega)) ?_
          rintro _ _ ⟨rfl, rfl⟩
          refine ⟨trivial, ?_⟩
          have e5 : macA T (subA T f.1 bindW) [bb.take 224].flatten = macA T (subA T f.1 bindW) (bb.take 224) := by simp
          rw [e5, show bb.length - 32 = 224 by omega]
          refine SL.not ⟨rfl, rfl, rfl, rfl⟩ rfl ?_
          refine SL.nx ?_
          refine SX.cond rfl (fun hc5 => ?_) (fun hc5 => ?_)
          · skip
            have h5 : macA T (subA T f.1 bindW) (bb.take 224) ≠ bb.drop 224 := by simpa using hc5
            have ho : openA T l bb = (head0, [], 61) := by unfold openA; rw [if_neg hr, if_neg hb', hg, if_neg h3, hf, if_neg h4', if_pos h5]
            rw [ho]
            refine SX.sr ?_
            refine SL.ldA (encHead head0) ⟨rfl, rfl, rfl, rfl⟩ ag25 rfl rfl (cells_all 2 rfl) ?_
            refine SL.st 3 ⟨rfl, rfl, rfl⟩ rfl rfl rfl sz25 rfl rfl rfl trivial ?_
            refine SL.asg ⟨rfl, rfl, rfl, rfl⟩ rfl ?_
            refine SL.asg ⟨rfl, rfl, rfl, rfl⟩ rfl ?_
            refine SL.nx ?_
            refine SX.ret ?_
            refine SQ.thnR ?_
            exact SQ.fret (resv3 rfl (resv.ag 3 (encHead head0) ag25 rfl rfl rfl rfl) rfl rfl) (ret_of (M := []) ⟨rfl, rfl⟩ fun _ h => h.skip [_, _, _, _])
          · skip
            have h5 : ¬ macA T (subA T f.1 bindW) (bb.take 224) ≠ bb.drop 224 := by simpa using hc5
            refine SX.skip ?_
            refine SQ.thn ?_
            refine SX.seq ?_
            refine SX.drawI mix [1] (Pl.of [(true, 0), (true, 1), (true, 3), (true, 4), (false, 2), (false, 5), (true, 6), (true, 7), (true, 8), (true, 9), (true, 10)]) (by kernel_rfl) ?_
            refine SL.mv ⟨rfl, rfl, rfl, rfl⟩ rfl ?_
            refine SL.ldA (encHead g.1) ⟨rfl, rfl, rfl, rfl⟩ ag25 rfl rfl (cells_all 0 rfl) ?_
            refine SL.mv ⟨rfl, rfl, rfl, rfl⟩ rfl ?_
            refine SL.slS 24 224 ⟨rfl, rfl, rfl, rfl⟩ ty9 rfl rfl rfl (by omega) (by omega) (by omega) (by omega) ?_
            refine SL.call (vs := [_]) (Hin := []) ⟨rfl, rfl, rfl, rfl⟩ rfl ⟨rfl, trivial⟩ cal26 rfl rfl (c_seal_nonce g.1) ?_
            rintro _ _ ⟨rfl, rfl⟩
            refine ⟨⟨⟨1, rfl⟩, trivial⟩, ?_⟩
            refine SL.call (vs := [_, _, _]) (Hin := []) ⟨rfl, rfl, rfl, rfl⟩ rfl ⟨rfl, rfl, rfl, trivial⟩ cal31 rfl rfl (c_arx_Xor (subA T f.1 sealW) (nonceA g.1) _ hsl1 (nonceA_length g.1) (by rw [take_drop_200 hb]; omega)) ?_
            rintro _ _ ⟨rfl, rfl⟩
            refine ⟨⟨⟨1, rfl⟩, trivial⟩, ?_⟩
            refine SL.mv ⟨rfl, rfl, rfl, rfl⟩ rfl ?_
            refine SL.ext ⟨rfl, rfl, rfl, rfl⟩ rfl rfl ?_
            refine SL.ext ⟨rfl, rfl, rfl, rfl⟩ rfl rfl ?_
            refine SL.asg ⟨rfl, rfl, rfl, rfl⟩ rfl ?_
            refine SL.asg ⟨rfl, rfl, rfl, rfl⟩ rfl ?_
            refine SL.nx ?_
            refine SX.sr ?_
            refine SL.mv ⟨rfl, rfl, rfl, rfl⟩ rfl ?_
            refine SL.call (vs := [_]) (Hin := []) ⟨rfl, rfl, rfl, rfl⟩ rfl ⟨rfl, trivial⟩ cal40 rfl rfl (c_pad_Unpad (xorA (subA T f.1 sealW) (nonceA g.1) ((bb.drop 24).take (224 - 24)))) ?_
            rintro _ _ ⟨rfl, rfl⟩
            refine ⟨trivial, ?_⟩
            generalize hu : unpadA (xorA (subA T f.1 sealW) (nonceA g.1) ((bb.drop 24).take (224 - 24))) = u
            have hul : u.1.length ≤ 200 := by
              rw [← hu]
              unfold unpadA
              split
              · simp
              · split
                · simp
                · split
                  · simp only [List.length_take, List.length_drop, xorA_length, take_drop_200 hb]; omega
                  · simp
            refine SL.mv ⟨rfl, rfl, rfl, rfl⟩ rfl ?_
            refine SL.ext ⟨rfl, rfl, rfl, rfl⟩ rfl rfl ?_
            refine SL.ext ⟨rfl, rfl, rfl, rfl⟩ rfl rfl ?_
            refine SL.asg ⟨rfl, rfl, rfl, rfl⟩ rfl ?_
            refine SL.asg ⟨rfl, rfl, rfl, rfl⟩ rfl ?_
            refine SL.nx ?_
            refine SX.seq ?_
            refine SX.sr ?_
            refine SL.mv ⟨rfl, rfl, rfl, rfl⟩ rfl ?_
            refine SL.ldA (encHead g.1) ⟨rfl, rfl, rfl, rfl⟩ ag25 rfl rfl (cells_all 1 rfl) ?_
            refine SL.mv ⟨rfl, rfl, rfl, rfl⟩ rfl ?_
            refine SL.call (vs := [_, _, _]) (Hin := []) ⟨rfl, rfl, rfl, rfl⟩ rfl ⟨rfl, rfl, rfl, trivial⟩ cal16 rfl rfl (c_seal_Seal T v l g.1 u.1 hT hk hv hl (by omega)) ?_
            rintro _ _ ⟨rfl, rfl⟩
            refine ⟨trivial, ?_⟩
            generalize hag : sealA T l g.1 u.1 = ag
            have ho : openA T l bb = if u.2 ≠ 0 ∨ ag.2 ≠ 0 ∨ ag.1 ≠ bb then (head0, [], 61) else (g.1, u.1, 0) := by
              unfold openA
              rw [if_neg hr, if_neg hb', hg, if_neg h3, hf, if_neg h4', if_neg h5]
              simp only
              rw [hf, show unpadA (xorA (subA T f.1 sealW) (nonceA g.1) ((bb.drop 24).take 200)) = u from hu, hag]
            refine SL.mv ⟨rfl, rfl, rfl, rfl⟩ rfl ?_
            refine SL.ext ⟨rfl, rfl, rfl, rfl⟩ rfl rfl ?_
            refine SL.ext ⟨rfl, rfl, rfl, rfl⟩ rfl rfl ?_
            refine SL.asg ⟨rfl, rfl, rfl, rfl⟩ rfl ?_
            refine SL.asg ⟨rfl, rfl, rfl, rfl⟩ rfl ?_
            refine SL.nx ?_
            refine SX.mono (l' := [(1, _), (4, _), (7, _), (8, _), (11, _), (17, _), (18, _), (19, _)]) ?_ ⟨rfl, rfl, rfl, rfl, rfl, rfl, rfl, rfl, trivial⟩
            refine SX.sr ?_
            refine SL.mv ⟨rfl, rfl, rfl, rfl⟩ rfl ?_
            refine SL.bin ⟨rfl, rfl, rfl, rfl⟩ rfl rfl Bin.neI ?_
            refine SL.mv ⟨rfl, rfl, rfl, rfl⟩ rfl ?_
            refine SL.or (c := (!decide (ag.2 = 0))) 88 3 91 rfl (fun hb k => ?_) (fun hb k => ?_) ?_
            · skip
              refine SL.pass rfl rfl rfl ?_
              refine SL.pass rfl rfl rfl ?_
              refine SL.pk ⟨rfl, rfl, rfl, rfl⟩ rfl rfl ?_
              exact k.mono (by repeat' (first | exact trivial | refine And.intro rfl ?_))
            · skip
              refine SL.mv ⟨rfl, rfl, rfl, rfl⟩ rfl ?_
              refine SL.bin ⟨rfl, rfl, rfl, rfl⟩ rfl rfl Bin.neI ?_
              refine SL.pk ⟨rfl, rfl, rfl, rfl⟩ rfl rfl ?_
              exact k.mono (by repeat' (first | exact trivial | refine And.intro rfl ?_))
            refine SL.mv ⟨rfl, rfl, rfl, rfl⟩ rfl ?_
            refine SL.or (c := (!decide (ag.1 = bb))) 92 4 96 rfl (fun hb k => ?_) (fun hb k => ?_) ?_
            · skip
              refine SL.pass rfl rfl rfl ?_
              refine SL.pass rfl rfl rfl ?_
              refine SL.pass rfl rfl rfl ?_
              refine SL.pk ⟨rfl, rfl, rfl, rfl⟩ rfl rfl ?_
              exact k.mono (by repeat' (first | exact trivial | refine And.intro rfl ?_))
            · skip
              refine SL.mv ⟨rfl, rfl, rfl, rfl⟩ rfl ?_
              refine SL.mv ⟨rfl, rfl, rfl, rfl⟩ rfl ?_
              refine SL.bin ⟨rfl, rfl, rfl, rfl⟩ rfl rfl Bin.neS ?_
              refine SL.pk ⟨rfl, rfl, rfl, rfl⟩ rfl rfl ?_
              exact k.mono (by repeat' (first | exact trivial | refine And.intro rfl ?_))
            refine SL.nx ?_
            refine SX.cond rfl (fun hc6 => ?_) (fun hc6 => ?_)
            · skip
              have h6 : u.2 ≠ 0 ∨ ag.2 ≠ 0 ∨ ag.1 ≠ bb := by simpa [or_assoc] using hc6
              rw [if_pos h6] at ho
              rw [ho]
              refine SX.sr ?_
              refine SL.ldA (encHead head0) ⟨rfl, rfl, rfl, rfl⟩ ag25 rfl rfl (cells_all 2 rfl) ?_
              refine SL.st 3 ⟨rfl, rfl, rfl⟩ rfl rfl rfl sz25 rfl rfl rfl trivial ?_
              refine SL.asg ⟨rfl, rfl, rfl, rfl⟩ rfl ?_
              refine SL.asg ⟨rfl, rfl, rfl, rfl⟩ rfl ?_
              refine SL.nx ?_
              refine SX.ret ?_
              refine SQ.thnR ?_
              exact SQ.fret (resv3 rfl (resv.ag 3 (encHead head0) ag25 rfl rfl rfl rfl) rfl rfl) (ret_of (M := []) ⟨rfl, rfl⟩ fun _ h => h.skip [_, _, _, _])
            · skip
              have h6 : ¬ (u.2 ≠ 0 ∨ ag.2 ≠ 0 ∨ ag.1 ≠ bb) := by
                simp at hc6
                simp [hc6]
              rw [if_neg h6] at ho
              rw [ho]
              refine SX.skip ?_
              refine SQ.thn ?_
              refine SX.sr ?_
              refine SL.ldA (encHead g.1) ⟨rfl, rfl, rfl, rfl⟩ ag25 rfl rfl (cells_all 1 rfl) ?_
              refine SL.mv ⟨rfl, rfl, rfl, rfl⟩ rfl ?_
              refine SL.st 3 ⟨rfl, rfl, rfl⟩ rfl rfl rfl sz25 rfl rfl rfl trivial ?_
              refine SL.asg ⟨rfl, rfl, rfl, rfl⟩ rfl ?_
              refine SL.asg ⟨rfl, rfl, rfl, rfl⟩ rfl ?_
              refine SL.nx ?_
              refine SX.ret ?_
              exact SQ.fret (resv3 rfl (resv.ag 3 (encHead g.1) ag25 rfl rfl rfl rfl) rfl rfl) (ret_of (M := []) ⟨rfl, rfl⟩ fun _ h => h.skip [_, _, _, _])

end Go.Proofs.YtnpnmdbleopikaaDoor

