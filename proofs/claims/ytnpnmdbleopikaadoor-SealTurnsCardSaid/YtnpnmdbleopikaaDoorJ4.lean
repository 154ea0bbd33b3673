/- Walk of SealTurns. Condition: the tables of the sum stand. -/
import Derived.Test.YtnpnmdbleopikaaDoorJ3
namespace Go.Proofs.YtnpnmdbleopikaaDoor
open Go
variable {K : Nat → Prop} {w0 : World} {H : List Chunk}

theorem seal_len {T : List UInt32} {l : List KeyA} {h : HeadA} {s : List UInt8} (e : (sealA T l h s).2 = 0) : (sealA T l h s).1.length = 256 := (seal_back e).2.1
theorem c_law06_SealTurns (T : List UInt32) (v : Value) (l : List KeyA) (h : HeadA) (s : List UInt8) (i : Int) (c : UInt8) (hT : ShaT K w0 T) (hk : SlOf K w0 encKey 2 v l) (hl : l.length ≤ 9223372036854775807) (hs : s.length ≤ 9223372036854775807) : Con Tryd.prog K w0 8 [v, .agg (encHead h).toArray, vS s, vI i, vU8 c] [] H (fun v M => v = vB true ∧ M = []) := by
  have hll : (l.take (min l.length 30)).length ≤ 30 := by simp; omega
  have hok := seal_len (T := T) (l := l.take (min l.length 30)) (h := h) (s := s)
  have hturn := fun n => open_turned (T := T) (l := l.take (min l.length 30)) (h := h) (s := s) (i := n) (c := c)
  generalize ho : sealA T (l.take (min l.length 30)) h s = o at hok hturn
  obtain ⟨b, e⟩ := o
  simp only at hok hturn
  obtain ⟨n, hn⟩ : ∃ n : Nat, n = i.toNat := ⟨_, rfl⟩
  refine Con.enter Tryd.func8 rfl rfl ?_
  refine SX.sr ?_
  refine SL.box ⟨rfl, rfl, rfl, rfl⟩ rfl (fun _ => trivial) fun b0 => ?_
  refine SL.asg ⟨rfl, rfl, rfl, rfl⟩ rfl ?_
  refine SL.nx ?_
  refine SX.sr ?_
  refine SL.call (vs := []) (Hin := []) ⟨rfl, rfl, rfl, rfl⟩ rfl trivial cal10 rfl rfl (c_law06_shown T hT) ?_
  rintro _ _ ⟨rfl, rfl⟩
  refine ⟨trivial, ?_⟩
  refine SL.asg ⟨rfl, rfl, rfl, rfl⟩ rfl ?_
  refine SL.nx ?_
  refine SX.seq ?_
  refine SX.drawI mix [0] (Pl.of [(true, 0), (true, 2), (true, 3), (false, 1), (false, 4), (true, 5), (true, 6), (true, 7), (true, 8), (true, 9)]) (by kernel_rfl) ?_
  refine SL.mv ⟨rfl, rfl, rfl, rfl⟩ rfl ?_
  refine SL.ldA (encHead h) ⟨rfl, rfl, rfl, rfl⟩ ag25 rfl rfl (cells_all 0 rfl) ?_
  refine SL.mv ⟨rfl, rfl, rfl, rfl⟩ rfl ?_
  refine SL.call (vs := [_]) (Hin := []) ⟨rfl, rfl, rfl, rfl⟩ rfl ⟨rfl, trivial⟩ cal17 rfl rfl (c_law06_cut v l hk hl) ?_
  rintro _ _ ⟨⟨v1, rfl, hv1⟩, rfl⟩
  refine ⟨⟨⟨0, rfl⟩, trivial⟩, ?_⟩
  refine SL.call (vs := [_, _, _]) (Hin := []) ⟨rfl, rfl, rfl, rfl⟩ rfl ⟨rfl, rfl, rfl, trivial⟩ cal16 rfl rfl (c_seal_Seal T _ _ h s hT hv1 hv1.cells1 (by omega) hs) ?_
  rintro _ _ ⟨rfl, rfl⟩
  rw [ho]
  refine ⟨⟨⟨0, rfl⟩, trivial⟩, ?_⟩
  refine SL.mv ⟨rfl, rfl, rfl, rfl⟩ rfl ?_
  refine SL.ext ⟨rfl, rfl, rfl, rfl⟩ rfl rfl ?_
  refine SL.ext ⟨rfl, rfl, rfl, rfl⟩ rfl rfl ?_
  refine SL.asg ⟨rfl, rfl, rfl, rfl⟩ rfl ?_
  refine SL.asg ⟨rfl, rfl, rfl, rfl⟩ rfl ?_
  refine SL.nx ?_
  refine SX.seq ?_
  refine SX.sr ?_
  refine SL.mv ⟨rfl, rfl, rfl, rfl⟩ rfl ?_
  refine SL.bin ⟨rfl, rfl, rfl, rfl⟩ rfl rfl Bin.neI ?_
  refine SL.mv ⟨rfl, rfl, rfl, rfl⟩ rfl ?_
  refine SL.or (c := decide (i < 224)) 28 3 31 rfl (fun hb k => ?_) (fun hb k => ?_) ?_
  · skip
    refine SL.pass rfl rfl rfl ?_
    refine SL.pass rfl rfl rfl ?_
    refine SL.pk ⟨rfl, rfl, rfl, rfl⟩ rfl rfl ?_
    exact k.mono (by repeat' (first | exact trivial | refine And.intro rfl ?_))
  · skip
    refine SL.mv ⟨rfl, rfl, rfl, rfl⟩ rfl ?_
    refine SL.bin ⟨rfl, rfl, rfl, rfl⟩ rfl rfl Bin.ltI ?_
    refine SL.pk ⟨rfl, rfl, rfl, rfl⟩ rfl rfl ?_
    exact k.mono (by repeat' (first | exact trivial | refine And.intro rfl ?_))
  refine SL.mv ⟨rfl, rfl, rfl, rfl⟩ rfl ?_
  refine SL.or (c := decide ((b.length : Int) ≤ i)) 32 5 37 rfl (fun hb k => ?_) (fun hb k => ?_) ?_
  · skip
    refine SL.pass rfl rfl rfl ?_
    refine SL.pass rfl rfl rfl ?_
    refine SL.pass rfl rfl rfl ?_
    refine SL.pass rfl rfl rfl ?_
    refine SL.pk ⟨rfl, rfl, rfl, rfl⟩ rfl rfl ?_
    exact k.mono (by repeat' (first | exact trivial | refine And.intro rfl ?_))
  · skip
    refine SL.mv ⟨rfl, rfl, rfl, rfl⟩ rfl ?_
    refine SL.mv ⟨rfl, rfl, rfl, rfl⟩ rfl ?_
    refine SL.lenS ⟨rfl, rfl, rfl, rfl⟩ ty9 rfl ?_
    refine SL.bin ⟨rfl, rfl, rfl, rfl⟩ rfl rfl Bin.geI ?_
    refine SL.pk ⟨rfl, rfl, rfl, rfl⟩ rfl rfl ?_
    exact k.mono (by repeat' (first | exact trivial | refine And.intro rfl ?_))
  refine SL.mv ⟨rfl, rfl, rfl, rfl⟩ rfl ?_
  refine SL.or (c := decide (b.getD n 0 = c)) 38 6 44 rfl (fun hb k => ?_) (fun hb k => ?_) ?_
  · skip
    refine SL.pass rfl rfl rfl ?_
    refine SL.pass rfl rfl rfl ?_
    refine SL.pass rfl rfl rfl ?_
    refine SL.pass rfl rfl rfl ?_
    refine SL.pass rfl rfl rfl ?_
    refine SL.pk ⟨rfl, rfl, rfl, rfl⟩ rfl rfl ?_
    exact k.mono (by repeat' (first | exact trivial | refine And.intro rfl ?_))
  · skip
    have hbb : e = 0 ∧ 224 ≤ i ∧ i < b.length := by
      simp at hb
      omega
    refine SL.mv ⟨rfl, rfl, rfl, rfl⟩ rfl ?_
    refine SL.mv ⟨rfl, rfl, rfl, rfl⟩ rfl ?_
    refine SL.ixS n ⟨rfl, rfl, rfl, rfl⟩ ty9 rfl rfl (by omega) (show n < b.length by omega) ?_
    refine SL.mv ⟨rfl, rfl, rfl, rfl⟩ rfl ?_
    refine SL.bin ⟨rfl, rfl, rfl, rfl⟩ rfl rfl Bin.eq8 ?_
    refine SL.pk ⟨rfl, rfl, rfl, rfl⟩ rfl rfl ?_
    exact k.mono (by repeat' (first | exact trivial | refine And.intro rfl ?_))
  refine SL.nx ?_
  refine SX.cond rfl (fun hc1 => ?_) (fun hc1 => ?_)
  · skip
    refine SX.sr ?_
    refine SL.mv ⟨rfl, rfl, rfl, rfl⟩ rfl ?_
    refine SL.asg ⟨rfl, rfl, rfl, rfl⟩ rfl ?_
    refine SL.nx ?_
    refine SX.ret ?_
    refine SQ.thnR ?_
    exact SQ.fret (res1 rfl rfl) (ret_of (M := []) ⟨rfl, rfl⟩ fun _ h => h.skip [_])
  · skip
    have hcc : e = 0 ∧ 224 ≤ i ∧ i < b.length ∧ b.getD n 0 ≠ c := by
      simp [List.getD_eq_getElem?_getD] at hc1 ⊢
      exact ⟨hc1.1.1.1, by omega, by omega, hc1.2⟩
    obtain ⟨e0, hi1, hi2, hbc⟩ := hcc
    have hlen := hok e0
    have hop := hturn n e0 (by omega) (by omega) hbc
    refine SX.skip ?_
    refine SQ.thn ?_
    refine SX.seq ?_
    refine SX.drawI mix [] (Pl.ap [(true, 0), (true, 2), (true, 3), (true, 4), (true, 5), (true, 9), (true, 10), (true, 11), (true, 12)] (.alt 1 (.alt 6 (.alt 7 (Pl.ap [(true, 8), (true, 13)] (.alt 14 (Pl.of [(true, 15), (true, 16), (true, 17), (true, 18), (false, 19), (false, 20), (true, 21), (true, 22)]) (.cons (false, 19) (Pl.of [(false, 14), (true, 15), (true, 16), (true, 17), (true, 18), (false, 20), (true, 21), (true, 22)])))) (.cons (false, 19) (Pl.of [(false, 7), (true, 8), (true, 13), (false, 14), (true, 15), (true, 16), (true, 17), (true, 18), (false, 20), (true, 21), (true, 22)]))) (.cons (false, 19) (Pl.of [(false, 6), (false, 7), (true, 8), (true, 13), (false, 14), (true, 15), (true, 16), (true, 17), (true, 18), (false, 20), (true, 21), (true, 22)]))) (.alt 6 (.alt 1 (.alt 7 (Pl.ap [(true, 8), (true, 13)] (.alt 14 (Pl.of [(true, 15), (true, 16), (true, 17), (true, 18), (false, 19), (false, 20), (true, 21), (true, 22)]) (.cons (false, 19) (Pl.of [(false, 14), (true, 15), (true, 16), (true, 17), (true, 18), (false, 20), (true, 21), (true, 22)])))) (.cons (false, 19) (Pl.of [(false, 7), (true, 8), (true, 13), (false, 14), (true, 15), (true, 16), (true, 17), (true, 18), (false, 20), (true, 21), (true, 22)]))) (.alt 7 (Pl.ap [(true, 8), (true, 13)] (.alt 1 (.alt 14 (Pl.of [(true, 15), (true, 16), (true, 17), (true, 18), (false, 19), (false, 20), (true, 21), (true, 22)]) (.cons (false, 19) (Pl.of [(false, 14), (true, 15), (true, 16), (true, 17), (true, 18), (false, 20), (true, 21), (true, 22)]))) (.cons (false, 19) (Pl.of [(false, 1), (false, 14), (true, 15), (true, 16), (true, 17), (true, 18), (false, 20), (true, 21), (true, 22)])))) (.cons (false, 19) (.alt 1 (Pl.of [(false, 7), (true, 8), (true, 13), (false, 14), (true, 15), (true, 16), (true, 17), (true, 18), (false, 20), (true, 21), (true, 22)]) (.cons (false, 7) (Pl.of [(true, 8), (true, 13), (false, 1), (false, 14), (true, 15), (true, 16), (true, 17), (true, 18), (false, 20), (true, 21), (true, 22)])))))) (.cons (false, 19) (.alt 1 (Pl.of [(false, 6), (false, 7), (true, 8), (true, 13), (false, 14), (true, 15), (true, 16), (true, 17), (true, 18), (false, 20), (true, 21), (true, 22)]) (.cons (false, 6) (.alt 1 (Pl.of [(false, 7), (true, 8), (true, 13), (false, 14), (true, 15), (true, 16), (true, 17), (true, 18), (false, 20), (true, 21), (true, 22)]) (.cons (false, 7) (Pl.of [(true, 8), (true, 13), (false, 1), (false, 14), (true, 15), (true, 16), (true, 17), (true, 18), (false, 20), (true, 21), (true, 22)]))))))))) (by kernel_rfl) ?_
    refine SL.mv ⟨rfl, rfl, rfl, rfl⟩ rfl ?_
    refine SL.mv ⟨rfl, rfl, rfl, rfl⟩ rfl ?_
    refine SL.mv ⟨rfl, rfl, rfl, rfl⟩ rfl ?_
    refine SL.slSh n ⟨rfl, rfl, rfl, rfl⟩ ty9 rfl rfl (by omega) (show n ≤ b.length by omega) ?_
    refine SL.mv ⟨rfl, rfl, rfl, rfl⟩ rfl ?_
    refine SL.mv ⟨rfl, rfl, rfl, rfl⟩ rfl ?_
    refine SL.mv ⟨rfl, rfl, rfl, rfl⟩ rfl ?_
    refine SL.bin ⟨rfl, rfl, rfl, rfl⟩ rfl rfl (Bin.addI (by omega) (by omega)) ?_
    refine SL.slSl (n + 1) ⟨rfl, rfl, rfl, rfl⟩ ty9 rfl rfl (by omega) (show n + 1 ≤ b.length by omega) ?_
    refine SL.two ?_ ?_
    · skip
      refine SL.call (vs := [_]) (Hin := []) ⟨rfl, rfl, rfl, rfl⟩ rfl ⟨rfl, trivial⟩ cal17 rfl rfl (c_law06_cut v l hk hl) ?_
      rintro _ _ ⟨⟨v2, rfl, hv2⟩, rfl⟩
      refine ⟨trivial, ?_⟩
      refine SL.two ?_ ?_
      · skip
        refine SL.bsl [_] ⟨rfl, rfl, rfl, rfl⟩ ty41 sz5 ze5 ⟨rfl, trivial⟩ rfl rfl rfl (by simp [Value.cells]) rfl rfl (fun _ => trivial) fun b1 => ?_
        refine SL.two ?_ ?_
        · skip
          refine SL.bts [_] ⟨rfl, rfl, rfl, rfl⟩ ty41 ty5 ty9 rfl rfl (cells_all 0 rfl) ?_
          refine SL.bin ⟨rfl, rfl, rfl, rfl⟩ rfl rfl (Bin.cat (by simp; omega)) ?_
          refine SL.bin ⟨rfl, rfl, rfl, rfl⟩ rfl rfl (Bin.cat (by simp; omega)) ?_
          refine SL.two ?_ ?_
          · skip
            refine SL.call (vs := [_, _]) (Hin := []) ⟨rfl, rfl, rfl, rfl⟩ rfl ⟨rfl, rfl, trivial⟩ cal19 rfl rfl (c_seal_Open T _ _ (b.take n ++ [c] ++ b.drop (n + 1)) hT hv2 hv2.cells1 (by omega) (by simp; omega)) ?_
            rintro _ _ ⟨rfl, rfl⟩
            rw [hop]
            refine ⟨trivial, ?_⟩
            refine SL.mv ⟨rfl, rfl, rfl, rfl⟩ rfl ?_
            refine SL.ext ⟨rfl, rfl, rfl, rfl⟩ rfl rfl ?_
            refine SL.ext ⟨rfl, rfl, rfl, rfl⟩ rfl rfl ?_
            refine SL.ext ⟨rfl, rfl, rfl, rfl⟩ rfl rfl ?_
            refine SL.alloc ⟨rfl, rfl, rfl, rfl⟩ ze25 (fun _ => trivial) fun b2 => ?_
            refine SL.st 0 ⟨rfl, rfl, rfl⟩ rfl rfl rfl sz25 rfl rfl rfl trivial ?_
            refine SL.asg ⟨rfl, rfl, rfl, rfl⟩ rfl ?_
            refine SL.asg ⟨rfl, rfl, rfl, rfl⟩ rfl ?_
            refine SL.nx ?_
            refine SX.sr ?_
            refine SL.mv ⟨rfl, rfl, rfl, rfl⟩ rfl ?_
            refine SL.mv ⟨rfl, rfl, rfl, rfl⟩ rfl ?_
            refine SL.mv ⟨rfl, rfl, rfl, rfl⟩ rfl ?_
            refine SL.bin ⟨rfl, rfl, rfl, rfl⟩ rfl rfl (Bin.eqT rfl) ?_
            refine SL.pk ⟨rfl, rfl, rfl, rfl⟩ rfl rfl ?_
            refine SL.mv ⟨rfl, rfl, rfl, rfl⟩ rfl ?_
            refine SL.mv ⟨rfl, rfl, rfl, rfl⟩ rfl ?_
            refine SL.bin ⟨rfl, rfl, rfl, rfl⟩ rfl rfl Bin.sameS ?_
            refine SL.pk ⟨rfl, rfl, rfl, rfl⟩ rfl rfl ?_
            refine SL.mv ⟨rfl, rfl, rfl, rfl⟩ rfl ?_
            refine SL.ldA (encHead head0) ⟨rfl, rfl, rfl, rfl⟩ ag25 rfl rfl (cells_all 0 rfl) ?_
            refine SL.bld [] ⟨rfl, rfl, rfl, rfl⟩ pl25 pk25 ze25 trivial rfl ?_
            refine SL.eqAgg (b := true) ⟨rfl, rfl, rfl, rfl⟩ fl25 rfl rfl rfl ?_
            refine SL.pk ⟨rfl, rfl, rfl, rfl⟩ rfl rfl ?_
            refine SL.asg ⟨rfl, rfl, rfl, rfl⟩ rfl ?_
            refine SL.nx ?_
            refine SX.ret ?_
            exact SQ.fret (res1 rfl rfl) (ret_of (M := []) ⟨rfl, rfl⟩ fun _ h => h.skip [_, _, _])
          · skip
            refine SL.alloc ⟨rfl, rfl, rfl, rfl⟩ ze25 (fun _ => trivial) fun b2 => ?_
            refine SL.call (vs := [_, _]) (Hin := []) ⟨rfl, rfl, rfl, rfl⟩ rfl ⟨rfl, rfl, trivial⟩ cal19 rfl rfl (c_seal_Open T _ _ (b.take n ++ [c] ++ b.drop (n + 1)) hT hv2 hv2.cells1 (by omega) (by simp; omega)) ?_
            rintro _ _ ⟨rfl, rfl⟩
            rw [hop]
            refine ⟨trivial, ?_⟩
            refine SL.mv ⟨rfl, rfl, rfl, rfl⟩ rfl ?_
            refine SL.ext ⟨rfl, rfl, rfl, rfl⟩ rfl rfl ?_
            refine SL.ext ⟨rfl, rfl, rfl, rfl⟩ rfl rfl ?_
            refine SL.ext ⟨rfl, rfl, rfl, rfl⟩ rfl rfl ?_
            refine SL.st 0 ⟨rfl, rfl, rfl⟩ rfl rfl rfl sz25 rfl rfl rfl trivial ?_
            refine SL.asg ⟨rfl, rfl, rfl, rfl⟩ rfl ?_
            refine SL.asg ⟨rfl, rfl, rfl, rfl⟩ rfl ?_
            refine SL.nx ?_
            refine SX.sr ?_
            refine SL.mv ⟨rfl, rfl, rfl, rfl⟩ rfl ?_
            refine SL.mv ⟨rfl, rfl, rfl, rfl⟩ rfl ?_
            refine SL.mv ⟨rfl, rfl, rfl, rfl⟩ rfl ?_
            refine SL.bin ⟨rfl, rfl, rfl, rfl⟩ rfl rfl (Bin.eqT rfl) ?_
            refine SL.pk ⟨rfl, rfl, rfl, rfl⟩ rfl rfl ?_
            refine SL.mv ⟨rfl, rfl, rfl, rfl⟩ rfl ?_
            refine SL.mv ⟨rfl, rfl, rfl, rfl⟩ rfl ?_
            refine SL.bin ⟨rfl, rfl, rfl, rfl⟩ rfl rfl Bin.sameS ?_
            refine SL.pk ⟨rfl, rfl, rfl, rfl⟩ rfl rfl ?_
            refine SL.mv ⟨rfl, rfl, rfl, rfl⟩ rfl ?_
            refine SL.ldA (encHead head0) ⟨rfl, rfl, rfl, rfl⟩ ag25 rfl rfl (cells_all 0 rfl) ?_
            refine SL.bld [] ⟨rfl, rfl, rfl, rfl⟩ pl25 pk25 ze25 trivial rfl ?_
            refine SL.eqAgg (b := true) ⟨rfl, rfl, rfl, rfl⟩ fl25 rfl rfl rfl ?_
            refine SL.pk ⟨rfl, rfl, rfl, rfl⟩ rfl rfl ?_
            refine SL.asg ⟨rfl, rfl, rfl, rfl⟩ rfl ?_
            refine SL.nx ?_
            refine SX.ret ?_
            exact SQ.fret (res1 rfl rfl) (ret_of (M := []) ⟨rfl, rfl⟩ fun _ h => h.skip [_, _, _])
        · skip
          refine SL.alloc ⟨rfl, rfl, rfl, rfl⟩ ze25 (fun _ => trivial) fun b2 => ?_
          refine SL.bts [_] ⟨rfl, rfl, rfl, rfl⟩ ty41 ty5 ty9 rfl rfl (cells_all 1 rfl) ?_
          refine SL.bin ⟨rfl, rfl, rfl, rfl⟩ rfl rfl (Bin.cat (by simp; omega)) ?_
          refine SL.bin ⟨rfl, rfl, rfl, rfl⟩ rfl rfl (Bin.cat (by simp; omega)) ?_
          refine SL.call (vs := [_, _]) (Hin := []) ⟨rfl, rfl, rfl, rfl⟩ rfl ⟨rfl, rfl, trivial⟩ cal19 rfl rfl (c_seal_Open T _ _ (b.take n ++ [c] ++ b.drop (n + 1)) hT hv2 hv2.cells1 (by omega) (by simp; omega)) ?_
          rintro _ _ ⟨rfl, rfl⟩
          rw [hop]
          refine ⟨trivial, ?_⟩
          refine SL.mv ⟨rfl, rfl, rfl, rfl⟩ rfl ?_
          refine SL.ext ⟨rfl, rfl, rfl, rfl⟩ rfl rfl ?_
          refine SL.ext ⟨rfl, rfl, rfl, rfl⟩ rfl rfl ?_
          refine SL.ext ⟨rfl, rfl, rfl, rfl⟩ rfl rfl ?_
          refine SL.st 0 ⟨rfl, rfl, rfl⟩ rfl rfl rfl sz25 rfl rfl rfl trivial ?_
          refine SL.asg ⟨rfl, rfl, rfl, rfl⟩ rfl ?_
          refine SL.asg ⟨rfl, rfl, rfl, rfl⟩ rfl ?_
          refine SL.nx ?_
          refine SX.sr ?_
          refine SL.mv ⟨rfl, rfl, rfl, rfl⟩ rfl ?_
          refine SL.mv ⟨rfl, rfl, rfl, rfl⟩ rfl ?_
          refine SL.mv ⟨rfl, rfl, rfl, rfl⟩ rfl ?_
          refine SL.bin ⟨rfl, rfl, rfl, rfl⟩ rfl rfl (Bin.eqT rfl) ?_
          refine SL.pk ⟨rfl, rfl, rfl, rfl⟩ rfl rfl ?_
          refine SL.mv ⟨rfl, rfl, rfl, rfl⟩ rfl ?_
          refine SL.mv ⟨rfl, rfl, rfl, rfl⟩ rfl ?_
          refine SL.bin ⟨rfl, rfl, rfl, rfl⟩ rfl rfl Bin.sameS ?_
          refine SL.pk ⟨rfl, rfl, rfl, rfl⟩ rfl rfl ?_
          refine SL.mv ⟨rfl, rfl, rfl, rfl⟩ rfl ?_
          refine SL.ldA (encHead head0) ⟨rfl, rfl, rfl, rfl⟩ ag25 rfl rfl (cells_all 0 rfl) ?_
          refine SL.bld [] ⟨rfl, rfl, rfl, rfl⟩ pl25 pk25 ze25 trivial rfl ?_
          refine SL.eqAgg (b := true) ⟨rfl, rfl, rfl, rfl⟩ fl25 rfl rfl rfl ?_
          refine SL.pk ⟨rfl, rfl, rfl, rfl⟩ rfl rfl ?_
          refine SL.asg ⟨rfl, rfl, rfl, rfl⟩ rfl ?_
          refine SL.nx ?_
          refine SX.ret ?_
          exact SQ.fret (res1 rfl rfl) (ret_of (M := []) ⟨rfl, rfl⟩ fun _ h => h.skip [_, _, _])
      · skip
        refine SL.alloc ⟨rfl, rfl, rfl, rfl⟩ ze25 (fun _ => trivial) fun b1 => ?_
        refine SL.bsl [_] ⟨rfl, rfl, rfl, rfl⟩ ty41 sz5 ze5 ⟨rfl, trivial⟩ rfl rfl rfl (by simp [Value.cells]) rfl rfl (fun _ => trivial) fun b2 => ?_
        refine SL.bts [_] ⟨rfl, rfl, rfl, rfl⟩ ty41 ty5 ty9 rfl rfl (cells_all 0 rfl) ?_
        refine SL.bin ⟨rfl, rfl, rfl, rfl⟩ rfl rfl (Bin.cat (by simp; omega)) ?_
        refine SL.bin ⟨rfl, rfl, rfl, rfl⟩ rfl rfl (Bin.cat (by simp; omega)) ?_
        refine SL.call (vs := [_, _]) (Hin := []) ⟨rfl, rfl, rfl, rfl⟩ rfl ⟨rfl, rfl, trivial⟩ cal19 rfl rfl (c_seal_Open T _ _ (b.take n ++ [c] ++ b.drop (n + 1)) hT hv2 hv2.cells1 (by omega) (by simp; omega)) ?_
        rintro _ _ ⟨rfl, rfl⟩
        rw [hop]
        refine ⟨trivial, ?_⟩
        refine SL.mv ⟨rfl, rfl, rfl, rfl⟩ rfl ?_
        refine SL.ext ⟨rfl, rfl, rfl, rfl⟩ rfl rfl ?_
        refine SL.ext ⟨rfl, rfl, rfl, rfl⟩ rfl rfl ?_
        refine SL.ext ⟨rfl, rfl, rfl, rfl⟩ rfl rfl ?_
        refine SL.st 1 ⟨rfl, rfl, rfl⟩ rfl rfl rfl sz25 rfl rfl rfl trivial ?_
        refine SL.asg ⟨rfl, rfl, rfl, rfl⟩ rfl ?_
        refine SL.asg ⟨rfl, rfl, rfl, rfl⟩ rfl ?_
        refine SL.nx ?_
        refine SX.sr ?_
        refine SL.mv ⟨rfl, rfl, rfl, rfl⟩ rfl ?_
        refine SL.mv ⟨rfl, rfl, rfl, rfl⟩ rfl ?_
        refine SL.mv ⟨rfl, rfl, rfl, rfl⟩ rfl ?_
        refine SL.bin ⟨rfl, rfl, rfl, rfl⟩ rfl rfl (Bin.eqT rfl) ?_
        refine SL.pk ⟨rfl, rfl, rfl, rfl⟩ rfl rfl ?_
        refine SL.mv ⟨rfl, rfl, rfl, rfl⟩ rfl ?_
        refine SL.mv ⟨rfl, rfl, rfl, rfl⟩ rfl ?_
        refine SL.bin ⟨rfl, rfl, rfl, rfl⟩ rfl rfl Bin.sameS ?_
        refine SL.pk ⟨rfl, rfl, rfl, rfl⟩ rfl rfl ?_
        refine SL.mv ⟨rfl, rfl, rfl, rfl⟩ rfl ?_
        refine SL.ldA (encHead head0) ⟨rfl, rfl, rfl, rfl⟩ ag25 rfl rfl (cells_all 1 rfl) ?_
        refine SL.bld [] ⟨rfl, rfl, rfl, rfl⟩ pl25 pk25 ze25 trivial rfl ?_
        refine SL.eqAgg (b := true) ⟨rfl, rfl, rfl, rfl⟩ fl25 rfl rfl rfl ?_
        refine SL.pk ⟨rfl, rfl, rfl, rfl⟩ rfl rfl ?_
        refine SL.asg ⟨rfl, rfl, rfl, rfl⟩ rfl ?_
        refine SL.nx ?_
        refine SX.ret ?_
        exact SQ.fret (res1 rfl rfl) (ret_of (M := []) ⟨rfl, rfl⟩ fun _ h => h.skip [_, _, _])
    · skip
      refine SL.two ?_ ?_
      · skip
        refine SL.bsl [_] ⟨rfl, rfl, rfl, rfl⟩ ty41 sz5 ze5 ⟨rfl, trivial⟩ rfl rfl rfl (by simp [Value.cells]) rfl rfl (fun _ => trivial) fun b1 => ?_
        refine SL.two ?_ ?_
        · skip
          refine SL.call (vs := [_]) (Hin := []) ⟨rfl, rfl, rfl, rfl⟩ rfl ⟨rfl, trivial⟩ cal17 rfl rfl (c_law06_cut v l hk hl) ?_
          rintro _ _ ⟨⟨v2, rfl, hv2⟩, rfl⟩
          refine ⟨trivial, ?_⟩
          refine SL.two ?_ ?_
          · skip
            refine SL.bts [_] ⟨rfl, rfl, rfl, rfl⟩ ty41 ty5 ty9 rfl rfl (cells_all 0 rfl) ?_
            refine SL.bin ⟨rfl, rfl, rfl, rfl⟩ rfl rfl (Bin.cat (by simp; omega)) ?_
            refine SL.bin ⟨rfl, rfl, rfl, rfl⟩ rfl rfl (Bin.cat (by simp; omega)) ?_
            refine SL.two ?_ ?_
            · skip
              refine SL.call (vs := [_, _]) (Hin := []) ⟨rfl, rfl, rfl, rfl⟩ rfl ⟨rfl, rfl, trivial⟩ cal19 rfl rfl (c_seal_Open T _ _ (b.take n ++ [c] ++ b.drop (n + 1)) hT hv2 hv2.cells1 (by omega) (by simp; omega)) ?_
              rintro _ _ ⟨rfl, rfl⟩
              rw [hop]
              refine ⟨trivial, ?_⟩
              refine SL.mv ⟨rfl, rfl, rfl, rfl⟩ rfl ?_
              refine SL.ext ⟨rfl, rfl, rfl, rfl⟩ rfl rfl ?_
              refine SL.ext ⟨rfl, rfl, rfl, rfl⟩ rfl rfl ?_
              refine SL.ext ⟨rfl, rfl, rfl, rfl⟩ rfl rfl ?_
              refine SL.alloc ⟨rfl, rfl, rfl, rfl⟩ ze25 (fun _ => trivial) fun b2 => ?_
              refine SL.st 0 ⟨rfl, rfl, rfl⟩ rfl rfl rfl sz25 rfl rfl rfl trivial ?_
              refine SL.asg ⟨rfl, rfl, rfl, rfl⟩ rfl ?_
              refine SL.asg ⟨rfl, rfl, rfl, rfl⟩ rfl ?_
              refine SL.nx ?_
              refine SX.sr ?_
              refine SL.mv ⟨rfl, rfl, rfl, rfl⟩ rfl ?_
              refine SL.mv ⟨rfl, rfl, rfl, rfl⟩ rfl ?_
              refine SL.mv ⟨rfl, rfl, rfl, rfl⟩ rfl ?_
              refine SL.bin ⟨rfl, rfl, rfl, rfl⟩ rfl rfl (Bin.eqT rfl) ?_
              refine SL.pk ⟨rfl, rfl, rfl, rfl⟩ rfl rfl ?_
              refine SL.mv ⟨rfl, rfl, rfl, rfl⟩ rfl ?_
              refine SL.mv ⟨rfl, rfl, rfl, rfl⟩ rfl ?_
              refine SL.bin ⟨rfl, rfl, rfl, rfl⟩ rfl rfl Bin.sameS ?_
              refine SL.pk ⟨rfl, rfl, rfl, rfl⟩ rfl rfl ?_
              refine SL.mv ⟨rfl, rfl, rfl, rfl⟩ rfl ?_
              refine SL.ldA (encHead head0) ⟨rfl, rfl, rfl, rfl⟩ ag25 rfl rfl (cells_all 0 rfl) ?_
              refine SL.bld [] ⟨rfl, rfl, rfl, rfl⟩ pl25 pk25 ze25 trivial rfl ?_
              refine SL.eqAgg (b := true) ⟨rfl, rfl, rfl, rfl⟩ fl25 rfl rfl rfl ?_
              refine SL.pk ⟨rfl, rfl, rfl, rfl⟩ rfl rfl ?_
              refine SL.asg ⟨rfl, rfl, rfl, rfl⟩ rfl ?_
              refine SL.nx ?_
              refine SX.ret ?_
              exact SQ.fret (res1 rfl rfl) (ret_of (M := []) ⟨rfl, rfl⟩ fun _ h => h.skip [_, _, _])
            · skip
              refine SL.alloc ⟨rfl, rfl, rfl, rfl⟩ ze25 (fun _ => trivial) fun b2 => ?_
              refine SL.call (vs := [_, _]) (Hin := []) ⟨rfl, rfl, rfl, rfl⟩ rfl ⟨rfl, rfl, trivial⟩ cal19 rfl rfl (c_seal_Open T _ _ (b.take n ++ [c] ++ b.drop (n + 1)) hT hv2 hv2.cells1 (by omega) (by simp; omega)) ?_
              rintro _ _ ⟨rfl, rfl⟩
              rw [hop]
              refine ⟨trivial, ?_⟩
              refine SL.mv ⟨rfl, rfl, rfl, rfl⟩ rfl ?_
              refine SL.ext ⟨rfl, rfl, rfl, rfl⟩ rfl rfl ?_
              refine SL.ext ⟨rfl, rfl, rfl, rfl⟩ rfl rfl ?_
              refine SL.ext ⟨rfl, rfl, rfl, rfl⟩ rfl rfl ?_
              refine SL.st 0 ⟨rfl, rfl, rfl⟩ rfl rfl rfl sz25 rfl rfl rfl trivial ?_
              refine SL.asg ⟨rfl, rfl, rfl, rfl⟩ rfl ?_
              refine SL.asg ⟨rfl, rfl, rfl, rfl⟩ rfl ?_
              refine SL.nx ?_
              refine SX.sr ?_
              refine SL.mv ⟨rfl, rfl, rfl, rfl⟩ rfl ?_
              refine SL.mv ⟨rfl, rfl, rfl, rfl⟩ rfl ?_
              refine SL.mv ⟨rfl, rfl, rfl, rfl⟩ rfl ?_
              refine SL.bin ⟨rfl, rfl, rfl, rfl⟩ rfl rfl (Bin.eqT rfl) ?_
              refine SL.pk ⟨rfl, rfl, rfl, rfl⟩ rfl rfl ?_
              refine SL.mv ⟨rfl, rfl, rfl, rfl⟩ rfl ?_
              refine SL.mv ⟨rfl, rfl, rfl, rfl⟩ rfl ?_
              refine SL.bin ⟨rfl, rfl, rfl, rfl⟩ rfl rfl Bin.sameS ?_
              refine SL.pk ⟨rfl, rfl, rfl, rfl⟩ rfl rfl ?_
              refine SL.mv ⟨rfl, rfl, rfl, rfl⟩ rfl ?_
              refine SL.ldA (encHead head0) ⟨rfl, rfl, rfl, rfl⟩ ag25 rfl rfl (cells_all 0 rfl) ?_
              refine SL.bld [] ⟨rfl, rfl, rfl, rfl⟩ pl25 pk25 ze25 trivial rfl ?_
              refine SL.eqAgg (b := true) ⟨rfl, rfl, rfl, rfl⟩ fl25 rfl rfl rfl ?_
              refine SL.pk ⟨rfl, rfl, rfl, rfl⟩ rfl rfl ?_
              refine SL.asg ⟨rfl, rfl, rfl, rfl⟩ rfl ?_
              refine SL.nx ?_
              refine SX.ret ?_
              exact SQ.fret (res1 rfl rfl) (ret_of (M := []) ⟨rfl, rfl⟩ fun _ h => h.skip [_, _, _])
          · skip
            refine SL.alloc ⟨rfl, rfl, rfl, rfl⟩ ze25 (fun _ => trivial) fun b2 => ?_
            refine SL.bts [_] ⟨rfl, rfl, rfl, rfl⟩ ty41 ty5 ty9 rfl rfl (cells_all 1 rfl) ?_
            refine SL.bin ⟨rfl, rfl, rfl, rfl⟩ rfl rfl (Bin.cat (by simp; omega)) ?_
            refine SL.bin ⟨rfl, rfl, rfl, rfl⟩ rfl rfl (Bin.cat (by simp; omega)) ?_
            refine SL.call (vs := [_, _]) (Hin := []) ⟨rfl, rfl, rfl, rfl⟩ rfl ⟨rfl, rfl, trivial⟩ cal19 rfl rfl (c_seal_Open T _ _ (b.take n ++ [c] ++ b.drop (n + 1)) hT hv2 hv2.cells1 (by omega) (by simp; omega)) ?_
            rintro _ _ ⟨rfl, rfl⟩
            rw [hop]
            refine ⟨trivial, ?_⟩
            refine SL.mv ⟨rfl, rfl, rfl, rfl⟩ rfl ?_
            refine SL.ext ⟨rfl, rfl, rfl, rfl⟩ rfl rfl ?_
            refine SL.ext ⟨rfl, rfl, rfl, rfl⟩ rfl rfl ?_
            refine SL.ext ⟨rfl, rfl, rfl, rfl⟩ rfl rfl ?_
            refine SL.st 0 ⟨rfl, rfl, rfl⟩ rfl rfl rfl sz25 rfl rfl rfl trivial ?_
            refine SL.asg ⟨rfl, rfl, rfl, rfl⟩ rfl ?_
            refine SL.asg ⟨rfl, rfl, rfl, rfl⟩ rfl ?_
            refine SL.nx ?_
            refine SX.sr ?_
            refine SL.mv ⟨rfl, rfl, rfl, rfl⟩ rfl ?_
            refine SL.mv ⟨rfl, rfl, rfl, rfl⟩ rfl ?_
            refine SL.mv ⟨rfl, rfl, rfl, rfl⟩ rfl ?_
            refine SL.bin ⟨rfl, rfl, rfl, rfl⟩ rfl rfl (Bin.eqT rfl) ?_
            refine SL.pk ⟨rfl, rfl, rfl, rfl⟩ rfl rfl ?_
            refine SL.mv ⟨rfl, rfl, rfl, rfl⟩ rfl ?_
            refine SL.mv ⟨rfl, rfl, rfl, rfl⟩ rfl ?_
            refine SL.bin ⟨rfl, rfl, rfl, rfl⟩ rfl rfl Bin.sameS ?_
            refine SL.pk ⟨rfl, rfl, rfl, rfl⟩ rfl rfl ?_
            refine SL.mv ⟨rfl, rfl, rfl, rfl⟩ rfl ?_
            refine SL.ldA (encHead head0) ⟨rfl, rfl, rfl, rfl⟩ ag25 rfl rfl (cells_all 0 rfl) ?_
            refine SL.bld [] ⟨rfl, rfl, rfl, rfl⟩ pl25 pk25 ze25 trivial rfl ?_
            refine SL.eqAgg (b := true) ⟨rfl, rfl, rfl, rfl⟩ fl25 rfl rfl rfl ?_
            refine SL.pk ⟨rfl, rfl, rfl, rfl⟩ rfl rfl ?_
            refine SL.asg ⟨rfl, rfl, rfl, rfl⟩ rfl ?_
            refine SL.nx ?_
            refine SX.ret ?_
            exact SQ.fret (res1 rfl rfl) (ret_of (M := []) ⟨rfl, rfl⟩ fun _ h => h.skip [_, _, _])
        · skip
          refine SL.two ?_ ?_
          · skip
            refine SL.bts [_] ⟨rfl, rfl, rfl, rfl⟩ ty41 ty5 ty9 rfl rfl (cells_all 0 rfl) ?_
            refine SL.bin ⟨rfl, rfl, rfl, rfl⟩ rfl rfl (Bin.cat (by simp; omega)) ?_
            refine SL.bin ⟨rfl, rfl, rfl, rfl⟩ rfl rfl (Bin.cat (by simp; omega)) ?_
            refine SL.two ?_ ?_
            · skip
              refine SL.call (vs := [_]) (Hin := []) ⟨rfl, rfl, rfl, rfl⟩ rfl ⟨rfl, trivial⟩ cal17 rfl rfl (c_law06_cut v l hk hl) ?_
              rintro _ _ ⟨⟨v2, rfl, hv2⟩, rfl⟩
              refine ⟨trivial, ?_⟩
              refine SL.two ?_ ?_
              · skip
                refine SL.call (vs := [_, _]) (Hin := []) ⟨rfl, rfl, rfl, rfl⟩ rfl ⟨rfl, rfl, trivial⟩ cal19 rfl rfl (c_seal_Open T _ _ (b.take n ++ [c] ++ b.drop (n + 1)) hT hv2 hv2.cells1 (by omega) (by simp; omega)) ?_
                rintro _ _ ⟨rfl, rfl⟩
                rw [hop]
                refine ⟨trivial, ?_⟩
                refine SL.mv ⟨rfl, rfl, rfl, rfl⟩ rfl ?_
                refine SL.ext ⟨rfl, rfl, rfl, rfl⟩ rfl rfl ?_
                refine SL.ext ⟨rfl, rfl, rfl, rfl⟩ rfl rfl ?_
                refine SL.ext ⟨rfl, rfl, rfl, rfl⟩ rfl rfl ?_
                refine SL.alloc ⟨rfl, rfl, rfl, rfl⟩ ze25 (fun _ => trivial) fun b2 => ?_
                refine SL.st 0 ⟨rfl, rfl, rfl⟩ rfl rfl rfl sz25 rfl rfl rfl trivial ?_
                refine SL.asg ⟨rfl, rfl, rfl, rfl⟩ rfl ?_
                refine SL.asg ⟨rfl, rfl, rfl, rfl⟩ rfl ?_
                refine SL.nx ?_
                refine SX.sr ?_
                refine SL.mv ⟨rfl, rfl, rfl, rfl⟩ rfl ?_
                refine SL.mv ⟨rfl, rfl, rfl, rfl⟩ rfl ?_
                refine SL.mv ⟨rfl, rfl, rfl, rfl⟩ rfl ?_
                refine SL.bin ⟨rfl, rfl, rfl, rfl⟩ rfl rfl (Bin.eqT rfl) ?_
                refine SL.pk ⟨rfl, rfl, rfl, rfl⟩ rfl rfl ?_
                refine SL.mv ⟨rfl, rfl, rfl, rfl⟩ rfl ?_
                refine SL.mv ⟨rfl, rfl, rfl, rfl⟩ rfl ?_
                refine SL.bin ⟨rfl, rfl, rfl, rfl⟩ rfl rfl Bin.sameS ?_
                refine SL.pk ⟨rfl, rfl, rfl, rfl⟩ rfl rfl ?_
                refine SL.mv ⟨rfl, rfl, rfl, rfl⟩ rfl ?_
                refine SL.ldA (encHead head0) ⟨rfl, rfl, rfl, rfl⟩ ag25 rfl rfl (cells_all 0 rfl) ?_
                refine SL.bld [] ⟨rfl, rfl, rfl, rfl⟩ pl25 pk25 ze25 trivial rfl ?_
                refine SL.eqAgg (b := true) ⟨rfl, rfl, rfl, rfl⟩ fl25 rfl rfl rfl ?_
                refine SL.pk ⟨rfl, rfl, rfl, rfl⟩ rfl rfl ?_
                refine SL.asg ⟨rfl, rfl, rfl, rfl⟩ rfl ?_
                refine SL.nx ?_
                refine SX.ret ?_
                exact SQ.fret (res1 rfl rfl) (ret_of (M := []) ⟨rfl, rfl⟩ fun _ h => h.skip [_, _, _])
              · skip
                refine SL.alloc ⟨rfl, rfl, rfl, rfl⟩ ze25 (fun _ => trivial) fun b2 => ?_
                refine SL.call (vs := [_, _]) (Hin := []) ⟨rfl, rfl, rfl, rfl⟩ rfl ⟨rfl, rfl, trivial⟩ cal19 rfl rfl (c_seal_Open T _ _ (b.take n ++ [c] ++ b.drop (n + 1)) hT hv2 hv2.cells1 (by omega) (by simp; omega)) ?_
                rintro _ _ ⟨rfl, rfl⟩
                rw [hop]
                refine ⟨trivial, ?_⟩
                refine SL.mv ⟨rfl, rfl, rfl, rfl⟩ rfl ?_
                refine SL.ext ⟨rfl, rfl, rfl, rfl⟩ rfl rfl ?_
                refine SL.ext ⟨rfl, rfl, rfl, rfl⟩ rfl rfl ?_
                refine SL.ext ⟨rfl, rfl, rfl, rfl⟩ rfl rfl ?_
                refine SL.st 0 ⟨rfl, rfl, rfl⟩ rfl rfl rfl sz25 rfl rfl rfl trivial ?_
                refine SL.asg ⟨rfl, rfl, rfl, rfl⟩ rfl ?_
                refine SL.asg ⟨rfl, rfl, rfl, rfl⟩ rfl ?_
                refine SL.nx ?_
                refine SX.sr ?_
                refine SL.mv ⟨rfl, rfl, rfl, rfl⟩ rfl ?_
                refine SL.mv ⟨rfl, rfl, rfl, rfl⟩ rfl ?_
                refine SL.mv ⟨rfl, rfl, rfl, rfl⟩ rfl ?_
                refine SL.bin ⟨rfl, rfl, rfl, rfl⟩ rfl rfl (Bin.eqT rfl) ?_
                refine SL.pk ⟨rfl, rfl, rfl, rfl⟩ rfl rfl ?_
                refine SL.mv ⟨rfl, rfl, rfl, rfl⟩ rfl ?_
                refine SL.mv ⟨rfl, rfl, rfl, rfl⟩ rfl ?_
                refine SL.bin ⟨rfl, rfl, rfl, rfl⟩ rfl rfl Bin.sameS ?_
                refine SL.pk ⟨rfl, rfl, rfl, rfl⟩ rfl rfl ?_
                refine SL.mv ⟨rfl, rfl, rfl, rfl⟩ rfl ?_
                refine SL.ldA (encHead head0) ⟨rfl, rfl, rfl, rfl⟩ ag25 rfl rfl (cells_all 0 rfl) ?_
                refine SL.bld [] ⟨rfl, rfl, rfl, rfl⟩ pl25 pk25 ze25 trivial rfl ?_
                refine SL.eqAgg (b := true) ⟨rfl, rfl, rfl, rfl⟩ fl25 rfl rfl rfl ?_
                refine SL.pk ⟨rfl, rfl, rfl, rfl⟩ rfl rfl ?_
                refine SL.asg ⟨rfl, rfl, rfl, rfl⟩ rfl ?_
                refine SL.nx ?_
                refine SX.ret ?_
                exact SQ.fret (res1 rfl rfl) (ret_of (M := []) ⟨rfl, rfl⟩ fun _ h => h.skip [_, _, _])
            · skip
              refine SL.alloc ⟨rfl, rfl, rfl, rfl⟩ ze25 (fun _ => trivial) fun b2 => ?_
              refine SL.call (vs := [_]) (Hin := []) ⟨rfl, rfl, rfl, rfl⟩ rfl ⟨rfl, trivial⟩ cal17 rfl rfl (c_law06_cut v l hk hl) ?_
              rintro _ _ ⟨⟨v2, rfl, hv2⟩, rfl⟩
              refine ⟨trivial, ?_⟩
              refine SL.call (vs := [_, _]) (Hin := []) ⟨rfl, rfl, rfl, rfl⟩ rfl ⟨rfl, rfl, trivial⟩ cal19 rfl rfl (c_seal_Open T _ _ (b.take n ++ [c] ++ b.drop (n + 1)) hT hv2 hv2.cells1 (by omega) (by simp; omega)) ?_
              rintro _ _ ⟨rfl, rfl⟩
              rw [hop]
              refine ⟨trivial, ?_⟩
              refine SL.mv ⟨rfl, rfl, rfl, rfl⟩ rfl ?_
              refine SL.ext ⟨rfl, rfl, rfl, rfl⟩ rfl rfl ?_
              refine SL.ext ⟨rfl, rfl, rfl, rfl⟩ rfl rfl ?_
              refine SL.ext ⟨rfl, rfl, rfl, rfl⟩ rfl rfl ?_
              refine SL.st 0 ⟨rfl, rfl, rfl⟩ rfl rfl rfl sz25 rfl rfl rfl trivial ?_
              refine SL.asg ⟨rfl, rfl, rfl, rfl⟩ rfl ?_
              refine SL.asg ⟨rfl, rfl, rfl, rfl⟩ rfl ?_
              refine SL.nx ?_
              refine SX.sr ?_
              refine SL.mv ⟨rfl, rfl, rfl, rfl⟩ rfl ?_
              refine SL.mv ⟨rfl, rfl, rfl, rfl⟩ rfl ?_
              refine SL.mv ⟨rfl, rfl, rfl, rfl⟩ rfl ?_
              refine SL.bin ⟨rfl, rfl, rfl, rfl⟩ rfl rfl (Bin.eqT rfl) ?_
              refine SL.pk ⟨rfl, rfl, rfl, rfl⟩ rfl rfl ?_
              refine SL.mv ⟨rfl, rfl, rfl, rfl⟩ rfl ?_
              refine SL.mv ⟨rfl, rfl, rfl, rfl⟩ rfl ?_
              refine SL.bin ⟨rfl, rfl, rfl, rfl⟩ rfl rfl Bin.sameS ?_
              refine SL.pk ⟨rfl, rfl, rfl, rfl⟩ rfl rfl ?_
              refine SL.mv ⟨rfl, rfl, rfl, rfl⟩ rfl ?_
              refine SL.ldA (encHead head0) ⟨rfl, rfl, rfl, rfl⟩ ag25 rfl rfl (cells_all 0 rfl) ?_
              refine SL.bld [] ⟨rfl, rfl, rfl, rfl⟩ pl25 pk25 ze25 trivial rfl ?_
              refine SL.eqAgg (b := true) ⟨rfl, rfl, rfl, rfl⟩ fl25 rfl rfl rfl ?_
              refine SL.pk ⟨rfl, rfl, rfl, rfl⟩ rfl rfl ?_
              refine SL.asg ⟨rfl, rfl, rfl, rfl⟩ rfl ?_
              refine SL.nx ?_
              refine SX.ret ?_
              exact SQ.fret (res1 rfl rfl) (ret_of (M := []) ⟨rfl, rfl⟩ fun _ h => h.skip [_, _, _])
          · skip
            refine SL.alloc ⟨rfl, rfl, rfl, rfl⟩ ze25 (fun _ => trivial) fun b2 => ?_
            refine SL.two ?_ ?_
            · skip
              refine SL.call (vs := [_]) (Hin := []) ⟨rfl, rfl, rfl, rfl⟩ rfl ⟨rfl, trivial⟩ cal17 rfl rfl (c_law06_cut v l hk hl) ?_
              rintro _ _ ⟨⟨v2, rfl, hv2⟩, rfl⟩
              refine ⟨trivial, ?_⟩
              refine SL.bts [_] ⟨rfl, rfl, rfl, rfl⟩ ty41 ty5 ty9 rfl rfl (cells_all 1 rfl) ?_
              refine SL.bin ⟨rfl, rfl, rfl, rfl⟩ rfl rfl (Bin.cat (by simp; omega)) ?_
              refine SL.bin ⟨rfl, rfl, rfl, rfl⟩ rfl rfl (Bin.cat (by simp; omega)) ?_
              refine SL.call (vs := [_, _]) (Hin := []) ⟨rfl, rfl, rfl, rfl⟩ rfl ⟨rfl, rfl, trivial⟩ cal19 rfl rfl (c_seal_Open T _ _ (b.take n ++ [c] ++ b.drop (n + 1)) hT hv2 hv2.cells1 (by omega) (by simp; omega)) ?_
              rintro _ _ ⟨rfl, rfl⟩
              rw [hop]
              refine ⟨trivial, ?_⟩
              refine SL.mv ⟨rfl, rfl, rfl, rfl⟩ rfl ?_
              refine SL.ext ⟨rfl, rfl, rfl, rfl⟩ rfl rfl ?_
              refine SL.ext ⟨rfl, rfl, rfl, rfl⟩ rfl rfl ?_
              refine SL.ext ⟨rfl, rfl, rfl, rfl⟩ rfl rfl ?_
              refine SL.st 0 ⟨rfl, rfl, rfl⟩ rfl rfl rfl sz25 rfl rfl rfl trivial ?_
              refine SL.asg ⟨rfl, rfl, rfl, rfl⟩ rfl ?_
              refine SL.asg ⟨rfl, rfl, rfl, rfl⟩ rfl ?_
              refine SL.nx ?_
              refine SX.sr ?_
              refine SL.mv ⟨rfl, rfl, rfl, rfl⟩ rfl ?_
              refine SL.mv ⟨rfl, rfl, rfl, rfl⟩ rfl ?_
              refine SL.mv ⟨rfl, rfl, rfl, rfl⟩ rfl ?_
              refine SL.bin ⟨rfl, rfl, rfl, rfl⟩ rfl rfl (Bin.eqT rfl) ?_
              refine SL.pk ⟨rfl, rfl, rfl, rfl⟩ rfl rfl ?_
              refine SL.mv ⟨rfl, rfl, rfl, rfl⟩ rfl ?_
              refine SL.mv ⟨rfl, rfl, rfl, rfl⟩ rfl ?_
              refine SL.bin ⟨rfl, rfl, rfl, rfl⟩ rfl rfl Bin.sameS ?_
              refine SL.pk ⟨rfl, rfl, rfl, rfl⟩ rfl rfl ?_
              refine SL.mv ⟨rfl, rfl, rfl, rfl⟩ rfl ?_
              refine SL.ldA (encHead head0) ⟨rfl, rfl, rfl, rfl⟩ ag25 rfl rfl (cells_all 0 rfl) ?_
              refine SL.bld [] ⟨rfl, rfl, rfl, rfl⟩ pl25 pk25 ze25 trivial rfl ?_
              refine SL.eqAgg (b := true) ⟨rfl, rfl, rfl, rfl⟩ fl25 rfl rfl rfl ?_
              refine SL.pk ⟨rfl, rfl, rfl, rfl⟩ rfl rfl ?_
              refine SL.asg ⟨rfl, rfl, rfl, rfl⟩ rfl ?_
              refine SL.nx ?_
              refine SX.ret ?_
              exact SQ.fret (res1 rfl rfl) (ret_of (M := []) ⟨rfl, rfl⟩ fun _ h => h.skip [_, _, _])
            · skip
              refine SL.bts [_] ⟨rfl, rfl, rfl, rfl⟩ ty41 ty5 ty9 rfl rfl (cells_all 1 rfl) ?_
              refine SL.bin ⟨rfl, rfl, rfl, rfl⟩ rfl rfl (Bin.cat (by simp; omega)) ?_
              refine SL.bin ⟨rfl, rfl, rfl, rfl⟩ rfl rfl (Bin.cat (by simp; omega)) ?_
              refine SL.call (vs := [_]) (Hin := []) ⟨rfl, rfl, rfl, rfl⟩ rfl ⟨rfl, trivial⟩ cal17 rfl rfl (c_law06_cut v l hk hl) ?_
              rintro _ _ ⟨⟨v2, rfl, hv2⟩, rfl⟩
              refine ⟨trivial, ?_⟩
              refine SL.call (vs := [_, _]) (Hin := []) ⟨rfl, rfl, rfl, rfl⟩ rfl ⟨rfl, rfl, trivial⟩ cal19 rfl rfl (c_seal_Open T _ _ (b.take n ++ [c] ++ b.drop (n + 1)) hT hv2 hv2.cells1 (by omega) (by simp; omega)) ?_
              rintro _ _ ⟨rfl, rfl⟩
              rw [hop]
              refine ⟨trivial, ?_⟩
              refine SL.mv ⟨rfl, rfl, rfl, rfl⟩ rfl ?_
              refine SL.ext ⟨rfl, rfl, rfl, rfl⟩ rfl rfl ?_
              refine SL.ext ⟨rfl, rfl, rfl, rfl⟩ rfl rfl ?_
              refine SL.ext ⟨rfl, rfl, rfl, rfl⟩ rfl rfl ?_
              refine SL.st 0 ⟨rfl, rfl, rfl⟩ rfl rfl rfl sz25 rfl rfl rfl trivial ?_
              refine SL.asg ⟨rfl, rfl, rfl, rfl⟩ rfl ?_
              refine SL.asg ⟨rfl, rfl, rfl, rfl⟩ rfl ?_
              refine SL.nx ?_
              refine SX.sr ?_
              refine SL.mv ⟨rfl, rfl, rfl, rfl⟩ rfl ?_
              refine SL.mv ⟨rfl, rfl, rfl, rfl⟩ rfl ?_
              refine SL.mv ⟨rfl, rfl, rfl, rfl⟩ rfl ?_
              refine SL.bin ⟨rfl, rfl, rfl, rfl⟩ rfl rfl (Bin.eqT rfl) ?_
              refine SL.pk ⟨rfl, rfl, rfl, rfl⟩ rfl rfl ?_
              refine SL.mv ⟨rfl, rfl, rfl, rfl⟩ rfl ?_
              refine SL.mv ⟨rfl, rfl, rfl, rfl⟩ rfl ?_
              refine SL.bin ⟨rfl, rfl, rfl, rfl⟩ rfl rfl Bin.sameS ?_
              refine SL.pk ⟨rfl, rfl, rfl, rfl⟩ rfl rfl ?_
              refine SL.mv ⟨rfl, rfl, rfl, rfl⟩ rfl ?_
              refine SL.ldA (encHead head0) ⟨rfl, rfl, rfl, rfl⟩ ag25 rfl rfl (cells_all 0 rfl) ?_
              refine SL.bld [] ⟨rfl, rfl, rfl, rfl⟩ pl25 pk25 ze25 trivial rfl ?_
              refine SL.eqAgg (b := true) ⟨rfl, rfl, rfl, rfl⟩ fl25 rfl rfl rfl ?_
              refine SL.pk ⟨rfl, rfl, rfl, rfl⟩ rfl rfl ?_
              refine SL.asg ⟨rfl, rfl, rfl, rfl⟩ rfl ?_
              refine SL.nx ?_
              refine SX.ret ?_
              exact SQ.fret (res1 rfl rfl) (ret_of (M := []) ⟨rfl, rfl⟩ fun _ h => h.skip [_, _, _])
      · skip
        refine SL.alloc ⟨rfl, rfl, rfl, rfl⟩ ze25 (fun _ => trivial) fun b1 => ?_
        refine SL.two ?_ ?_
        · skip
          refine SL.call (vs := [_]) (Hin := []) ⟨rfl, rfl, rfl, rfl⟩ rfl ⟨rfl, trivial⟩ cal17 rfl rfl (c_law06_cut v l hk hl) ?_
          rintro _ _ ⟨⟨v2, rfl, hv2⟩, rfl⟩
          refine ⟨trivial, ?_⟩
          refine SL.bsl [_] ⟨rfl, rfl, rfl, rfl⟩ ty41 sz5 ze5 ⟨rfl, trivial⟩ rfl rfl rfl (by simp [Value.cells]) rfl rfl (fun _ => trivial) fun b2 => ?_
          refine SL.bts [_] ⟨rfl, rfl, rfl, rfl⟩ ty41 ty5 ty9 rfl rfl (cells_all 0 rfl) ?_
          refine SL.bin ⟨rfl, rfl, rfl, rfl⟩ rfl rfl (Bin.cat (by simp; omega)) ?_
          refine SL.bin ⟨rfl, rfl, rfl, rfl⟩ rfl rfl (Bin.cat (by simp; omega)) ?_
          refine SL.call (vs := [_, _]) (Hin := []) ⟨rfl, rfl, rfl, rfl⟩ rfl ⟨rfl, rfl, trivial⟩ cal19 rfl rfl (c_seal_Open T _ _ (b.take n ++ [c] ++ b.drop (n + 1)) hT hv2 hv2.cells1 (by omega) (by simp; omega)) ?_
          rintro _ _ ⟨rfl, rfl⟩
          rw [hop]
          refine ⟨trivial, ?_⟩
          refine SL.mv ⟨rfl, rfl, rfl, rfl⟩ rfl ?_
          refine SL.ext ⟨rfl, rfl, rfl, rfl⟩ rfl rfl ?_
          refine SL.ext ⟨rfl, rfl, rfl, rfl⟩ rfl rfl ?_
          refine SL.ext ⟨rfl, rfl, rfl, rfl⟩ rfl rfl ?_
          refine SL.st 1 ⟨rfl, rfl, rfl⟩ rfl rfl rfl sz25 rfl rfl rfl trivial ?_
          refine SL.asg ⟨rfl, rfl, rfl, rfl⟩ rfl ?_
          refine SL.asg ⟨rfl, rfl, rfl, rfl⟩ rfl ?_
          refine SL.nx ?_
          refine SX.sr ?_
          refine SL.mv ⟨rfl, rfl, rfl, rfl⟩ rfl ?_
          refine SL.mv ⟨rfl, rfl, rfl, rfl⟩ rfl ?_
          refine SL.mv ⟨rfl, rfl, rfl, rfl⟩ rfl ?_
          refine SL.bin ⟨rfl, rfl, rfl, rfl⟩ rfl rfl (Bin.eqT rfl) ?_
          refine SL.pk ⟨rfl, rfl, rfl, rfl⟩ rfl rfl ?_
          refine SL.mv ⟨rfl, rfl, rfl, rfl⟩ rfl ?_
          refine SL.mv ⟨rfl, rfl, rfl, rfl⟩ rfl ?_
          refine SL.bin ⟨rfl, rfl, rfl, rfl⟩ rfl rfl Bin.sameS ?_
          refine SL.pk ⟨rfl, rfl, rfl, rfl⟩ rfl rfl ?_
          refine SL.mv ⟨rfl, rfl, rfl, rfl⟩ rfl ?_
          refine SL.ldA (encHead head0) ⟨rfl, rfl, rfl, rfl⟩ ag25 rfl rfl (cells_all 1 rfl) ?_
          refine SL.bld [] ⟨rfl, rfl, rfl, rfl⟩ pl25 pk25 ze25 trivial rfl ?_
          refine SL.eqAgg (b := true) ⟨rfl, rfl, rfl, rfl⟩ fl25 rfl rfl rfl ?_
          refine SL.pk ⟨rfl, rfl, rfl, rfl⟩ rfl rfl ?_
          refine SL.asg ⟨rfl, rfl, rfl, rfl⟩ rfl ?_
          refine SL.nx ?_
          refine SX.ret ?_
          exact SQ.fret (res1 rfl rfl) (ret_of (M := []) ⟨rfl, rfl⟩ fun _ h => h.skip [_, _, _])
        · skip
          refine SL.bsl [_] ⟨rfl, rfl, rfl, rfl⟩ ty41 sz5 ze5 ⟨rfl, trivial⟩ rfl rfl rfl (by simp [Value.cells]) rfl rfl (fun _ => trivial) fun b2 => ?_
          refine SL.two ?_ ?_
          · skip
            refine SL.call (vs := [_]) (Hin := []) ⟨rfl, rfl, rfl, rfl⟩ rfl ⟨rfl, trivial⟩ cal17 rfl rfl (c_law06_cut v l hk hl) ?_
            rintro _ _ ⟨⟨v2, rfl, hv2⟩, rfl⟩
            refine ⟨trivial, ?_⟩
            refine SL.bts [_] ⟨rfl, rfl, rfl, rfl⟩ ty41 ty5 ty9 rfl rfl (cells_all 0 rfl) ?_
            refine SL.bin ⟨rfl, rfl, rfl, rfl⟩ rfl rfl (Bin.cat (by simp; omega)) ?_
            refine SL.bin ⟨rfl, rfl, rfl, rfl⟩ rfl rfl (Bin.cat (by simp; omega)) ?_
            refine SL.call (vs := [_, _]) (Hin := []) ⟨rfl, rfl, rfl, rfl⟩ rfl ⟨rfl, rfl, trivial⟩ cal19 rfl rfl (c_seal_Open T _ _ (b.take n ++ [c] ++ b.drop (n + 1)) hT hv2 hv2.cells1 (by omega) (by simp; omega)) ?_
            rintro _ _ ⟨rfl, rfl⟩
            rw [hop]
            refine ⟨trivial, ?_⟩
            refine SL.mv ⟨rfl, rfl, rfl, rfl⟩ rfl ?_
            refine SL.ext ⟨rfl, rfl, rfl, rfl⟩ rfl rfl ?_
            refine SL.ext ⟨rfl, rfl, rfl, rfl⟩ rfl rfl ?_
            refine SL.ext ⟨rfl, rfl, rfl, rfl⟩ rfl rfl ?_
            refine SL.st 1 ⟨rfl, rfl, rfl⟩ rfl rfl rfl sz25 rfl rfl rfl trivial ?_
            refine SL.asg ⟨rfl, rfl, rfl, rfl⟩ rfl ?_
            refine SL.asg ⟨rfl, rfl, rfl, rfl⟩ rfl ?_
            refine SL.nx ?_
            refine SX.sr ?_
            refine SL.mv ⟨rfl, rfl, rfl, rfl⟩ rfl ?_
            refine SL.mv ⟨rfl, rfl, rfl, rfl⟩ rfl ?_
            refine SL.mv ⟨rfl, rfl, rfl, rfl⟩ rfl ?_
            refine SL.bin ⟨rfl, rfl, rfl, rfl⟩ rfl rfl (Bin.eqT rfl) ?_
            refine SL.pk ⟨rfl, rfl, rfl, rfl⟩ rfl rfl ?_
            refine SL.mv ⟨rfl, rfl, rfl, rfl⟩ rfl ?_
            refine SL.mv ⟨rfl, rfl, rfl, rfl⟩ rfl ?_
            refine SL.bin ⟨rfl, rfl, rfl, rfl⟩ rfl rfl Bin.sameS ?_
            refine SL.pk ⟨rfl, rfl, rfl, rfl⟩ rfl rfl ?_
            refine SL.mv ⟨rfl, rfl, rfl, rfl⟩ rfl ?_
            refine SL.ldA (encHead head0) ⟨rfl, rfl, rfl, rfl⟩ ag25 rfl rfl (cells_all 1 rfl) ?_
            refine SL.bld [] ⟨rfl, rfl, rfl, rfl⟩ pl25 pk25 ze25 trivial rfl ?_
            refine SL.eqAgg (b := true) ⟨rfl, rfl, rfl, rfl⟩ fl25 rfl rfl rfl ?_
            refine SL.pk ⟨rfl, rfl, rfl, rfl⟩ rfl rfl ?_
            refine SL.asg ⟨rfl, rfl, rfl, rfl⟩ rfl ?_
            refine SL.nx ?_
            refine SX.ret ?_
            exact SQ.fret (res1 rfl rfl) (ret_of (M := []) ⟨rfl, rfl⟩ fun _ h => h.skip [_, _, _])
          · skip
            refine SL.bts [_] ⟨rfl, rfl, rfl, rfl⟩ ty41 ty5 ty9 rfl rfl (cells_all 0 rfl) ?_
            refine SL.bin ⟨rfl, rfl, rfl, rfl⟩ rfl rfl (Bin.cat (by simp; omega)) ?_
            refine SL.bin ⟨rfl, rfl, rfl, rfl⟩ rfl rfl (Bin.cat (by simp; omega)) ?_
            refine SL.call (vs := [_]) (Hin := []) ⟨rfl, rfl, rfl, rfl⟩ rfl ⟨rfl, trivial⟩ cal17 rfl rfl (c_law06_cut v l hk hl) ?_
            rintro _ _ ⟨⟨v2, rfl, hv2⟩, rfl⟩
            refine ⟨trivial, ?_⟩
            refine SL.call (vs := [_, _]) (Hin := []) ⟨rfl, rfl, rfl, rfl⟩ rfl ⟨rfl, rfl, trivial⟩ cal19 rfl rfl (c_seal_Open T _ _ (b.take n ++ [c] ++ b.drop (n + 1)) hT hv2 hv2.cells1 (by omega) (by simp; omega)) ?_
            rintro _ _ ⟨rfl, rfl⟩
            rw [hop]
            refine ⟨trivial, ?_⟩
            refine SL.mv ⟨rfl, rfl, rfl, rfl⟩ rfl ?_
            refine SL.ext ⟨rfl, rfl, rfl, rfl⟩ rfl rfl ?_
            refine SL.ext ⟨rfl, rfl, rfl, rfl⟩ rfl rfl ?_
            refine SL.ext ⟨rfl, rfl, rfl, rfl⟩ rfl rfl ?_
            refine SL.st 1 ⟨rfl, rfl, rfl⟩ rfl rfl rfl sz25 rfl rfl rfl trivial ?_
            refine SL.asg ⟨rfl, rfl, rfl, rfl⟩ rfl ?_
            refine SL.asg ⟨rfl, rfl, rfl, rfl⟩ rfl ?_
            refine SL.nx ?_
            refine SX.sr ?_
            refine SL.mv ⟨rfl, rfl, rfl, rfl⟩ rfl ?_
            refine SL.mv ⟨rfl, rfl, rfl, rfl⟩ rfl ?_
            refine SL.mv ⟨rfl, rfl, rfl, rfl⟩ rfl ?_
            refine SL.bin ⟨rfl, rfl, rfl, rfl⟩ rfl rfl (Bin.eqT rfl) ?_
            refine SL.pk ⟨rfl, rfl, rfl, rfl⟩ rfl rfl ?_
            refine SL.mv ⟨rfl, rfl, rfl, rfl⟩ rfl ?_
            refine SL.mv ⟨rfl, rfl, rfl, rfl⟩ rfl ?_
            refine SL.bin ⟨rfl, rfl, rfl, rfl⟩ rfl rfl Bin.sameS ?_
            refine SL.pk ⟨rfl, rfl, rfl, rfl⟩ rfl rfl ?_
            refine SL.mv ⟨rfl, rfl, rfl, rfl⟩ rfl ?_
            refine SL.ldA (encHead head0) ⟨rfl, rfl, rfl, rfl⟩ ag25 rfl rfl (cells_all 1 rfl) ?_
            refine SL.bld [] ⟨rfl, rfl, rfl, rfl⟩ pl25 pk25 ze25 trivial rfl ?_
            refine SL.eqAgg (b := true) ⟨rfl, rfl, rfl, rfl⟩ fl25 rfl rfl rfl ?_
            refine SL.pk ⟨rfl, rfl, rfl, rfl⟩ rfl rfl ?_
            refine SL.asg ⟨rfl, rfl, rfl, rfl⟩ rfl ?_
            refine SL.nx ?_
            refine SX.ret ?_
            exact SQ.fret (res1 rfl rfl) (ret_of (M := []) ⟨rfl, rfl⟩ fun _ h => h.skip [_, _, _])



end Go.Proofs.YtnpnmdbleopikaaDoor
