/- Walk of SealRings. Condition: the tables of the sum stand. -/
import Derived.Test.YtnpnmdbleopikaaDoorJ3
namespace Go.Proofs.YtnpnmdbleopikaaDoor
open Go
variable {K : Nat → Prop} {w0 : World} {H : List Chunk}

/-- the first i keys that are not of a generation -/
def lessA (l : List KeyA) (g : UInt32) (i : Nat) : List KeyA := (l.take i).filter fun k => decide (k.gen ≠ g)
theorem lessA_in {l : List KeyA} {g : UInt32} {i : Nat} {k : KeyA} (hk : l[i]? = some k) (hg : k.gen ≠ g) : lessA l g (i + 1) = lessA l g i ++ [k] := by
  simp [lessA, List.take_add_one, hk, hg]
theorem lessA_out {l : List KeyA} {g : UInt32} {i : Nat} {k : KeyA} (hk : l[i]? = some k) (hg : k.gen = g) : lessA l g (i + 1) = lessA l g i := by
  simp [lessA, List.take_add_one, hk, hg]
theorem lessA_le (l : List KeyA) (g : UInt32) (i : Nat) : (lessA l g i).length ≤ l.length :=
  Nat.le_trans (List.length_filter_le ..) (by simp; omega)
theorem seal_rings {T : List UInt32} {l : List KeyA} {h : HeadA} {s b : List UInt8} {g : UInt32} (e : sealA T l h s = (b, 0)) (hg : g ≠ h.gen) : sealA T (lessA l g l.length) h s = (b, 0) ∧ openA T (lessA l g l.length) b = (h, s, 0) := by
  have h1 : sealA T (lessA l g l.length) h s = (b, 0) := by
    rw [lessA, List.take_length, seal_filter (by rw [e]) (fun k hk => by simp [hk, Ne.symm hg]), e]
  refine ⟨h1, ?_⟩
  have := open_seal (T := T) (l := lessA l g l.length) (h := h) (s := s) (by rw [h1])
  rwa [h1] at this
theorem c_seal_SealR (T : List UInt32) (v : Value) (ks : List KeyA) (h : HeadA) (s : List UInt8) (hT : ShaT K w0 T) (hks : ks.length ≤ 1099511627776) (hn : s.length ≤ 9223372036854775807) : Con Tryd.prog K w0 16 [v, .agg (encHead h).toArray, vS s] [rowC 44 2 v ks.length (ks.flatMap encKey)] H (fun r M => r = .tuple #[vS (sealA T ks h s).1, vI (sealA T ks h s).2] ∧ M = [rowC 44 2 v ks.length (ks.flatMap encKey)]) := by
  have h1 := Con.lend (P := Tryd.prog) (K := K) (w0 := w0) (f := 16) (args := [v, .agg (encHead h).toArray, vS s]) (H := H) (B := [rowC 44 2 v ks.length (ks.flatMap encKey)]) (Hin := []) (post := fun r M => r = .tuple #[vS (sealA T ks h s).1, vI (sealA T ks h s).2] ∧ M = []) (fun K' w1 hk hB => by
    have hsl : SlOf K' w1 encKey 2 v ks := SlOf.lentR (fun _ => rfl) (hB _ (List.mem_cons_self ..))
    exact c_seal_Seal T _ ks h s (hT.keeps hk) hsl hsl.cells1 hks hn)
  refine Con.mono h1 ?_
  rintro r M ⟨M', rfl, rfl, rfl⟩
  exact ⟨rfl, rfl⟩
theorem c_seal_OpenR (T : List UInt32) (v : Value) (ks : List KeyA) (s : List UInt8) (hT : ShaT K w0 T) (hks : ks.length ≤ 1099511627776) (hn : s.length ≤ 9223372036854775807) : Con Tryd.prog K w0 19 [v, vS s] [rowC 44 2 v ks.length (ks.flatMap encKey)] H (fun r M => r = .tuple #[.agg (encHead (openA T ks s).1).toArray, vS (openA T ks s).2.1, vI (openA T ks s).2.2] ∧ M = [rowC 44 2 v ks.length (ks.flatMap encKey)]) := by
  have h1 := Con.lend (P := Tryd.prog) (K := K) (w0 := w0) (f := 19) (args := [v, vS s]) (H := H) (B := [rowC 44 2 v ks.length (ks.flatMap encKey)]) (Hin := []) (post := fun r M => r = .tuple #[.agg (encHead (openA T ks s).1).toArray, vS (openA T ks s).2.1, vI (openA T ks s).2.2] ∧ M = []) (fun K' w1 hk hB => by
    have hsl : SlOf K' w1 encKey 2 v ks := SlOf.lentR (fun _ => rfl) (hB _ (List.mem_cons_self ..))
    exact c_seal_Open T _ ks s (hT.keeps hk) hsl hsl.cells1 hks hn)
  refine Con.mono h1 ?_
  rintro r M ⟨M', rfl, rfl, rfl⟩
  exact ⟨rfl, rfl⟩
theorem c_law06_SealRings (T : List UInt32) (v : Value) (l : List KeyA) (h : HeadA) (s : List UInt8) (gen : UInt32) (hT : ShaT K w0 T) (hk : SlOf K w0 encKey 2 v l) (hl : l.length ≤ 9223372036854775807) (hs : s.length ≤ 9223372036854775807) : Con Tryd.prog K w0 9 [v, .agg (encHead h).toArray, vS s, vU32 gen] [] H (fun v M => v = vB true ∧ M = []) := by
  have hll : (l.take (min l.length 30)).length ≤ 30 := by simp; omega
  generalize hls : l.take (min l.length 30) = ls at hll
  have hrs : ∀ b, sealA T ls h s = (b, 0) → gen ≠ h.gen → b.length = 256 ∧ sealA T (lessA ls gen ls.length) h s = (b, 0) ∧ openA T (lessA ls gen ls.length) b = (h, s, 0) := fun b e hg => by
    have h1 := (seal_back (T := T) (l := ls) (h := h) (s := s) (by rw [e])).2.1
    rw [e] at h1
    exact ⟨h1, seal_rings e hg⟩
  generalize ho : sealA T ls h s = o at hrs
  obtain ⟨b, e⟩ := o
  refine Con.enter Tryd.func9 rfl rfl ?_
  refine SX.sr ?_
  refine SL.box ⟨rfl, rfl, rfl, rfl⟩ rfl (fun _ => trivial) fun b0 => ?_
  refine SL.asg ⟨rfl, rfl, rfl, rfl⟩ rfl ?_
  refine SL.nx ?_
  refine SX.sr ?_
  refine SL.call (vs := []) (Hin := []) ⟨rfl, rfl, rfl, rfl⟩ rfl trivial cal10 rfl rfl (c_law06_shown T hT) ?_
  rintro _ _ ⟨rfl, rfl⟩
  refine ⟨trivial, ?_⟩
  refine SL.asg ⟨rfl, rfl, rfl, rfl⟩ rfl ?_
  refine SL.nx ?_
  refine SX.sr ?_
  refine SL.mv ⟨rfl, rfl, rfl, rfl⟩ rfl ?_
  refine SL.call (vs := [_]) (Hin := []) ⟨rfl, rfl, rfl, rfl⟩ rfl ⟨rfl, trivial⟩ cal17 rfl rfl (c_law06_cut v l hk hl) ?_
  rintro v1 _ ⟨⟨_, rfl, hv1⟩, rfl⟩
  rw [hls] at hv1
  refine ⟨trivial, ?_⟩
  refine SL.asg ⟨rfl, rfl, rfl, rfl⟩ rfl ?_
  refine SL.nx ?_
  refine SX.sr ?_
  refine SL.mv ⟨rfl, rfl, rfl, rfl⟩ rfl ?_
  refine SL.ldA (encHead h) ⟨rfl, rfl, rfl, rfl⟩ ag25 rfl rfl (cells_all 0 rfl) ?_
  refine SL.mv ⟨rfl, rfl, rfl, rfl⟩ rfl ?_
  refine SL.call (vs := [_, _, _]) (Hin := []) ⟨rfl, rfl, rfl, rfl⟩ rfl ⟨rfl, rfl, rfl, trivial⟩ cal16 rfl rfl (c_seal_Seal T _ _ h s hT hv1 hv1.cells1 (by omega) hs) ?_
  rintro _ _ ⟨rfl, rfl⟩
  rw [ho]
  refine ⟨trivial, ?_⟩
  refine SL.mv ⟨rfl, rfl, rfl, rfl⟩ rfl ?_
  refine SL.ext ⟨rfl, rfl, rfl, rfl⟩ rfl rfl ?_
  refine SL.ext ⟨rfl, rfl, rfl, rfl⟩ rfl rfl ?_
  refine SL.asg ⟨rfl, rfl, rfl, rfl⟩ rfl ?_
  refine SL.asg ⟨rfl, rfl, rfl, rfl⟩ rfl ?_
  refine SL.nx ?_
  refine SX.seq ?_
  refine SX.mono (l' := [(0, _), (2, _), (3, _), (5, _), (8, _), (9, _), (10, _), (11, _)]) ?_ ⟨rfl, rfl, rfl, rfl, rfl, rfl, rfl, rfl, trivial⟩
  refine SX.sr ?_
  refine SL.mv ⟨rfl, rfl, rfl, rfl⟩ rfl ?_
  refine SL.bin ⟨rfl, rfl, rfl, rfl⟩ rfl rfl Bin.neI ?_
  refine SL.mv ⟨rfl, rfl, rfl, rfl⟩ rfl ?_
  refine SL.or (c := decide (gen = h.gen)) 31 5 36 rfl (fun hb k => ?_) (fun hb k => ?_) ?_
  · skip
    refine SL.pass rfl rfl rfl ?_
    refine SL.pass rfl rfl rfl ?_
    refine SL.pass rfl rfl rfl ?_
    refine SL.pass rfl rfl rfl ?_
    refine SL.pk ⟨rfl, rfl, rfl, rfl⟩ rfl rfl ?_
    exact k.mono (by repeat' (first | exact trivial | refine And.intro rfl ?_))
  · skip
    refine SL.mv ⟨rfl, rfl, rfl, rfl⟩ rfl ?_
    refine SL.fa ⟨rfl, rfl, rfl, rfl⟩ rfl fo25_1 ?_
    refine SL.ld ⟨rfl, rfl, rfl, rfl⟩ sc22 rfl (cell_own 0 rfl rfl) ?_
    refine SL.bin ⟨rfl, rfl, rfl, rfl⟩ rfl rfl Bin.eq32 ?_
    refine SL.pk ⟨rfl, rfl, rfl, rfl⟩ rfl rfl ?_
    exact k.mono (by repeat' (first | exact trivial | refine And.intro rfl ?_))
  refine SL.nx ?_
  refine SX.cond rfl (fun hc1 => ?_) (fun hc1 => ?_)
  · skip
    refine SX.sr ?_
    refine SL.mv ⟨rfl, rfl, rfl, rfl⟩ rfl ?_
    refine SL.asg ⟨rfl, rfl, rfl, rfl⟩ rfl ?_
    refine SL.nx ?_
    refine SX.ret ?_
    refine SQ.thnR ?_
    exact SQ.fret (res1 rfl rfl) (ret_of (M := []) ⟨rfl, rfl⟩ fun _ h => h.skip [_])
  · skip
    have hcc : e = 0 ∧ gen ≠ h.gen := by simpa using hc1
    obtain ⟨rfl, hg⟩ := hcc
    obtain ⟨hlen, hse, hop⟩ := hrs b rfl hg
    refine SX.skip ?_
    refine SQ.thn ?_
    refine SX.sr ?_
    refine SL.asg ⟨rfl, rfl, rfl, rfl⟩ rfl ?_
    refine SL.nx ?_
    refine SX.seq ?_
    refine SX.sr ?_
    refine SL.asg ⟨rfl, rfl, rfl, rfl⟩ rfl ?_
    refine SL.nx ?_
    refine SX.block ?_
    refine SX.nilRow 44 2 ?_
    refine SX.mono (SX.loop (α := Nat × Value) (fun x => x.1 ≤ ls.length) (fun x => [(0, v1), (2, vS s), (3, vU32 gen), (5, vP b0 0), (8, vB false), (9, vB true), (10, vS b), (12, x.2), (13, vI x.1)]) (fun x => rowC 44 2 x.2 (lessA ls gen x.1).length ((lessA ls gen x.1).flatMap encKey) :: own b0 (.cells (encHead h).toArray 25) :: H) (fun x => ls.length - x.1) (fun x D hp => ?_) (0, .slice none 0 0) (Nat.zero_le _)) (by repeat' (first | exact trivial | refine And.intro rfl ?_))
    obtain ⟨i, vv⟩ := x
    simp only at hp
    have hle := lessA_le ls gen i
    refine SX.seq ?_
    refine SX.sr ?_
    refine SL.mv ⟨rfl, rfl, rfl, rfl⟩ rfl ?_
    refine SL.mv ⟨rfl, rfl, rfl, rfl⟩ rfl ?_
    refine SL.lenV hv1 ⟨rfl, rfl, rfl, rfl⟩ ty32 rfl ?_
    refine SL.bin ⟨rfl, rfl, rfl, rfl⟩ rfl rfl Bin.ltI ?_
    refine SL.nx ?_
    refine SX.cond rfl (fun hc2 => ?_) (fun hc2 => ?_)
    · skip
      have hi : i < ls.length := by simpa using hc2
      obtain ⟨key, hkey⟩ : ∃ k, ls[i]? = some k := ⟨_, List.getElem?_eq_getElem hi⟩
      refine SX.skip ?_
      refine SQ.thn ?_
      refine SX.seq ?_
      refine SX.block ?_
      refine SX.sr ?_
      refine SL.mv ⟨rfl, rfl, rfl, rfl⟩ rfl ?_
      refine SL.mv ⟨rfl, rfl, rfl, rfl⟩ rfl ?_
      refine SL.iaV i key hv1 ⟨rfl, rfl, rfl, rfl⟩ ty32 sz44 rfl rfl rfl hkey fun be off hcell => ?_
      refine SL.fa ⟨rfl, rfl, rfl, rfl⟩ rfl fo44_0 ?_
      refine SL.ld ⟨rfl, rfl, rfl, rfl⟩ sc22 rfl (fun w hw => hcell _ w hw 0 _ rfl) ?_
      refine SL.mv ⟨rfl, rfl, rfl, rfl⟩ rfl ?_
      refine SL.bin ⟨rfl, rfl, rfl, rfl⟩ rfl rfl Bin.ne32 ?_
      refine SL.nx ?_
      refine SX.cond rfl (fun hc3 => ?_) (fun hc3 => ?_)
      · skip
        have hin := lessA_in (g := gen) hkey (by simpa using hc3)
        refine SX.region ?_
        refine SL.mv ⟨rfl, rfl, rfl, rfl⟩ rfl ?_
        refine SL.mv ⟨rfl, rfl, rfl, rfl⟩ rfl ?_
        refine SL.mv ⟨rfl, rfl, rfl, rfl⟩ rfl ?_
        refine SL.iaV i key hv1 ⟨rfl, rfl, rfl, rfl⟩ ty32 sz44 rfl rfl rfl hkey fun be off hcell => ?_
        refine SL.ldA (encKey key) ⟨rfl, rfl, rfl, rfl⟩ ag44 rfl rfl (cells_at (hcell _)) ?_
        refine SL.bsl [_] ⟨rfl, rfl, rfl, rfl⟩ ty32 sz44 ze44 ⟨rfl, trivial⟩ rfl rfl rfl (by simp [Value.cells, encKey]) rfl rfl (fun _ => trivial) fun b1 => ?_
        refine SL.app 1 ⟨rfl, rfl, rfl, rfl⟩ (m := 1) (news := encKey key) ty32 sz44 by44 ze44 rfl (by decide) rfl rfl rfl rfl (cells_all 0 rfl) (by simp [Value.oneCell', encKey]) (by simp only; omega) (by simp only; omega) (fun _ => trivial) fun v' => ?_
        refine SL.asg ⟨rfl, rfl, rfl, rfl⟩ rfl ?_
        refine SL.nil ?_
        refine SQ.blk ?_
        refine SQ.thn ?_
        refine SX.region ?_
        refine SL.mv ⟨rfl, rfl, rfl, rfl⟩ rfl ?_
        refine SL.bin ⟨rfl, rfl, rfl, rfl⟩ rfl rfl (Bin.addI (by omega) (by omega)) ?_
        refine SL.asg ⟨rfl, rfl, rfl, rfl⟩ rfl ?_
        refine SL.nil ?_
        refine SQ.again (i + 1, v') (by simp only; omega) (by simp only; omega) (by repeat' (first | exact trivial | refine And.intro rfl ?_)) (fun w hw => by
          simp only
          rw [hin, List.length_append, List.flatMap_append]
          exact hw.skip [_])
      · skip
        have hout := lessA_out (g := gen) hkey (by simpa using hc3)
        refine SX.skip ?_
        refine SQ.blk ?_
        refine SQ.thn ?_
        refine SX.region ?_
        refine SL.mv ⟨rfl, rfl, rfl, rfl⟩ rfl ?_
        refine SL.bin ⟨rfl, rfl, rfl, rfl⟩ rfl rfl (Bin.addI (by omega) (by omega)) ?_
        refine SL.asg ⟨rfl, rfl, rfl, rfl⟩ rfl ?_
        refine SL.nil ?_
        refine SQ.again (i + 1, vv) (by simp only; omega) (by simp only; omega) (by repeat' (first | exact trivial | refine And.intro rfl ?_)) (fun w hw => by
          simp only
          rw [hout]
          exact hw)
    · skip
      have hi : i = ls.length := by simp at hc2; omega
      subst hi
      refine SX.exit ?_
      refine SQ.thnE ?_
      refine SQ.lpE ?_
      refine SQ.blkE ?_
      refine SQ.thn ?_
      refine SX.sr ?_
      refine SL.mv ⟨rfl, rfl, rfl, rfl⟩ rfl ?_
      refine SL.ldA (encHead h) ⟨rfl, rfl, rfl, rfl⟩ ag25 rfl rfl (cells_all 1 rfl) ?_
      refine SL.mv ⟨rfl, rfl, rfl, rfl⟩ rfl ?_
      refine SL.call (vs := [_, _, _]) (Hin := [_]) ⟨rfl, rfl, rfl, rfl⟩ rfl ⟨rfl, rfl, rfl, trivial⟩ cal16 rfl rfl (c_seal_SealR T vv (lessA ls gen ls.length) h s hT (by omega) hs) ?_
      rintro _ _ ⟨rfl, rfl⟩
      rw [hse]
      refine ⟨trivial, ?_⟩
      refine SL.mv ⟨rfl, rfl, rfl, rfl⟩ rfl ?_
      refine SL.ext ⟨rfl, rfl, rfl, rfl⟩ rfl rfl ?_
      refine SL.ext ⟨rfl, rfl, rfl, rfl⟩ rfl rfl ?_
      refine SL.asg ⟨rfl, rfl, rfl, rfl⟩ rfl ?_
      refine SL.asg ⟨rfl, rfl, rfl, rfl⟩ rfl ?_
      refine SL.nx ?_
      refine SX.sr ?_
      refine SL.mv ⟨rfl, rfl, rfl, rfl⟩ rfl ?_
      refine SL.mv ⟨rfl, rfl, rfl, rfl⟩ rfl ?_
      refine SL.call (vs := [_, _]) (Hin := [_]) ⟨rfl, rfl, rfl, rfl⟩ rfl ⟨rfl, rfl, trivial⟩ cal19 rfl rfl (c_seal_OpenR T vv (lessA ls gen ls.length) b hT (by omega) (by omega)) ?_
      rintro _ _ ⟨rfl, rfl⟩
      rw [hop]
      refine ⟨trivial, ?_⟩
      refine SL.mv ⟨rfl, rfl, rfl, rfl⟩ rfl ?_
      refine SL.ext ⟨rfl, rfl, rfl, rfl⟩ rfl rfl ?_
      refine SL.ext ⟨rfl, rfl, rfl, rfl⟩ rfl rfl ?_
      refine SL.ext ⟨rfl, rfl, rfl, rfl⟩ rfl rfl ?_
      refine SL.alloc ⟨rfl, rfl, rfl, rfl⟩ ze25 (fun _ => trivial) fun b1 => ?_
      refine SL.st 0 ⟨rfl, rfl, rfl⟩ rfl rfl rfl sz25 rfl rfl rfl trivial ?_
      refine SL.asg ⟨rfl, rfl, rfl, rfl⟩ rfl ?_
      refine SL.asg ⟨rfl, rfl, rfl, rfl⟩ rfl ?_
      refine SL.nx ?_
      refine SX.sr ?_
      refine SL.mv ⟨rfl, rfl, rfl, rfl⟩ rfl ?_
      refine SL.mv ⟨rfl, rfl, rfl, rfl⟩ rfl ?_
      refine SL.mv ⟨rfl, rfl, rfl, rfl⟩ rfl ?_
      refine SL.bin ⟨rfl, rfl, rfl, rfl⟩ rfl rfl (Bin.eqT rfl) ?_
      refine SL.pk ⟨rfl, rfl, rfl, rfl⟩ rfl rfl ?_
      refine SL.mv ⟨rfl, rfl, rfl, rfl⟩ rfl ?_
      refine SL.mv ⟨rfl, rfl, rfl, rfl⟩ rfl ?_
      refine SL.bin ⟨rfl, rfl, rfl, rfl⟩ rfl rfl (Bin.eqT rfl) ?_
      refine SL.pk ⟨rfl, rfl, rfl, rfl⟩ rfl rfl ?_
      refine SL.mv ⟨rfl, rfl, rfl, rfl⟩ rfl ?_
      refine SL.mv ⟨rfl, rfl, rfl, rfl⟩ rfl ?_
      refine SL.mv ⟨rfl, rfl, rfl, rfl⟩ rfl ?_
      refine SL.bin ⟨rfl, rfl, rfl, rfl⟩ rfl rfl Bin.sameS ?_
      refine SL.pk ⟨rfl, rfl, rfl, rfl⟩ rfl rfl ?_
      refine SL.mv ⟨rfl, rfl, rfl, rfl⟩ rfl ?_
      refine SL.ldA (encHead h) ⟨rfl, rfl, rfl, rfl⟩ ag25 rfl rfl (cells_all 0 rfl) ?_
      refine SL.ldA (encHead h) ⟨rfl, rfl, rfl, rfl⟩ ag25 rfl rfl (cells_all 2 rfl) ?_
      refine SL.eqAgg (b := true) ⟨rfl, rfl, rfl, rfl⟩ fl25 rfl rfl (flat_head h) ?_
      refine SL.pk ⟨rfl, rfl, rfl, rfl⟩ rfl rfl ?_
      refine SL.mv ⟨rfl, rfl, rfl, rfl⟩ rfl ?_
      refine SL.mv ⟨rfl, rfl, rfl, rfl⟩ rfl ?_
      refine SL.mv ⟨rfl, rfl, rfl, rfl⟩ rfl ?_
      refine SL.bin ⟨rfl, rfl, rfl, rfl⟩ rfl rfl Bin.sameS ?_
      refine SL.pk ⟨rfl, rfl, rfl, rfl⟩ rfl rfl ?_
      refine SL.asg ⟨rfl, rfl, rfl, rfl⟩ rfl ?_
      refine SL.nx ?_
      refine SX.ret ?_
      exact SQ.fret (res1 rfl rfl) (ret_of (M := []) ⟨rfl, rfl⟩ fun _ h => h.skip [_, _, _])



end Go.Proofs.YtnpnmdbleopikaaDoor
