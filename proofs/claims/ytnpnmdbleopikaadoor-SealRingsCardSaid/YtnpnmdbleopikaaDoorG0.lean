/- Walks of ChaCha20's words and of the state that a block begins with. Condition: texts of at most 2^39 bytes. -/
import Derived.Test.YtnpnmdbleopikaaDoorA0
import Derived.Test.YtnpnmdbleopikaaDoorP4
namespace Go.Proofs.YtnpnmdbleopikaaDoor
open Go
variable {K : Nat → Prop} {w0 : World} {H : List Chunk}

def encW (x : UInt32) : List Value := [vU32 x]
theorem wordsOf_get {s : List UInt8} {j : Nat} (h : j < s.length / 4) : (wordsOf s)[j]? = some (wordLE s (4 * j)) := by simp [wordsOf, h]
theorem c_arx_word (s : List UInt8) (hs : 4 ≤ s.length) : Con Tryd.prog K w0 96 [vS s] [] H (fun r M => r = vU32 (wordLE s 0) ∧ M = []) := by
  refine Con.enter Tryd.func96 rfl rfl ?_
  refine SX.sr ?_
  refine SL.asg ⟨rfl, rfl, rfl, rfl⟩ rfl ?_
  refine SL.nx ?_
  refine SX.seq ?_
  refine SX.drawI mix [] (Pl.of [(true, 0), (true, 1), (true, 2), (true, 3), (true, 4), (true, 5), (true, 6), (true, 7), (true, 8), (true, 9), (true, 10), (true, 11), (true, 12), (true, 13), (true, 14), (true, 15), (true, 16), (true, 17), (true, 18)]) (by kernel_rfl) ?_
  refine SL.mv ⟨rfl, rfl, rfl, rfl⟩ rfl ?_
  refine SL.ixS 0 ⟨rfl, rfl, rfl, rfl⟩ ty9 rfl rfl (by omega) (by omega) ?_
  refine SL.cv ⟨rfl, rfl, rfl, rfl⟩ rfl (Cv.u8_32 ty5 ty22) ?_
  refine SL.mv ⟨rfl, rfl, rfl, rfl⟩ rfl ?_
  refine SL.ixS 1 ⟨rfl, rfl, rfl, rfl⟩ ty9 rfl rfl (by omega) (by omega) ?_
  refine SL.cv ⟨rfl, rfl, rfl, rfl⟩ rfl (Cv.u8_32 ty5 ty22) ?_
  refine SL.bin ⟨rfl, rfl, rfl, rfl⟩ rfl rfl (Bin.shl32 (n := 8)) ?_
  refine SL.bin ⟨rfl, rfl, rfl, rfl⟩ rfl rfl Bin.or32 ?_
  refine SL.mv ⟨rfl, rfl, rfl, rfl⟩ rfl ?_
  refine SL.ixS 2 ⟨rfl, rfl, rfl, rfl⟩ ty9 rfl rfl (by omega) (by omega) ?_
  refine SL.cv ⟨rfl, rfl, rfl, rfl⟩ rfl (Cv.u8_32 ty5 ty22) ?_
  refine SL.bin ⟨rfl, rfl, rfl, rfl⟩ rfl rfl (Bin.shl32 (n := 16)) ?_
  refine SL.bin ⟨rfl, rfl, rfl, rfl⟩ rfl rfl Bin.or32 ?_
  refine SL.mv ⟨rfl, rfl, rfl, rfl⟩ rfl ?_
  refine SL.ixS 3 ⟨rfl, rfl, rfl, rfl⟩ ty9 rfl rfl (by omega) (by omega) ?_
  refine SL.cv ⟨rfl, rfl, rfl, rfl⟩ rfl (Cv.u8_32 ty5 ty22) ?_
  refine SL.bin ⟨rfl, rfl, rfl, rfl⟩ rfl rfl (Bin.shl32 (n := 24)) ?_
  refine SL.bin ⟨rfl, rfl, rfl, rfl⟩ rfl rfl Bin.or32 ?_
  refine SL.asg ⟨rfl, rfl, rfl, rfl⟩ rfl ?_
  refine SL.nx ?_
  refine SX.ret ?_
  exact SQ.fret (res1 rfl rfl) (ret_of (M := []) ⟨rfl, rfl⟩ fun _ h => h.skip [])

theorem q_arx_words (ls : List (List UInt8)) (bl bs : Nat) (hl : ls.length ≤ 549755813888) (hls : ∀ s ∈ ls, s.length ≤ 549755813888) : Seq Tryd.prog K w0 95 [vP bl 0] [own bl (.cells #[.slice (some ⟨bs, 0, none⟩) ls.length ls.length] 83), own bs (.cells (arr vS ls) 9)] encW (ls.flatMap wordsOf) := by
  intro lp J X T1 hy G h0
  refine Con.enter Tryd.func95 rfl rfl ?_
  refine SX.sr ?_
  refine SL.ld ⟨rfl, rfl, rfl, rfl⟩ sc83 rfl (cell_own 0 rfl rfl) ?_
  refine SL.lenL ⟨rfl, rfl, rfl, rfl⟩ ty83 rfl ?_
  refine SL.mv ⟨rfl, rfl, rfl, rfl⟩ rfl ?_
  refine SL.nx ?_
  refine SX.block ?_
  refine SX.mono (SX.loop (α := Nat × List Chunk) (fun x => x.1 ≤ ls.length ∧ J ((ls.take x.1).flatMap wordsOf) x.2) (fun x => [(0, vY lp), (5, .slice (some ⟨bs, 0, none⟩) ls.length ls.length), (6, vI ls.length), (7, vI x.1)]) (fun x => own bl (.cells #[.slice (some ⟨bs, 0, none⟩) ls.length ls.length] 83) :: own bs (.cells (arr vS ls) 9) :: (x.2 ++ T1)) (fun x => ls.length - x.1) (fun x D hp => ?_) (0, G) ⟨Nat.zero_le _, h0⟩) (by repeat' (first | exact trivial | refine And.intro rfl ?_))
  obtain ⟨i, G⟩ := x
  obtain ⟨hi, hJ⟩ := hp
  simp only at hi hJ
  refine SX.sr ?_
  refine SL.bin ⟨rfl, rfl, rfl, rfl⟩ rfl rfl Bin.ltI ?_
  refine SL.nx ?_
  refine SX.seq ?_
  refine SX.cond rfl (fun hc1 => ?_) (fun hc1 => ?_)
  · skip
    have hlt : i < ls.length := by simpa using hc1
    obtain ⟨s, hs⟩ := get_of_lt hlt
    have hsl := hls s (List.mem_of_getElem? hs)
    have hsplit := take_split hs
    refine SX.skip ?_
    refine SQ.thn ?_
    refine SX.seq ?_
    refine SX.block ?_
    refine SX.sr ?_
    refine SL.iap (n := i) ⟨rfl, rfl, rfl, rfl⟩ ty83 sz9 rfl rfl (by omega) (by omega) ?_
    refine SL.ld ⟨rfl, rfl, rfl, rfl⟩ sc9 rfl (cell_own 1 rfl (arr_get hs)) ?_
    refine SL.asg ⟨rfl, rfl, rfl, rfl⟩ rfl ?_
    refine SL.nx ?_
    refine SX.block ?_
    refine SX.mono (SX.loop (α := Nat × List Chunk) (fun x => x.1 ≤ s.length / 4 ∧ J ((ls.take i).flatMap wordsOf ++ (wordsOf s).take x.1) x.2) (fun x => [(0, vY lp), (4, vS (s.drop (4 * x.1))), (5, .slice (some ⟨bs, 0, none⟩) ls.length ls.length), (6, vI ls.length), (7, vI i)]) (fun x => own bl (.cells #[.slice (some ⟨bs, 0, none⟩) ls.length ls.length] 83) :: own bs (.cells (arr vS ls) 9) :: (x.2 ++ T1)) (fun x => s.length / 4 - x.1) (fun x D hp => ?_) (0, G) ⟨Nat.zero_le _, by simpa using hJ⟩) (by repeat' (first | exact trivial | refine And.intro rfl ?_))
    obtain ⟨j, G⟩ := x
    obtain ⟨hj, hJ2⟩ := hp
    simp only at hj hJ2
    refine SX.seq ?_
    refine SX.sr ?_
    refine SL.mv ⟨rfl, rfl, rfl, rfl⟩ rfl ?_
    refine SL.lenS ⟨rfl, rfl, rfl, rfl⟩ ty9 rfl ?_
    refine SL.bin ⟨rfl, rfl, rfl, rfl⟩ rfl rfl Bin.geI ?_
    refine SL.nx ?_
    refine SX.cond rfl (fun hc2 => ?_) (fun hc2 => ?_)
    · skip
      have hjlt : j < s.length / 4 := by simp at hc2; omega
      have hw := wordsOf_get hjlt
      have hws := take_split hw
      refine SX.skip ?_
      refine SQ.thn ?_
      refine SX.seq ?_
      refine SX.block ?_
      refine SX.sr ?_
      refine SL.mv ⟨rfl, rfl, rfl, rfl⟩ rfl ?_
      refine SL.mv ⟨rfl, rfl, rfl, rfl⟩ rfl ?_
      refine SL.call (vs := [_]) (Hin := []) ⟨rfl, rfl, rfl, rfl⟩ rfl ⟨rfl, trivial⟩ cal96 rfl rfl (c_arx_word (s.drop (4 * j)) (by simp; omega)) ?_
      rintro _ _ ⟨rfl, rfl⟩
      refine ⟨trivial, ?_⟩
      rw [wordLE_drop, Nat.add_zero]
      refine SL.yld (M2 := [_, _]) (G := G) (T := T1) (vs := [_]) (ok := fun G1 => J ((ls.take i).flatMap wordsOf ++ (wordsOf s).take (j + 1)) G1) (no := X) ⟨rfl, rfl, rfl, rfl⟩ rfl ⟨rfl, trivial⟩ rfl ?_ (fun bb G1 hG1 => ⟨trivial, ?_⟩)
      · intro M
        have e1 : ls.flatMap wordsOf = ((ls.take i).flatMap wordsOf ++ (wordsOf s).take j) ++ wordLE s (4 * j) :: ((wordsOf s).drop (j + 1) ++ (ls.drop (i + 1)).flatMap wordsOf) := by
          have h1 : ls.flatMap wordsOf = (ls.take i).flatMap wordsOf ++ (wordsOf s ++ (ls.drop (i + 1)).flatMap wordsOf) := by
            rw [← List.flatMap_cons, ← List.flatMap_append, ← hsplit.1]
          have h2 : wordsOf s ++ (ls.drop (i + 1)).flatMap wordsOf = (wordsOf s).take j ++ wordLE s (4 * j) :: ((wordsOf s).drop (j + 1) ++ (ls.drop (i + 1)).flatMap wordsOf) := by
            rw [← List.cons_append, ← List.append_assoc, ← hws.1]
          rw [h1, h2, List.append_assoc]
        have := hy _ _ _ e1 G hJ2 M
        rw [List.append_assoc, ← hws.2] at this
        exact this
      refine SL.not ⟨rfl, rfl, rfl, rfl⟩ rfl ?_
      refine SL.nx ?_
      refine SX.cond rfl (fun hc3 => ?_) (fun hc3 => ?_)
      · skip
        obtain rfl : bb = false := by simpa using hc3
        refine SX.ret ?_
        refine SQ.blkR ?_
        refine SQ.thnR ?_
        refine SQ.lpR ?_
        refine SQ.blkR ?_
        refine SQ.blkR ?_
        refine SQ.thnR ?_
        refine SQ.lpR ?_
        refine SQ.blkR ?_
        exact SQ.fret (res0 rfl) (ret_of (M := G1) (.inr hG1) fun _ h => h.skip [_, _])
      · skip
        obtain rfl : bb = true := by simpa using hc3
        refine SX.skip ?_
        refine SQ.blk ?_
        refine SQ.thn ?_
        refine SX.region ?_
        refine SL.mv ⟨rfl, rfl, rfl, rfl⟩ rfl ?_
        refine SL.slSl 4 ⟨rfl, rfl, rfl, rfl⟩ ty9 rfl rfl (by omega) (by simp; omega) ?_
        rw [List.drop_drop, show 4 * j + 4 = 4 * (j + 1) by omega]
        refine SL.asg ⟨rfl, rfl, rfl, rfl⟩ rfl ?_
        refine SL.nil ?_
        exact SQ.again (j + 1, G1) ⟨hjlt, hG1⟩ (by simp only; omega) (by repeat' (first | exact trivial | refine And.intro rfl ?_))
    · skip
      have hje : j = s.length / 4 := by simp at hc2; omega
      refine SX.exit ?_
      refine SQ.thnE ?_
      refine SQ.lpE ?_
      refine SQ.blkE ?_
      refine SQ.blk ?_
      refine SQ.thn ?_
      refine SX.region ?_
      refine SL.bin ⟨rfl, rfl, rfl, rfl⟩ rfl rfl (Bin.addI (by omega) (by omega)) ?_
      refine SL.mv ⟨rfl, rfl, rfl, rfl⟩ rfl ?_
      refine SL.nil ?_
      refine SQ.again (i + 1, G) ⟨hlt, ?_⟩ (by simp only; omega) (by repeat' (first | exact trivial | refine And.intro rfl ?_))
      simp only
      rw [hsplit.2, List.flatMap_append, List.flatMap_cons, List.flatMap_nil, List.append_nil]
      have ht : (wordsOf s).take j = wordsOf s := List.take_of_length_le (by rw [wordsOf_length]; omega)
      rw [ht] at hJ2
      exact hJ2
  · skip
    have hle : i = ls.length := by simp at hc1; omega
    refine SX.exit ?_
    refine SQ.thnE ?_
    refine SQ.lpE ?_
    refine SQ.blkE ?_
    exact SQ.fend (res0 rfl) (ret_of (M := G) (.inl (by rw [hle, List.take_length] at hJ; exact hJ)) fun _ h => h.skip [_, _])

theorem c_arx_words (ls : List (List UInt8)) (bs : Nat) : Con Tryd.prog K w0 86 [.slice (some ⟨bs, 0, none⟩) ls.length ls.length] [own bs (.cells (arr vS ls) 9)] H (fun r M => ∃ bl, r = .func (.func 95) #[] #[vP bl 0] ∧ M = [own bl (.cells #[.slice (some ⟨bs, 0, none⟩) ls.length ls.length] 83), own bs (.cells (arr vS ls) 9)]) := by
  refine Con.enter Tryd.func86 rfl rfl ?_
  refine SX.sr ?_
  refine SL.box ⟨rfl, rfl, rfl, rfl⟩ rfl (fun _ => trivial) fun b0 => ?_
  refine SL.asg ⟨rfl, rfl, rfl, rfl⟩ rfl ?_
  refine SL.nx ?_
  refine SX.sr ?_
  refine SL.mkf (fv := #[]) (cv := #[_]) ⟨rfl, rfl, rfl, rfl⟩ rfl rfl ?_
  refine SL.asg ⟨rfl, rfl, rfl, rfl⟩ rfl ?_
  refine SL.nx ?_
  refine SX.ret ?_
  exact SQ.fret (res1 rfl rfl) (ret_of (M := [_, _]) ⟨b0, rfl, rfl⟩ fun _ h => h)

theorem c_arx_begun (key nonce : List UInt8) (counter : UInt32) (hk : key.length = 32) (hn : nonce.length = 12) : Con Tryd.prog K w0 67 [vS key, vU32 counter, vS nonce] [] H (fun r M => r = .agg (arr vU32 (begunA key counter nonce)) ∧ M = []) := by
  refine Con.enter Tryd.func67 rfl rfl ?_
  refine SX.sr ?_
  refine SL.alloc ⟨rfl, rfl, rfl, rfl⟩ ze102 (fun _ => trivial) fun b0 => ?_
  refine SL.nx ?_
  refine SX.scope ?_
  refine SX.sr ?_
  refine SL.alloc ⟨rfl, rfl, rfl, rfl⟩ ze102 (fun _ => trivial) fun b1 => ?_
  refine SL.nx ?_
  refine SX.sr ?_
  refine SL.alloc ⟨rfl, rfl, rfl, rfl⟩ ze3 (fun _ => trivial) fun b2 => ?_
  refine SL.st 0 ⟨rfl, rfl, rfl⟩ rfl rfl rfl sz3 rfl rfl rfl trivial ?_
  refine SL.nx ?_
  refine SX.sr ?_
  refine SL.mv ⟨rfl, rfl, rfl, rfl⟩ rfl ?_
  refine SL.cv ⟨rfl, rfl, rfl, rfl⟩ rfl (Cv.u32_8 ty22 ty5) ?_
  refine SL.mv ⟨rfl, rfl, rfl, rfl⟩ rfl ?_
  refine SL.bin ⟨rfl, rfl, rfl, rfl⟩ rfl rfl (Bin.shr32 (n := 8)) ?_
  refine SL.cv ⟨rfl, rfl, rfl, rfl⟩ rfl (Cv.u32_8 ty22 ty5) ?_
  refine SL.mv ⟨rfl, rfl, rfl, rfl⟩ rfl ?_
  refine SL.bin ⟨rfl, rfl, rfl, rfl⟩ rfl rfl (Bin.shr32 (n := 16)) ?_
  refine SL.cv ⟨rfl, rfl, rfl, rfl⟩ rfl (Cv.u32_8 ty22 ty5) ?_
  refine SL.mv ⟨rfl, rfl, rfl, rfl⟩ rfl ?_
  refine SL.bin ⟨rfl, rfl, rfl, rfl⟩ rfl rfl (Bin.shr32 (n := 24)) ?_
  refine SL.cv ⟨rfl, rfl, rfl, rfl⟩ rfl (Cv.u32_8 ty22 ty5) ?_
  refine SL.bsl [_, _, _, _] ⟨rfl, rfl, rfl, rfl⟩ ty41 sz5 ze5 ⟨rfl, rfl, rfl, rfl, trivial⟩ rfl rfl rfl (by simp [Value.cells]) rfl rfl (fun _ => trivial) fun b3 => ?_
  refine SL.bts [_, _, _, _] ⟨rfl, rfl, rfl, rfl⟩ ty41 ty5 ty9 rfl rfl (cells_all 0 rfl) ?_
  refine SL.asg ⟨rfl, rfl, rfl, rfl⟩ rfl ?_
  refine SL.nx ?_
  refine SX.seq ?_
  refine SX.label ?_
  refine SQ.thn ?_
  refine SX.seq ?_
  refine SX.sr ?_
  refine SL.mv ⟨rfl, rfl, rfl, rfl⟩ rfl ?_
  refine SL.mv ⟨rfl, rfl, rfl, rfl⟩ rfl ?_
  refine SL.mv ⟨rfl, rfl, rfl, rfl⟩ rfl ?_
  refine SL.bsl [_, _, _, _] ⟨rfl, rfl, rfl, rfl⟩ ty83 sz9 ze9 ⟨rfl, rfl, rfl, rfl, trivial⟩ rfl rfl rfl (by simp [Value.cells]) rfl rfl (fun _ => trivial) fun b4 => ?_
  refine SL.call (vs := [_]) (Hin := [_]) ⟨rfl, rfl, rfl, rfl⟩ rfl ⟨rfl, trivial⟩ cal86 rfl rfl (c_arx_words [expandW, key, le32 counter, nonce] b4) ?_
  rintro _ _ ⟨bl, rfl, rfl⟩
  refine ⟨trivial, ?_⟩
  refine SL.nx ?_
  have hbl := begunA_length (counter := counter) hk hn
  have hfm : [expandW, key, le32 counter, nonce].flatMap wordsOf = begunA key counter nonce := by simp [begunA, List.flatMap_cons]
  refine SX.block ?_
  refine SX.range (enc := encW) ([expandW, key, le32 counter, nonce].flatMap wordsOf) (fun pre G => G = own b3 (.cells (arr vU8 (le32 counter)) 5) :: own b2 (.cells #[vI pre.length] 3) :: own b1 (.cells (arr vU32 (pre ++ List.replicate (16 - pre.length) 0)) 102) :: own b0 (.cells (arr vU32 (List.replicate 16 0)) 102) :: H) (fun c G => False) rfl cal95 rfl (fun _ => rfl) (q_arx_words [expandW, key, le32 counter, nonce] bl b4 (by simp) (by simp [hk, hn, expandW, le32])) rfl rfl (fun pre x suf G hxs hJ r lp Rest => ?_) (fun G D hJ => ?_) (fun c G D hX => hX.elim)
  · obtain rfl := hJ
    have hlt : pre.length < 16 := by
      rw [hfm] at hxs
      rw [hxs] at hbl
      simp at hbl
      omega
    refine SX.region ?_
    refine SL.asg ⟨rfl, rfl, rfl, rfl⟩ rfl ?_
    refine SL.nil ?_
    refine SQ.bgn ?_
    refine SX.block ?_
    refine SX.seq ?_
    refine SX.sr ?_
    refine SL.ld ⟨rfl, rfl, rfl, rfl⟩ sc3 rfl (cell_own 1 rfl rfl) ?_
    refine SL.bin ⟨rfl, rfl, rfl, rfl⟩ rfl rfl Bin.eqI ?_
    refine SL.nx ?_
    refine SX.cond rfl (fun hc1 => absurd hc1 (by simp; omega)) (fun hc1 => ?_)
    refine SX.skip ?_
    refine SQ.thn ?_
    refine SX.sr ?_
    refine SL.ld ⟨rfl, rfl, rfl, rfl⟩ sc3 rfl (cell_own 1 rfl rfl) ?_
    refine SL.mv ⟨rfl, rfl, rfl, rfl⟩ rfl ?_
    refine SL.iaAp (n := pre.length) ⟨rfl, rfl, rfl, rfl⟩ ty102 sz22 rfl rfl (by omega) (by omega) ?_
    refine SL.stA (f := vU32) 2 ⟨rfl, rfl, rfl⟩ rfl rfl rfl sz22 rfl rfl (by simp; omega) trivial ?_
    rw [fill_set pre 0 x 16 pre.length rfl hlt]
    refine SL.nx ?_
    refine SX.region ?_
    refine SL.ld ⟨rfl, rfl, rfl, rfl⟩ sc3 rfl (cell_own 1 rfl rfl) ?_
    refine SL.bin ⟨rfl, rfl, rfl, rfl⟩ rfl rfl (Bin.addI (by omega) (by omega)) ?_
    refine SL.st 1 ⟨rfl, rfl, rfl⟩ rfl rfl rfl sz3 rfl rfl rfl trivial ?_
    refine SL.nil ?_
    refine SQ.blk ?_
    refine SQ.rndN (G := _ :: _ :: _ :: _ :: H) ?_ (fun _ h => h)
    have e1 : (pre ++ [x]).length = pre.length + 1 := by simp
    rw [e1]
    rfl
  · obtain rfl := hJ
    rw [hfm, hbl]
    have e1 : begunA key counter nonce ++ List.replicate (16 - 16) 0 = begunA key counter nonce := by simp
    rw [e1]
    refine SQ.blk ?_
    refine SQ.thn ?_
    refine SX.sr ?_
    refine SL.ldA ((begunA key counter nonce).map vU32) ⟨rfl, rfl, rfl, rfl⟩ ag102 (by simp [hbl]) rfl (cells_own 2 rfl (fun j u hu => by simpa [arr] using hu)) ?_
    refine SL.stF 3 ⟨rfl, rfl, rfl⟩ rfl rfl rfl sz102 (by simp [hbl]) (by simp [arr]) (arr_one (fun _ => rfl) (begunA key counter nonce)) trivial ?_
    refine SL.nx ?_
    refine SX.ret ?_
    refine SQ.scpR ?_
    exact SQ.fret (resv1 rfl (resv.ag 3 ((begunA key counter nonce).map vU32) ag102 (by simp [hbl]) rfl rfl (by simp only [List.drop_zero]; exact List.take_of_length_le (by simp [hbl])))) (ret_of (M := []) ⟨rfl, rfl⟩ fun _ h => h.skip [_, _, _, _])

end Go.Proofs.YtnpnmdbleopikaaDoor

