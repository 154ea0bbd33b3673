/- Walks of ChaCha20's block, and of a text under the stream. Condition: a key of 32 bytes, a nonce of 12, texts of at most 2^20 bytes. -/
import Derived.Test.YtnpnmdbleopikaaDoorG1
import Derived.Test.YtnpnmdbleopikaaDoorB0
namespace Go.Proofs.YtnpnmdbleopikaaDoor
open Go
variable {K : Nat → Prop} {w0 : World} {H : List Chunk}

theorem zip_take (W B : List UInt32) (i : Nat) (h1 : i < W.length) (h2 : i < B.length) : (List.zipWith (· + ·) W B).take (i + 1) = (List.zipWith (· + ·) W B).take i ++ [W.getD i 0 + B.getD i 0] := by
  rw [List.take_add_one, List.getElem?_eq_getElem (by simp; omega)]
  simp [List.getD_eq_getElem?_getD, h1, h2]
theorem ofNat_succ (j : Nat) : UInt32.ofNat j + 1 = UInt32.ofNat (j + 1) := by
  apply UInt32.toNat_inj.1
  simp
theorem xorA_step (key nonce s : List UInt8) (n : Nat) (h : n < s.length) : (xorA key nonce s).take (n + 1) = (xorA key nonce s).take n ++ [s.getD n 0 ^^^ streamA key nonce n] := by
  rw [List.take_add_one, List.getElem?_eq_getElem (by rw [xorA_length]; exact h)]
  simp [xorA]
theorem c_arx_Block (key nonce : List UInt8) (counter : UInt32) (hk : key.length = 32) (hn : nonce.length = 12) : Con Tryd.prog K w0 50 [vS key, vU32 counter, vS nonce] [] H (fun r M => r = .tuple #[vS (blockA key counter nonce), vI 0] ∧ M = []) := by
  refine Con.enter Tryd.func50 rfl rfl ?_
  refine SX.sr ?_
  refine SL.asg ⟨rfl, rfl, rfl, rfl⟩ rfl ?_
  refine SL.asg ⟨rfl, rfl, rfl, rfl⟩ rfl ?_
  refine SL.nx ?_
  refine SX.seq ?_
  refine SX.sr ?_
  refine SL.mv ⟨rfl, rfl, rfl, rfl⟩ rfl ?_
  refine SL.lenS ⟨rfl, rfl, rfl, rfl⟩ ty9 rfl ?_
  refine SL.bin ⟨rfl, rfl, rfl, rfl⟩ rfl rfl Bin.neI ?_
  refine SL.mv ⟨rfl, rfl, rfl, rfl⟩ rfl ?_
  refine SL.or (c := (!decide ((nonce.length : Int) = 12))) 16 4 20 rfl (fun hb k => ?_) (fun hb k => ?_) ?_
  · skip
    refine SL.pass rfl rfl rfl ?_
    refine SL.pass rfl rfl rfl ?_
    refine SL.pass rfl rfl rfl ?_
    refine SL.pk ⟨rfl, rfl, rfl, rfl⟩ rfl rfl ?_
    exact k.mono (by repeat' (first | exact trivial | refine And.intro rfl ?_))
  · skip
    refine SL.mv ⟨rfl, rfl, rfl, rfl⟩ rfl ?_
    refine SL.lenS ⟨rfl, rfl, rfl, rfl⟩ ty9 rfl ?_
    refine SL.bin ⟨rfl, rfl, rfl, rfl⟩ rfl rfl Bin.neI ?_
    refine SL.pk ⟨rfl, rfl, rfl, rfl⟩ rfl rfl ?_
    exact k.mono (by repeat' (first | exact trivial | refine And.intro rfl ?_))
  refine SL.nx ?_
  refine SX.cond rfl (fun hc1 => absurd hc1 (by simp [hk, hn])) (fun hc1 => ?_)
  refine SX.skip ?_
  refine SQ.thn ?_
  refine SX.sr ?_
  refine SL.mv ⟨rfl, rfl, rfl, rfl⟩ rfl ?_
  refine SL.mv ⟨rfl, rfl, rfl, rfl⟩ rfl ?_
  refine SL.mv ⟨rfl, rfl, rfl, rfl⟩ rfl ?_
  refine SL.call (vs := [_, _, _]) (Hin := []) ⟨rfl, rfl, rfl, rfl⟩ rfl ⟨rfl, rfl, rfl, trivial⟩ cal67 rfl rfl (c_arx_begun key nonce counter hk hn) ?_
  rintro _ _ ⟨rfl, rfl⟩
  refine ⟨trivial, ?_⟩
  have hB := begunA_length (counter := counter) hk hn
  generalize hBe : begunA key counter nonce = B at hB
  refine SL.alloc ⟨rfl, rfl, rfl, rfl⟩ ze102 (fun _ => trivial) fun b0 => ?_
  refine SL.stF (c' := arr vU32 B) 0 ⟨rfl, rfl, rfl⟩ rfl rfl rfl sz102 (by rw [arr_size]; exact hB) rfl (arr_one (fun _ => rfl) B) trivial ?_
  refine SL.nx ?_
  refine SX.sr ?_
  refine SL.alloc ⟨rfl, rfl, rfl, rfl⟩ ze102 (fun _ => trivial) fun b1 => ?_
  refine SL.nx ?_
  refine SX.seq ?_
  refine SX.drawI mix [] (Pl.ap [(true, 0), (true, 1)] (.last 2 .nil)) (by kernel_rfl) ?_
  refine SL.slA ⟨rfl, rfl, rfl, rfl⟩ ty102 sz22 rfl (by decide) ?_
  refine SL.slA ⟨rfl, rfl, rfl, rfl⟩ ty102 sz22 rfl (by decide) ?_
  refine SL.last ?_
  refine SL.cpA (f := vU32) (xs := List.replicate 16 0) (ys := B) 0 1 ⟨rfl, rfl, rfl, rfl⟩ ty104 sz22 rfl rfl rfl rfl rfl hB (fun _ => rfl) trivial ?_
  refine SL.nx ?_
  refine SX.seq ?_
  refine SX.sr ?_
  refine SL.mv ⟨rfl, rfl, rfl, rfl⟩ rfl ?_
  refine SL.nx ?_
  refine SX.block ?_
  refine SX.mono (SX.loop (α := Nat) (fun i => i ≤ 10) (fun i => [(8, vP b0 0), (9, vP b1 0), (28, vI i)]) (fun i => own b1 (.cells (arr vU32 (tenN B i)) 102) :: own b0 (.cells (arr vU32 B) 102) :: H) (fun i => 10 - i) (fun i D hp => ?_) 0 (by omega)) (by repeat' (first | exact trivial | refine And.intro rfl ?_))
  have htl := (tenN_length B i).trans hB
  refine SX.sr ?_
  refine SL.bin ⟨rfl, rfl, rfl, rfl⟩ rfl rfl Bin.ltI ?_
  refine SL.nx ?_
  refine SX.seq ?_
  refine SX.cond rfl (fun hc2 => ?_) (fun hc2 => ?_)
  · skip
    have hi : i < 10 := by simp at hc2; omega
    refine SX.skip ?_
    refine SQ.thn ?_
    refine SX.seq ?_
    refine SX.block ?_
    refine SX.sr ?_
    refine SL.call (vs := [_, _]) (Hin := [_]) ⟨rfl, rfl, rfl, rfl⟩ rfl ⟨rfl, rfl, trivial⟩ cal68 rfl rfl (c_arx_round (tenN B i) 0 b1 102 htl (by omega)) ?_
    rintro _ _ ⟨rfl, rfl⟩
    refine ⟨trivial, ?_⟩
    refine SL.nx ?_
    refine SX.region ?_
    refine SL.call (vs := [_, _]) (Hin := [_]) ⟨rfl, rfl, rfl, rfl⟩ rfl ⟨rfl, rfl, trivial⟩ cal68 rfl rfl (c_arx_round (roundA (tenN B i) 0) 1 b1 102 ((roundN_length ..).trans htl) (by omega)) ?_
    rintro _ _ ⟨rfl, rfl⟩
    refine ⟨trivial, ?_⟩
    refine SL.nil ?_
    refine SQ.blk ?_
    refine SQ.thn ?_
    refine SX.region ?_
    refine SL.bin ⟨rfl, rfl, rfl, rfl⟩ rfl rfl (Bin.addI (by omega) (by omega)) ?_
    refine SL.mv ⟨rfl, rfl, rfl, rfl⟩ rfl ?_
    refine SL.nil ?_
    exact SQ.again (i + 1) (by omega) (by omega) (by repeat' (first | exact trivial | refine And.intro rfl ?_))
  · skip
    have hi : i = 10 := by simp at hc2; omega
    subst hi
    generalize hW : tenN B 10 = W at htl
    refine SX.exit ?_
    refine SQ.thnE ?_
    refine SQ.lpE ?_
    refine SQ.blkE ?_
    refine SQ.thn ?_
    refine SX.sr ?_
    refine SL.asg ⟨rfl, rfl, rfl, rfl⟩ rfl ?_
    refine SL.nx ?_
    refine SX.seq ?_
    refine SX.sr ?_
    refine SL.ldA (W.map vU32) ⟨rfl, rfl, rfl, rfl⟩ ag102 (by simp [htl]) rfl (cells_all 0 rfl) ?_
    refine SL.mv ⟨rfl, rfl, rfl, rfl⟩ rfl ?_
    refine SL.nx ?_
    refine SX.block ?_
    refine SX.nilRow 5 1 ?_
    refine SX.mono (SX.loop (α := Nat × Value) (fun x => x.1 ≤ 16) (fun x => [(8, vP b0 0), (10, x.2), (33, .agg (arr vU32 W)), (34, vI x.1)]) (fun x => rowC 5 1 x.2 (4 * x.1) ((((List.zipWith (· + ·) W B).take x.1).flatMap le32).map fun b => vU8 b) :: own b1 (.cells (arr vU32 W) 102) :: own b0 (.cells (arr vU32 B) 102) :: H) (fun x => 16 - x.1) (fun x D hp => ?_) (0, .slice none 0 0) (by decide)) (by repeat' (first | exact trivial | refine And.intro rfl ?_))
    obtain ⟨i, v⟩ := x
    simp only at hp
    refine SX.sr ?_
    refine SL.bin ⟨rfl, rfl, rfl, rfl⟩ rfl rfl Bin.ltI ?_
    refine SL.nx ?_
    refine SX.seq ?_
    refine SX.cond rfl (fun hc3 => ?_) (fun hc3 => ?_)
    · skip
      have hi : i < 16 := by simp at hc3; omega
      refine SX.skip ?_
      refine SQ.thn ?_
      refine SX.seq ?_
      refine SX.block ?_
      refine SX.sr ?_
      refine SL.mv ⟨rfl, rfl, rfl, rfl⟩ rfl ?_
      refine SL.ixA (i := i) ⟨rfl, rfl, rfl, rfl⟩ ty102 sc22 rfl rfl (by omega) (by omega) (arr_get (get_getD 0 (by omega))) ?_
      refine SL.asg ⟨rfl, rfl, rfl, rfl⟩ rfl ?_
      refine SL.asg ⟨rfl, rfl, rfl, rfl⟩ rfl ?_
      refine SL.nx ?_
      refine SX.sr ?_
      refine SL.mv ⟨rfl, rfl, rfl, rfl⟩ rfl ?_
      refine SL.mv ⟨rfl, rfl, rfl, rfl⟩ rfl ?_
      refine SL.iaAp (n := i) ⟨rfl, rfl, rfl, rfl⟩ ty102 sz22 rfl rfl (by omega) (by omega) ?_
      refine SL.ld ⟨rfl, rfl, rfl, rfl⟩ sc22 rfl (cell_own 2 rfl (arr_get (get_getD 0 (by omega)))) ?_
      refine SL.bin ⟨rfl, rfl, rfl, rfl⟩ rfl rfl Bin.add32 ?_
      refine SL.asg ⟨rfl, rfl, rfl, rfl⟩ rfl ?_
      refine SL.nx ?_
      refine SX.region ?_
      refine SL.mv ⟨rfl, rfl, rfl, rfl⟩ rfl ?_
      refine SL.mv ⟨rfl, rfl, rfl, rfl⟩ rfl ?_
      refine SL.cv ⟨rfl, rfl, rfl, rfl⟩ rfl (Cv.u32_8 ty22 ty5) ?_
      refine SL.mv ⟨rfl, rfl, rfl, rfl⟩ rfl ?_
      refine SL.bin ⟨rfl, rfl, rfl, rfl⟩ rfl rfl (Bin.shr32 (n := 8)) ?_
      refine SL.cv ⟨rfl, rfl, rfl, rfl⟩ rfl (Cv.u32_8 ty22 ty5) ?_
      refine SL.mv ⟨rfl, rfl, rfl, rfl⟩ rfl ?_
      refine SL.bin ⟨rfl, rfl, rfl, rfl⟩ rfl rfl (Bin.shr32 (n := 16)) ?_
      refine SL.cv ⟨rfl, rfl, rfl, rfl⟩ rfl (Cv.u32_8 ty22 ty5) ?_
      refine SL.mv ⟨rfl, rfl, rfl, rfl⟩ rfl ?_
      refine SL.bin ⟨rfl, rfl, rfl, rfl⟩ rfl rfl (Bin.shr32 (n := 24)) ?_
      refine SL.cv ⟨rfl, rfl, rfl, rfl⟩ rfl (Cv.u32_8 ty22 ty5) ?_
      refine SL.bsl [_, _, _, _] ⟨rfl, rfl, rfl, rfl⟩ ty41 sz5 ze5 ⟨rfl, rfl, rfl, rfl, trivial⟩ rfl rfl rfl (by simp [Value.cells]) rfl rfl (fun _ => trivial) fun b2 => ?_
      refine SL.app 1 ⟨rfl, rfl, rfl, rfl⟩ (m := 4) (news := (le32 (W.getD i 0 + B.getD i 0)).map fun b => vU8 b) ty41 sz5 by5 ze5 rfl (by decide) rfl rfl rfl rfl (cells_all 0 rfl) (by intro u hu; obtain ⟨x, _, rfl⟩ := List.mem_map.1 hu; rfl) (by omega) (by omega) (fun _ => trivial) fun v' => ?_
      refine SL.asg ⟨rfl, rfl, rfl, rfl⟩ rfl ?_
      refine SL.nil ?_
      refine SQ.blk ?_
      refine SQ.thn ?_
      refine SX.region ?_
      refine SL.bin ⟨rfl, rfl, rfl, rfl⟩ rfl rfl (Bin.addI (by omega) (by omega)) ?_
      refine SL.mv ⟨rfl, rfl, rfl, rfl⟩ rfl ?_
      refine SL.nil ?_
      refine SQ.again (i + 1, v') (by simp only; omega) (by simp only; omega) (by repeat' (first | exact trivial | refine And.intro rfl ?_)) (fun w hw => ?_)
      simp only
      rw [zip_take W B i (by omega) (by omega), List.flatMap_append, List.map_append]
      simp only [List.flatMap_cons, List.flatMap_nil, List.append_nil]
      exact hw.skip [_]
    · skip
      have hi : i = 16 := by simp at hc3; omega
      subst hi
      have ht : (List.zipWith (· + ·) W B).take 16 = List.zipWith (· + ·) W B := List.take_of_length_le (by simp; omega)
      rw [ht]
      refine SX.exit ?_
      refine SQ.thnE ?_
      refine SQ.lpE ?_
      refine SQ.blkE ?_
      refine SQ.thn ?_
      refine SX.sr ?_
      refine SL.mv ⟨rfl, rfl, rfl, rfl⟩ rfl ?_
      refine SL.btsR (s := (List.zipWith (· + ·) W B).flatMap le32) 0 ⟨rfl, rfl, rfl, rfl⟩ ty41 ty5 ty9 rfl rfl ?_
      refine SL.asg ⟨rfl, rfl, rfl, rfl⟩ rfl ?_
      refine SL.asg ⟨rfl, rfl, rfl, rfl⟩ rfl ?_
      refine SL.nx ?_
      refine SX.ret ?_
      exact SQ.fret (res2 rfl rfl rfl) (ret_of (M := []) ⟨by rw [blockA, outA, hBe, hW], rfl⟩ fun _ h => h.skip [_, _, _])

theorem c_arx_Xor (key nonce s : List UInt8) (hk : key.length = 32) (hn : nonce.length = 12) (hs : s.length ≤ 1048576) : Con Tryd.prog K w0 31 [vS key, vS nonce, vS s] [] H (fun r M => r = .tuple #[vS (xorA key nonce s), vI 0] ∧ M = []) := by
  refine Con.enter Tryd.func31 rfl rfl ?_
  refine SX.sr ?_
  refine SL.asg ⟨rfl, rfl, rfl, rfl⟩ rfl ?_
  refine SL.asg ⟨rfl, rfl, rfl, rfl⟩ rfl ?_
  refine SL.nx ?_
  refine SX.seq ?_
  refine SX.sr ?_
  refine SL.mv ⟨rfl, rfl, rfl, rfl⟩ rfl ?_
  refine SL.lenS ⟨rfl, rfl, rfl, rfl⟩ ty9 rfl ?_
  refine SL.bin ⟨rfl, rfl, rfl, rfl⟩ rfl rfl Bin.neI ?_
  refine SL.mv ⟨rfl, rfl, rfl, rfl⟩ rfl ?_
  refine SL.or (c := (!decide ((nonce.length : Int) = 12))) 17 4 21 rfl (fun hb k => ?_) (fun hb k => ?_) ?_
  · skip
    refine SL.pass rfl rfl rfl ?_
    refine SL.pass rfl rfl rfl ?_
    refine SL.pass rfl rfl rfl ?_
    refine SL.pk ⟨rfl, rfl, rfl, rfl⟩ rfl rfl ?_
    exact k.mono (by repeat' (first | exact trivial | refine And.intro rfl ?_))
  · skip
    refine SL.mv ⟨rfl, rfl, rfl, rfl⟩ rfl ?_
    refine SL.lenS ⟨rfl, rfl, rfl, rfl⟩ ty9 rfl ?_
    refine SL.bin ⟨rfl, rfl, rfl, rfl⟩ rfl rfl Bin.neI ?_
    refine SL.pk ⟨rfl, rfl, rfl, rfl⟩ rfl rfl ?_
    exact k.mono (by repeat' (first | exact trivial | refine And.intro rfl ?_))
  refine SL.mv ⟨rfl, rfl, rfl, rfl⟩ rfl ?_
  refine SL.or (c := decide ((1048576 : Int) < s.length)) 22 4 26 rfl (fun hb k => ?_) (fun hb k => ?_) ?_
  · skip
    refine SL.pass rfl rfl rfl ?_
    refine SL.pass rfl rfl rfl ?_
    refine SL.pass rfl rfl rfl ?_
    refine SL.pk ⟨rfl, rfl, rfl, rfl⟩ rfl rfl ?_
    exact k.mono (by repeat' (first | exact trivial | refine And.intro rfl ?_))
  · skip
    refine SL.mv ⟨rfl, rfl, rfl, rfl⟩ rfl ?_
    refine SL.lenS ⟨rfl, rfl, rfl, rfl⟩ ty9 rfl ?_
    refine SL.bin ⟨rfl, rfl, rfl, rfl⟩ rfl rfl Bin.gtI ?_
    refine SL.pk ⟨rfl, rfl, rfl, rfl⟩ rfl rfl ?_
    exact k.mono (by repeat' (first | exact trivial | refine And.intro rfl ?_))
  refine SL.nx ?_
  refine SX.cond rfl (fun hc1 => absurd hc1 (by simp [hk, hn]; omega)) (fun hc1 => ?_)
  refine SX.skip ?_
  refine SQ.thn ?_
  refine SX.sr ?_
  refine SL.alloc ⟨rfl, rfl, rfl, rfl⟩ ze53 (fun _ => trivial) fun b0 => ?_
  refine SL.nx ?_
  refine SX.seq ?_
  refine SX.sr ?_
  refine SL.asg ⟨rfl, rfl, rfl, rfl⟩ rfl ?_
  refine SL.nx ?_
  refine SX.block ?_
  refine SX.nilRow 5 1 ?_
  refine SX.pick [1, 0] 2 ?_
  have hxl := xorA_length key nonce s
  refine SX.mono (SX.loop (α := Nat × Value × Value) (fun x => 64 * x.1 < s.length + 64 ∧ adr b0 x.2.1) (fun x => [(0, vS key), (1, vS nonce), (2, vS (s.drop (64 * x.1))), (8, vP b0 0), (9, vU32 (UInt32.ofNat x.1))]) (fun x => own b0 (.cells #[x.2.1, x.2.2] 53) :: rowC 5 1 x.2.2 (min (64 * x.1) s.length) (((xorA key nonce s).take (min (64 * x.1) s.length)).map fun b => vU8 b) :: H) (fun x => s.length + 64 - 64 * x.1) (fun x D hp => ?_) (0, .pointer none, .slice none 0 0) ⟨by simp, .inl rfl⟩) ⟨rfl, rfl, rfl, rfl, rfl, trivial⟩
  obtain ⟨j, p, v⟩ := x
  obtain ⟨hj, hadr⟩ := hp
  simp only at hj hadr
  refine SX.seq ?_
  refine SX.sr ?_
  refine SL.mv ⟨rfl, rfl, rfl, rfl⟩ rfl ?_
  refine SL.bin ⟨rfl, rfl, rfl, rfl⟩ rfl rfl (Bin.neS (t := [])) ?_
  refine SL.nx ?_
  refine SX.cond rfl (fun hc2 => ?_) (fun hc2 => ?_)
  · skip
    have hjl : 64 * j < s.length := by simp at hc2; omega
    have hmin : min (64 * j) s.length = 64 * j := by omega
    rw [hmin]
    refine SX.skip ?_
    refine SQ.thn ?_
    refine SX.seq ?_
    refine SX.block ?_
    refine SX.sr ?_
    refine SL.mv ⟨rfl, rfl, rfl, rfl⟩ rfl ?_
    refine SL.mv ⟨rfl, rfl, rfl, rfl⟩ rfl ?_
    refine SL.mv ⟨rfl, rfl, rfl, rfl⟩ rfl ?_
    refine SL.call (vs := [_, _, _]) (Hin := []) ⟨rfl, rfl, rfl, rfl⟩ rfl ⟨rfl, rfl, rfl, trivial⟩ cal50 rfl rfl (c_arx_Block key nonce (UInt32.ofNat j) hk hn) ?_
    rintro _ _ ⟨rfl, rfl⟩
    refine ⟨trivial, ?_⟩
    have hbl := blockA_length (counter := UInt32.ofNat j) hk hn
    refine SL.mv ⟨rfl, rfl, rfl, rfl⟩ rfl ?_
    refine SL.ext ⟨rfl, rfl, rfl, rfl⟩ rfl rfl ?_
    refine SL.ext ⟨rfl, rfl, rfl, rfl⟩ rfl rfl ?_
    refine SL.asg ⟨rfl, rfl, rfl, rfl⟩ rfl ?_
    refine SL.asg ⟨rfl, rfl, rfl, rfl⟩ rfl ?_
    refine SL.nx ?_
    refine SX.sr ?_
    refine SL.mv ⟨rfl, rfl, rfl, rfl⟩ rfl ?_
    refine SL.mv ⟨rfl, rfl, rfl, rfl⟩ rfl ?_
    refine SL.lenS ⟨rfl, rfl, rfl, rfl⟩ ty9 rfl ?_
    refine SL.mv ⟨rfl, rfl, rfl, rfl⟩ rfl ?_
    refine SL.lenS ⟨rfl, rfl, rfl, rfl⟩ ty9 rfl ?_
    refine SL.minI ⟨rfl, rfl, rfl, rfl⟩ rfl rfl ?_
    refine SL.slSh (min (s.length - 64 * j) 64) ⟨rfl, rfl, rfl, rfl⟩ ty9 rfl rfl (by simp; omega) (by simp; omega) ?_
    refine SL.asg ⟨rfl, rfl, rfl, rfl⟩ rfl ?_
    refine SL.nx ?_
    refine SX.seq ?_
    refine SX.sr ?_
    refine SL.mv ⟨rfl, rfl, rfl, rfl⟩ rfl ?_
    refine SL.lenS ⟨rfl, rfl, rfl, rfl⟩ ty9 rfl ?_
    refine SL.mv ⟨rfl, rfl, rfl, rfl⟩ rfl ?_
    refine SL.nx ?_
    refine SX.block ?_
    have hpl : ((s.drop (64 * j)).take (min (s.length - 64 * j) 64)).length = min (s.length - 64 * j) 64 := by simp
    refine SX.mono (SX.loop (α := Nat × Value × Value) (fun x => x.1 ≤ min (s.length - 64 * j) 64 ∧ adr b0 x.2.1) (fun x => [(0, vS key), (1, vS nonce), (2, vS (s.drop (64 * j))), (8, vP b0 0), (9, vU32 (UInt32.ofNat j)), (10, vS (blockA key (UInt32.ofNat j) nonce)), (12, vS ((s.drop (64 * j)).take (min (s.length - 64 * j) 64))), (46, vI ((s.drop (64 * j)).take (min (s.length - 64 * j) 64)).length), (47, vI x.1)]) (fun x => own b0 (.cells #[x.2.1, x.2.2] 53) :: rowC 5 1 x.2.2 (64 * j + x.1) (((xorA key nonce s).take (64 * j + x.1)).map fun b => vU8 b) :: H) (fun x => 64 - x.1) (fun x D hp => ?_) (0, p, v) ⟨Nat.zero_le _, hadr⟩) (by repeat' (first | exact trivial | refine And.intro rfl ?_))
    obtain ⟨i, p, v⟩ := x
    obtain ⟨hi, hadr⟩ := hp
    simp only at hi hadr
    refine SX.sr ?_
    refine SL.bin ⟨rfl, rfl, rfl, rfl⟩ rfl rfl Bin.ltI ?_
    refine SL.nx ?_
    refine SX.seq ?_
    refine SX.cond rfl (fun hc3 => ?_) (fun hc3 => ?_)
    · skip
      have hil : i < min (s.length - 64 * j) 64 := by simp only [hpl] at hc3; simpa using hc3
      refine SX.skip ?_
      refine SQ.thn ?_
      refine SX.seq ?_
      refine SX.block ?_
      refine SX.sr ?_
      refine SL.mv ⟨rfl, rfl, rfl, rfl⟩ rfl ?_
      refine SL.asg ⟨rfl, rfl, rfl, rfl⟩ rfl ?_
      refine SL.nx ?_
      refine SX.drawI mix [] (Pl.ap [(true, 0), (true, 1), (true, 2), (true, 3), (true, 4), (true, 5), (true, 6)] (.last 7 .nil)) (by kernel_rfl) ?_
      refine SL.mv ⟨rfl, rfl, rfl, rfl⟩ rfl ?_
      refine SL.mv ⟨rfl, rfl, rfl, rfl⟩ rfl ?_
      refine SL.ixS i ⟨rfl, rfl, rfl, rfl⟩ ty9 rfl rfl (by omega) (by omega) ?_
      refine SL.mv ⟨rfl, rfl, rfl, rfl⟩ rfl ?_
      refine SL.mv ⟨rfl, rfl, rfl, rfl⟩ rfl ?_
      refine SL.ixS i ⟨rfl, rfl, rfl, rfl⟩ ty9 rfl rfl (by omega) (by omega) ?_
      refine SL.bin ⟨rfl, rfl, rfl, rfl⟩ rfl rfl Bin.xor8 ?_
      refine SL.last ?_
      have e1 : ((s.drop (64 * j)).take (min (s.length - 64 * j) 64)).getD i 0 = s.getD (64 * j + i) 0 := by
        simp [List.getD_eq_getElem?_getD, hil, show 64 * j + i < s.length by omega]
      have e2 : (blockA key (UInt32.ofNat j) nonce).getD i 0 = streamA key nonce (64 * j + i) := by
        rw [streamA, show (64 * j + i) / 64 = j by omega, show (64 * j + i) % 64 = i by omega]
      rw [e1, e2]
      refine SL.call (vs := [_, _]) (Hin := [_, _]) ⟨rfl, rfl, rfl, rfl⟩ rfl ⟨rfl, rfl, trivial⟩ cal46 rfl rfl (c_WriteByte 53 b0 p v (64 * j + i) _ _ hadr li53 (by omega)) ?_
      rintro _ _ ⟨rfl, v', rfl⟩
      refine ⟨trivial, ?_⟩
      refine SL.nil ?_
      refine SQ.blk ?_
      refine SQ.thn ?_
      refine SX.region ?_
      refine SL.bin ⟨rfl, rfl, rfl, rfl⟩ rfl rfl (Bin.addI (by omega) (by omega)) ?_
      refine SL.mv ⟨rfl, rfl, rfl, rfl⟩ rfl ?_
      refine SL.nil ?_
      refine SQ.again (i + 1, vP b0 0, v') ⟨by simp only; omega, .inr rfl⟩ (by simp only; omega) (by repeat' (first | exact trivial | refine And.intro rfl ?_)) (fun w hw => ?_)
      simp only
      rw [← Nat.add_assoc, xorA_step key nonce s (64 * j + i) (by omega), List.map_append]
      exact hw
    · skip
      have hie : i = min (s.length - 64 * j) 64 := by simp only [hpl] at hc3; simp at hc3; omega
      refine SX.exit ?_
      refine SQ.thnE ?_
      refine SQ.lpE ?_
      refine SQ.blkE ?_
      refine SQ.thn ?_
      refine SX.region ?_
      refine SL.mv ⟨rfl, rfl, rfl, rfl⟩ rfl ?_
      refine SL.mv ⟨rfl, rfl, rfl, rfl⟩ rfl ?_
      refine SL.lenS ⟨rfl, rfl, rfl, rfl⟩ ty9 rfl ?_
      refine SL.slSl (min (s.length - 64 * j) 64) ⟨rfl, rfl, rfl, rfl⟩ ty9 rfl rfl (by rw [hpl]) (by simp; omega) ?_
      rw [List.drop_drop]
      refine SL.asg ⟨rfl, rfl, rfl, rfl⟩ rfl ?_
      refine SL.nil ?_
      refine SQ.blk ?_
      refine SQ.thn ?_
      refine SX.region ?_
      refine SL.mv ⟨rfl, rfl, rfl, rfl⟩ rfl ?_
      refine SL.bin ⟨rfl, rfl, rfl, rfl⟩ rfl rfl (Bin.add32 (b := 1)) ?_
      refine SL.asg ⟨rfl, rfl, rfl, rfl⟩ rfl ?_
      refine SL.nil ?_
      have e1 : s.drop (64 * j + min (s.length - 64 * j) 64) = s.drop (64 * (j + 1)) := by
        rcases Nat.lt_or_ge (s.length - 64 * j) 64 with h | h
        · rw [List.drop_eq_nil_of_le (by omega), List.drop_eq_nil_of_le (by omega)]
        · rw [show 64 * j + min (s.length - 64 * j) 64 = 64 * (j + 1) by omega]
      rw [e1, ofNat_succ]
      refine SQ.again (j + 1, p, v) ⟨by simp only; omega, hadr⟩ (by simp only; omega) (by repeat' (first | exact trivial | refine And.intro rfl ?_)) (fun w hw => ?_)
      simp only
      rw [show min (64 * (j + 1)) s.length = 64 * j + i by omega]
      exact hw
  · skip
    have hjl : s.length ≤ 64 * j := by simp at hc2; omega
    have hmin : min (64 * j) s.length = s.length := by omega
    have ht : (xorA key nonce s).take s.length = xorA key nonce s := List.take_of_length_le (by omega)
    rw [hmin, ht]
    refine SX.exit ?_
    refine SQ.thnE ?_
    refine SQ.lpE ?_
    refine SQ.blkE ?_
    refine SQ.thn ?_
    refine SX.sr ?_
    refine SL.call (vs := [_]) (Hin := [_, _]) ⟨rfl, rfl, rfl, rfl⟩ rfl ⟨rfl, trivial⟩ cal25 rfl rfl (c_String 53 b0 p v s.length (xorA key nonce s) (by omega)) ?_
    rintro _ _ ⟨rfl, rfl⟩
    refine ⟨trivial, ?_⟩
    refine SL.asg ⟨rfl, rfl, rfl, rfl⟩ rfl ?_
    refine SL.asg ⟨rfl, rfl, rfl, rfl⟩ rfl ?_
    refine SL.nx ?_
    refine SX.ret ?_
    exact SQ.fret (res2 rfl rfl rfl) (ret_of (M := []) ⟨rfl, rfl⟩ fun _ h => h.skip [_, _])

end Go.Proofs.YtnpnmdbleopikaaDoor

