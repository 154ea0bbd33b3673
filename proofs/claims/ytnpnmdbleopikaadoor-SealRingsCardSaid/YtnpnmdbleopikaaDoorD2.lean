/- Walks of SHA-256's parts of a text, and of the words' bytes. Condition: texts of at most 2^40 bytes. -/
import Derived.Test.YtnpnmdbleopikaaDoorD1
namespace Go.Proofs.YtnpnmdbleopikaaDoor
open Go
variable {K : Nat → Prop} {w0 : World} {H : List Chunk}

def encPart (p : Nat × List UInt8) : List Value := [vI p.1, vS p.2]
theorem q_sha_parts (s : List UInt8) (b : Nat) (hn : s.length ≤ 1099511627776) : Seq Tryd.prog K w0 100 [vP b 0] [own b (.cells #[vS s] 9)] encPart (partsA s) := by
  intro lp J X T hy G h0
  refine Con.enter Tryd.func100 rfl rfl ?_
  refine SX.sr ?_
  refine SL.asg ⟨rfl, rfl, rfl, rfl⟩ rfl ?_
  refine SL.nx ?_
  refine SX.block ?_
  refine SX.mono (SX.loop (α := Nat × List Chunk) (fun x => x.1 ≤ s.length / 64 ∧ J ((partsA s).take x.1) x.2) (fun x => [(0, vY lp), (1, vP b 0), (3, vI (64 * (x.1 + 1) : Nat))]) (fun x => own b (.cells #[vS s] 9) :: (x.2 ++ T)) (fun x => s.length / 64 - x.1) (fun x D hp => ?_) (0, G) ⟨Nat.zero_le _, h0⟩) (by repeat' (first | exact trivial | refine And.intro rfl ?_))
  obtain ⟨i, G⟩ := x
  obtain ⟨hi, hJ⟩ := hp
  simp only at hi hJ
  refine SX.seq ?_
  refine SX.sr ?_
  refine SL.mv ⟨rfl, rfl, rfl, rfl⟩ rfl ?_
  refine SL.ld ⟨rfl, rfl, rfl, rfl⟩ sc9 rfl (cell_own 0 rfl rfl) ?_
  refine SL.lenS ⟨rfl, rfl, rfl, rfl⟩ ty9 rfl ?_
  refine SL.bin ⟨rfl, rfl, rfl, rfl⟩ rfl rfl Bin.leI ?_
  refine SL.nx ?_
  refine SX.cond rfl (fun hc1 => ?_) (fun hc1 => ?_)
  · skip
    have hlt : i < s.length / 64 := by simp at hc1; omega
    have hg := partsA_get s i hlt
    refine SX.skip ?_
    refine SQ.thn ?_
    refine SX.seq ?_
    refine SX.block ?_
    refine SX.sr ?_
    refine SL.mv ⟨rfl, rfl, rfl, rfl⟩ rfl ?_
    refine SL.mv ⟨rfl, rfl, rfl, rfl⟩ rfl ?_
    refine SL.ld ⟨rfl, rfl, rfl, rfl⟩ sc9 rfl (cell_own 0 rfl rfl) ?_
    refine SL.mv ⟨rfl, rfl, rfl, rfl⟩ rfl ?_
    refine SL.bin ⟨rfl, rfl, rfl, rfl⟩ rfl rfl (Bin.subI (by omega) (by omega)) ?_
    refine SL.mv ⟨rfl, rfl, rfl, rfl⟩ rfl ?_
    refine SL.slS (64 * i) (64 * (i + 1)) ⟨rfl, rfl, rfl, rfl⟩ ty9 rfl rfl rfl (by omega) (by omega) (by omega) (by omega) ?_
    have ht : 64 * (i + 1) - 64 * i = 64 := by omega
    rw [ht]
    refine SL.yld (M2 := [_]) (G := G) (T := T) (vs := [_, _]) (ok := fun G1 => J ((partsA s).take (i + 1)) G1) (no := X) ⟨rfl, rfl, rfl, rfl⟩ rfl ⟨rfl, rfl, trivial⟩ rfl ?_ (fun bb G1 hG1 => ⟨trivial, ?_⟩)
    · intro M
      have := hy _ _ _ (take_split hg).1 G hJ M
      rw [← (take_split hg).2] at this
      exact this
    refine SL.not ⟨rfl, rfl, rfl, rfl⟩ rfl ?_
    refine SL.nx ?_
    refine SX.cond rfl (fun hc2 => ?_) (fun hc2 => ?_)
    · skip
      obtain rfl : bb = false := by simpa using hc2
      refine SX.ret ?_
      refine SQ.blkR ?_
      refine SQ.thnR ?_
      refine SQ.lpR ?_
      refine SQ.blkR ?_
      exact SQ.fret (res0 rfl) (ret_of (M := G1) (.inr hG1) fun _ h => h.skip [_])
    · skip
      obtain rfl : bb = true := by simpa using hc2
      refine SX.skip ?_
      refine SQ.blk ?_
      refine SQ.thn ?_
      refine SX.region ?_
      refine SL.mv ⟨rfl, rfl, rfl, rfl⟩ rfl ?_
      refine SL.bin ⟨rfl, rfl, rfl, rfl⟩ rfl rfl (Bin.addI (by omega) (by omega)) ?_
      refine SL.asg ⟨rfl, rfl, rfl, rfl⟩ rfl ?_
      refine SL.nil ?_
      refine SQ.again (i + 1, G1) ⟨hlt, hG1⟩ (by simp only; omega) ⟨rfl, rfl, ?_, trivial⟩
      have e : ((64 * (i + 1) : Nat) : Int) + 64 = ((64 * (i + 1 + 1) : Nat) : Int) := by omega
      simp only [look, Nat.beq, cond_true]
      rw [← e]
  · skip
    refine SX.exit ?_
    refine SQ.thnE ?_
    refine SQ.lpE ?_
    refine SQ.blkE ?_
    have hle : i = s.length / 64 := by simp at hc1; omega
    exact SQ.fend (res0 rfl) (ret_of (M := G) (.inl (by rw [List.take_of_length_le (by rw [partsA_length]; omega)] at hJ; exact hJ)) fun _ h => h.skip [_])

theorem c_sha_parts (s : List UInt8) : Con Tryd.prog K w0 89 [vS s] [] H (fun r M => ∃ b, r = .func (.func 100) #[] #[vP b 0] ∧ M = [own b (.cells #[vS s] 9)]) := by
  refine Con.enter Tryd.func89 rfl rfl ?_
  refine SX.sr ?_
  refine SL.box ⟨rfl, rfl, rfl, rfl⟩ rfl (fun _ => trivial) fun b0 => ?_
  refine SL.asg ⟨rfl, rfl, rfl, rfl⟩ rfl ?_
  refine SL.nx ?_
  refine SX.sr ?_
  refine SL.mkf (fv := #[]) (cv := #[_]) ⟨rfl, rfl, rfl, rfl⟩ rfl rfl ?_
  refine SL.asg ⟨rfl, rfl, rfl, rfl⟩ rfl ?_
  refine SL.nx ?_
  refine SX.ret ?_
  exact SQ.fret (res1 rfl rfl) (ret_of (M := [_]) ⟨b0, rfl, rfl⟩ fun _ h => h)

theorem c_sha_bytes (h : St8) (tl : List Value) (b : Nat) (e : TypeId) : Con Tryd.prog K w0 90 [vP b 0] [own b (.cells (arrT vU32 h.list tl) e)] H (fun r M => r = vS (h.list.flatMap beBytes) ∧ M = [own b (.cells (arrT vU32 h.list tl) e)]) := by
  refine Con.enter Tryd.func90 rfl rfl ?_
  refine SX.sr ?_
  refine SL.asg ⟨rfl, rfl, rfl, rfl⟩ rfl ?_
  refine SL.nx ?_
  refine SX.sr ?_
  refine SL.asg ⟨rfl, rfl, rfl, rfl⟩ rfl ?_
  refine SL.nx ?_
  refine SX.seq ?_
  refine SX.sr ?_
  refine SL.mv ⟨rfl, rfl, rfl, rfl⟩ rfl ?_
  refine SL.mv ⟨rfl, rfl, rfl, rfl⟩ rfl ?_
  refine SL.nx ?_
  refine SX.block ?_
  refine SX.nilRow 5 1 ?_
  refine SX.mono (SX.loop (α := Nat × Value) (fun x => x.1 ≤ 8) (fun x => [(3, x.2), (6, vP b 0), (7, vI x.1)]) (fun x => rowC 5 1 x.2 (4 * x.1) (((h.list.take x.1).flatMap beBytes).map fun b => vU8 b) :: own b (.cells (arrT vU32 h.list tl) e) :: H) (fun x => 8 - x.1) (fun x D hp => ?_) (0, .slice none 0 0) (by decide)) (by repeat' (first | exact trivial | refine And.intro rfl ?_))
  obtain ⟨i, v⟩ := x
  simp only at hp
  refine SX.sr ?_
  refine SL.bin ⟨rfl, rfl, rfl, rfl⟩ rfl rfl Bin.ltI ?_
  refine SL.nx ?_
  refine SX.seq ?_
  refine SX.cond rfl (fun hc1 => ?_) (fun hc1 => ?_)
  · skip
    have hlt : i < 8 := by simp at hc1; omega
    refine SX.skip ?_
    refine SQ.thn ?_
    refine SX.seq ?_
    refine SX.block ?_
    refine SX.sr ?_
    refine SL.nchk ⟨rfl, rfl, rfl, rfl⟩ rfl ?_
    refine SL.iaAp (n := i) ⟨rfl, rfl, rfl, rfl⟩ ty109 sz22 rfl rfl (by omega) (by omega) ?_
    refine SL.ld ⟨rfl, rfl, rfl, rfl⟩ sc22 rfl (cell_own 1 rfl (arrT_app 0 hlt)) ?_
    refine SL.asg ⟨rfl, rfl, rfl, rfl⟩ rfl ?_
    refine SL.nx ?_
    refine SX.region ?_
    refine SL.mv ⟨rfl, rfl, rfl, rfl⟩ rfl ?_
    refine SL.mv ⟨rfl, rfl, rfl, rfl⟩ rfl ?_
    refine SL.bin ⟨rfl, rfl, rfl, rfl⟩ rfl rfl (Bin.shr32 (n := 24)) ?_
    refine SL.cv ⟨rfl, rfl, rfl, rfl⟩ rfl (Cv.u32_8 ty22 ty5) ?_
    refine SL.mv ⟨rfl, rfl, rfl, rfl⟩ rfl ?_
    refine SL.bin ⟨rfl, rfl, rfl, rfl⟩ rfl rfl (Bin.shr32 (n := 16)) ?_
    refine SL.cv ⟨rfl, rfl, rfl, rfl⟩ rfl (Cv.u32_8 ty22 ty5) ?_
    refine SL.mv ⟨rfl, rfl, rfl, rfl⟩ rfl ?_
    refine SL.bin ⟨rfl, rfl, rfl, rfl⟩ rfl rfl (Bin.shr32 (n := 8)) ?_
    refine SL.cv ⟨rfl, rfl, rfl, rfl⟩ rfl (Cv.u32_8 ty22 ty5) ?_
    refine SL.mv ⟨rfl, rfl, rfl, rfl⟩ rfl ?_
    refine SL.cv ⟨rfl, rfl, rfl, rfl⟩ rfl (Cv.u32_8 ty22 ty5) ?_
    refine SL.bsl [_, _, _, _] ⟨rfl, rfl, rfl, rfl⟩ ty41 sz5 ze5 ⟨rfl, rfl, rfl, rfl, trivial⟩ rfl rfl rfl (by simp [Value.cells]) rfl rfl (fun _ => trivial) fun b0 => ?_
    refine SL.app 1 ⟨rfl, rfl, rfl, rfl⟩ (m := 4) (news := (beBytes (h.list.getD i 0)).map fun b => vU8 b) ty41 sz5 by5 ze5 rfl (by decide) rfl rfl rfl rfl (cells_all 0 rfl) (by intro u hu; obtain ⟨x, _, rfl⟩ := List.mem_map.1 hu; rfl) (by omega) (by omega) (fun _ => trivial) fun v' => ?_
    refine SL.asg ⟨rfl, rfl, rfl, rfl⟩ rfl ?_
    refine SL.nil ?_
    refine SQ.blk ?_
    refine SQ.thn ?_
    refine SX.region ?_
    refine SL.bin ⟨rfl, rfl, rfl, rfl⟩ rfl rfl (Bin.addI (by omega) (by omega)) ?_
    refine SL.mv ⟨rfl, rfl, rfl, rfl⟩ rfl ?_
    refine SL.nil ?_
    refine SQ.again (i + 1, v') (by simp only; omega) (by simp only; omega) ⟨rfl, rfl, rfl, trivial⟩ (fun w hw => by
      have e1 : h.list.take (i + 1) = h.list.take i ++ [h.list.getD i 0] := by
        rw [List.take_add_one, List.getD_eq_getElem?_getD, List.getElem?_eq_getElem (show i < h.list.length from hlt)]
        rfl
      simp only
      rw [e1, List.flatMap_append, List.map_append]
      simp only [List.flatMap_cons, List.flatMap_nil, List.append_nil]
      exact hw.skip [_])
  · skip
    have hi : i = 8 := by simp at hc1; omega
    subst hi
    refine SX.exit ?_
    refine SQ.thnE ?_
    refine SQ.lpE ?_
    refine SQ.blkE ?_
    refine SQ.thn ?_
    refine SX.sr ?_
    refine SL.mv ⟨rfl, rfl, rfl, rfl⟩ rfl ?_
    refine SL.btsR (s := h.list.flatMap beBytes) 0 ⟨rfl, rfl, rfl, rfl⟩ ty41 ty5 ty9 rfl rfl ?_
    refine SL.asg ⟨rfl, rfl, rfl, rfl⟩ rfl ?_
    refine SL.nx ?_
    refine SX.ret ?_
    exact SQ.fret (res1 rfl rfl) (ret_of (M := [_]) ⟨rfl, rfl⟩ fun _ h => h.skip [_])

end Go.Proofs.YtnpnmdbleopikaaDoor

