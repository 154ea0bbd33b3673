/- Walks of the head of bytes. No condition. -/
import Derived.Test.YtnpnmdbleopikaaDoorH0
namespace Go.Proofs.YtnpnmdbleopikaaDoor
open Go
variable {K : Nat → Prop} {w0 : World} {H : List Chunk}

def encIN (p : Nat × UInt64) : List Value := [vI p.1, vU64 p.2]
theorem five {i : Nat} (h : i < 5) : i = 0 ∨ i = 1 ∨ i = 2 ∨ i = 3 ∨ i = 4 := by omega
theorem q_seal_fields (s : List UInt8) (b : Nat) (hs : s.length = 24) : Seq Tryd.prog K w0 45 [vP b 0] [own b (.cells #[vS s] 9)] encIN (fieldsA s) := by
  intro lp J X T1 hy G h0
  refine Con.enter Tryd.func45 rfl rfl ?_
  refine SX.sr ?_
  refine SL.bldU [vI 4, vI 4, vI 4, vI 8, vI 4] ⟨rfl, rfl, rfl, rfl⟩ ty71 sz3 ze71 rfl ⟨rfl, rfl, rfl, rfl, rfl, trivial⟩ rfl rfl (by simp [Value.cells]) ?_
  refine SL.mv ⟨rfl, rfl, rfl, rfl⟩ rfl ?_
  refine SL.nx ?_
  refine SX.block ?_
  refine SX.mono (SX.loop (α := Nat × List Chunk) (fun x => x.1 ≤ 5 ∧ J ((fieldsA s).take x.1) x.2) (fun x => [(0, vY lp), (1, vP b 0), (7, .agg #[vI 4, vI 4, vI 4, vI 8, vI 4]), (8, vI x.1)]) (fun x => own b (.cells #[vS (s.drop (offA x.1))] 9) :: (x.2 ++ T1)) (fun x => 5 - x.1) (fun x D hp => ?_) (0, G) ⟨Nat.zero_le _, h0⟩) (by repeat' (first | exact trivial | refine And.intro rfl ?_))
  obtain ⟨i, G⟩ := x
  obtain ⟨hi, hJ⟩ := hp
  simp only at hi hJ
  refine SX.sr ?_
  refine SL.bin ⟨rfl, rfl, rfl, rfl⟩ rfl rfl Bin.ltI ?_
  refine SL.nx ?_
  refine SX.seq ?_
  refine SX.cond rfl (fun hc1 => ?_) (fun hc1 => ?_)
  · skip
    have hlt : i < 5 := by simp at hc1; omega
    have hg := fieldsA_get s i hlt
    have hoff : offA i + widA i ≤ 24 := by rcases five hlt with rfl | rfl | rfl | rfl | rfl <;> decide
    have hw8 : widA i ≤ 8 := by rcases five hlt with rfl | rfl | rfl | rfl | rfl <;> decide
    have hwid : (#[vI 4, vI 4, vI 4, vI 8, vI 4] : Array Value)[i]? = some (vI (widA i : Nat)) := by rcases five hlt with rfl | rfl | rfl | rfl | rfl <;> rfl
    refine SX.skip ?_
    refine SQ.thn ?_
    refine SX.seq ?_
    refine SX.block ?_
    refine SX.sr ?_
    refine SL.mv ⟨rfl, rfl, rfl, rfl⟩ rfl ?_
    refine SL.ixA (i := i) ⟨rfl, rfl, rfl, rfl⟩ ty71 sc3 rfl rfl (by omega) (by omega) hwid ?_
    refine SL.asg ⟨rfl, rfl, rfl, rfl⟩ rfl ?_
    refine SL.asg ⟨rfl, rfl, rfl, rfl⟩ rfl ?_
    refine SL.nx ?_
    refine SX.sr ?_
    refine SL.asg ⟨rfl, rfl, rfl, rfl⟩ rfl ?_
    refine SL.nx ?_
    refine SX.seq ?_
    refine SX.sr ?_
    refine SL.mv ⟨rfl, rfl, rfl, rfl⟩ rfl ?_
    refine SL.mv ⟨rfl, rfl, rfl, rfl⟩ rfl ?_
    refine SL.nx ?_
    refine SX.block ?_
    refine SX.mono (SX.loop (α := Nat) (fun k => k ≤ widA i) (fun k => [(0, vY lp), (1, vP b 0), (3, vI i), (4, vI (widA i : Nat)), (5, vU64 (leGetN (s.drop (offA i)) k)), (7, .agg #[vI 4, vI 4, vI 4, vI 8, vI 4]), (8, vI i), (12, vI (widA i : Nat)), (13, vI k)]) (fun k => own b (.cells #[vS (s.drop (offA i))] 9) :: (G ++ T1)) (fun k => widA i - k) (fun k D hp => ?_) 0 (Nat.zero_le _)) (by repeat' (first | exact trivial | refine And.intro rfl ?_))
    refine SX.sr ?_
    refine SL.bin ⟨rfl, rfl, rfl, rfl⟩ rfl rfl Bin.ltI ?_
    refine SL.nx ?_
    refine SX.seq ?_
    refine SX.cond rfl (fun hc2 => ?_) (fun hc2 => ?_)
    · skip
      have hk : k < widA i := by simpa using hc2
      refine SX.skip ?_
      refine SQ.thn ?_
      refine SX.seq ?_
      refine SX.block ?_
      refine SX.sr ?_
      refine SL.mv ⟨rfl, rfl, rfl, rfl⟩ rfl ?_
      refine SL.asg ⟨rfl, rfl, rfl, rfl⟩ rfl ?_
      refine SL.nx ?_
      refine SX.region ?_
      refine SL.mv ⟨rfl, rfl, rfl, rfl⟩ rfl ?_
      refine SL.ld ⟨rfl, rfl, rfl, rfl⟩ sc9 rfl (cell_own 0 rfl rfl) ?_
      refine SL.mv ⟨rfl, rfl, rfl, rfl⟩ rfl ?_
      refine SL.ixS k ⟨rfl, rfl, rfl, rfl⟩ ty9 rfl rfl (by omega) (by simp; omega) ?_
      refine SL.cv ⟨rfl, rfl, rfl, rfl⟩ rfl (Cv.u8_64 ty5 ty23) ?_
      refine SL.mv ⟨rfl, rfl, rfl, rfl⟩ rfl ?_
      refine SL.bin ⟨rfl, rfl, rfl, rfl⟩ rfl rfl (Bin.mulI (by omega) (by omega)) ?_
      refine SL.bin ⟨rfl, rfl, rfl, rfl⟩ rfl rfl (Bin.shl64 (n := (8 * k))) ?_
      refine SL.bin ⟨rfl, rfl, rfl, rfl⟩ rfl rfl Bin.or64 ?_
      refine SL.asg ⟨rfl, rfl, rfl, rfl⟩ rfl ?_
      refine SL.nil ?_
      refine SQ.blk ?_
      refine SQ.thn ?_
      refine SX.region ?_
      refine SL.bin ⟨rfl, rfl, rfl, rfl⟩ rfl rfl (Bin.addI (by omega) (by omega)) ?_
      refine SL.mv ⟨rfl, rfl, rfl, rfl⟩ rfl ?_
      refine SL.nil ?_
      exact SQ.again (k + 1) hk (by omega) (by repeat' (first | exact trivial | refine And.intro rfl ?_))
    · skip
      have hk : k = widA i := by simp at hc2; omega
      subst hk
      refine SX.exit ?_
      refine SQ.thnE ?_
      refine SQ.lpE ?_
      refine SQ.blkE ?_
      refine SQ.thn ?_
      refine SX.seq ?_
      refine SX.sr ?_
      refine SL.mv ⟨rfl, rfl, rfl, rfl⟩ rfl ?_
      refine SL.mv ⟨rfl, rfl, rfl, rfl⟩ rfl ?_
      refine SL.mv ⟨rfl, rfl, rfl, rfl⟩ rfl ?_
      refine SL.yld (M2 := [_]) (G := G) (T := T1) (vs := [_, _]) (ok := fun G1 => J ((fieldsA s).take (i + 1)) G1) (no := X) ⟨rfl, rfl, rfl, rfl⟩ rfl ⟨rfl, rfl, trivial⟩ rfl ?_ (fun bb G1 hG1 => ⟨trivial, ?_⟩)
      · intro M
        have := hy _ _ _ (take_split hg).1 G hJ M
        rw [← (take_split hg).2] at this
        exact this
      refine SL.not ⟨rfl, rfl, rfl, rfl⟩ rfl ?_
      refine SL.nx ?_
      refine SX.cond rfl (fun hc3 => ?_) (fun hc3 => ?_)
      · skip
        obtain rfl : bb = false := by simpa using hc3
        refine SX.ret ?_
        refine SQ.thnR ?_
        refine SQ.blkR ?_
        refine SQ.thnR ?_
        refine SQ.lpR ?_
        refine SQ.blkR ?_
        exact SQ.fret (res0 rfl) (ret_of (M := G1) (.inr hG1) fun _ h => h.skip [_])
      · skip
        obtain rfl : bb = true := by simpa using hc3
        refine SX.skip ?_
        refine SQ.thn ?_
        refine SX.region ?_
        refine SL.ld ⟨rfl, rfl, rfl, rfl⟩ sc9 rfl (cell_own 0 rfl rfl) ?_
        refine SL.mv ⟨rfl, rfl, rfl, rfl⟩ rfl ?_
        refine SL.slSl (widA i) ⟨rfl, rfl, rfl, rfl⟩ ty9 rfl rfl (by omega) (by simp; omega) ?_
        rw [List.drop_drop]
        refine SL.st 0 ⟨rfl, rfl, rfl⟩ rfl rfl rfl sz9 rfl rfl rfl trivial ?_
        refine SL.nil ?_
        refine SQ.blk ?_
        refine SQ.thn ?_
        refine SX.region ?_
        refine SL.bin ⟨rfl, rfl, rfl, rfl⟩ rfl rfl (Bin.addI (by omega) (by omega)) ?_
        refine SL.mv ⟨rfl, rfl, rfl, rfl⟩ rfl ?_
        refine SL.nil ?_
        exact SQ.again (i + 1, G1) ⟨hlt, hG1⟩ (by simp only; omega) (by repeat' (first | exact trivial | refine And.intro rfl ?_))
  · skip
    have hle : i = 5 := by simp at hc1; omega
    refine SX.exit ?_
    refine SQ.thnE ?_
    refine SQ.lpE ?_
    refine SQ.blkE ?_
    exact SQ.fend (res0 rfl) (ret_of (M := G) (.inl (by rw [List.take_of_length_le (by rw [fieldsA_length]; omega)] at hJ; exact hJ)) fun _ h => h.skip [_])

theorem c_seal_fields (s : List UInt8) : Con Tryd.prog K w0 22 [vS s] [] H (fun r M => ∃ b, r = .func (.func 45) #[] #[vP b 0] ∧ M = [own b (.cells #[vS s] 9)]) := by
  refine Con.enter Tryd.func22 rfl rfl ?_
  refine SX.sr ?_
  refine SL.box ⟨rfl, rfl, rfl, rfl⟩ rfl (fun _ => trivial) fun b0 => ?_
  refine SL.asg ⟨rfl, rfl, rfl, rfl⟩ rfl ?_
  refine SL.nx ?_
  refine SX.sr ?_
  refine SL.mkf (fv := #[]) (cv := #[_]) ⟨rfl, rfl, rfl, rfl⟩ rfl rfl ?_
  refine SL.asg ⟨rfl, rfl, rfl, rfl⟩ rfl ?_
  refine SL.nx ?_
  refine SX.ret ?_
  exact SQ.fret (res1 rfl rfl) (ret_of (M := [_]) ⟨b0, rfl, rfl⟩ fun _ h => h)

theorem c_seal_Get (s : List UInt8) : Con Tryd.prog K w0 11 [vS s] [] H (fun r M => r = .tuple #[.agg (encHead (getA s).1).toArray, vB (getA s).2] ∧ M = []) := by
  refine Con.enter Tryd.func11 rfl rfl ?_
  refine SX.sr ?_
  refine SL.alloc ⟨rfl, rfl, rfl, rfl⟩ ze25 (fun _ => trivial) fun b0 => ?_
  refine SL.asg ⟨rfl, rfl, rfl, rfl⟩ rfl ?_
  refine SL.nx ?_
  refine SX.scope ?_
  refine SX.sr ?_
  refine SL.alloc ⟨rfl, rfl, rfl, rfl⟩ ze25 (fun _ => trivial) fun b1 => ?_
  refine SL.nx ?_
  refine SX.seq ?_
  refine SX.sr ?_
  refine SL.mv ⟨rfl, rfl, rfl, rfl⟩ rfl ?_
  refine SL.lenS ⟨rfl, rfl, rfl, rfl⟩ ty9 rfl ?_
  refine SL.bin ⟨rfl, rfl, rfl, rfl⟩ rfl rfl Bin.neI ?_
  refine SL.nx ?_
  refine SX.cond rfl (fun hc1 => ?_) (fun hc1 => ?_)
  · skip
    have hs : getA s = (head0, false) := by unfold getA; rw [if_neg (fun h => by simp at hc1; omega)]
    rw [hs]
    refine SX.sr ?_
    refine SL.ldA (encHead head0) ⟨rfl, rfl, rfl, rfl⟩ ag25 rfl rfl (cells_all 0 rfl) ?_
    refine SL.st 1 ⟨rfl, rfl, rfl⟩ rfl rfl rfl sz25 rfl rfl rfl trivial ?_
    refine SL.asg ⟨rfl, rfl, rfl, rfl⟩ rfl ?_
    refine SL.nx ?_
    refine SX.ret ?_
    refine SQ.thnR ?_
    refine SQ.scpR ?_
    exact SQ.fret (resv2 rfl (resv.ag 1 (encHead head0) ag25 rfl rfl rfl rfl) rfl) (ret_of (M := []) ⟨rfl, rfl⟩ fun _ h => h.skip [_, _])
  · skip
    have hs : s.length = 24 := by simp at hc1; omega
    refine SX.skip ?_
    refine SQ.thn ?_
    refine SX.seq ?_
    refine SX.label ?_
    refine SQ.thn ?_
    refine SX.seq ?_
    refine SX.sr ?_
    refine SL.mv ⟨rfl, rfl, rfl, rfl⟩ rfl ?_
    refine SL.call (vs := [_]) (Hin := []) ⟨rfl, rfl, rfl, rfl⟩ rfl ⟨rfl, trivial⟩ cal22 rfl rfl (c_seal_fields s) ?_
    rintro _ _ ⟨bi, rfl, rfl⟩
    refine ⟨trivial, ?_⟩
    refine SL.nx ?_
    refine SX.block ?_
    refine SX.range (enc := encIN) (fieldsA s) (fun pre G => pre.length ≤ 3 ∧ G = own b1 (.cells (encHead (headN s pre.length)).toArray 25) :: own b0 (.cells (encHead head0).toArray 25) :: H) (fun c G => c = .exit 0 ∧ G = own b1 (.cells (encHead (headA s)).toArray 25) :: own b0 (.cells (encHead head0).toArray 25) :: H) rfl cal45 rfl (fun _ => rfl) (q_seal_fields s bi hs) rfl ⟨Nat.zero_le _, rfl⟩ (fun pre x suf G hxs hJ r lp Rest => ?_) (fun G D hJ => ?_) (fun c G D hX => ?_)
    · obtain ⟨hpl, rfl⟩ := hJ
      have hget : (fieldsA s)[pre.length]? = some x := by rw [hxs]; simp
      rw [fieldsA_get s _ (by omega)] at hget
      obtain rfl := Option.some.inj hget
      have hpl2 : (pre ++ [(pre.length, fieldA s pre.length)]).length = pre.length + 1 := by simp
      have hJ2 : ∀ G, G = own b1 (.cells (encHead (headN s (pre.length + 1))).toArray 25) :: own b0 (.cells (encHead head0).toArray 25) :: H → pre.length ≤ 2 → (pre ++ [(pre.length, fieldA s pre.length)]).length ≤ 3 ∧ G = own b1 (.cells (encHead (headN s (pre ++ [(pre.length, fieldA s pre.length)]).length)).toArray 25) :: own b0 (.cells (encHead head0).toArray 25) :: H := fun G hG h => by rw [hpl2]; exact ⟨by omega, hG⟩
      clear hxs hpl2
      generalize pre.length = k at *
      refine SX.sr ?_
      refine SL.asg ⟨rfl, rfl, rfl, rfl⟩ rfl ?_
      refine SL.nx ?_
      refine SX.region ?_
      refine SL.asg ⟨rfl, rfl, rfl, rfl⟩ rfl ?_
      refine SL.nil ?_
      refine SQ.bgn ?_
      refine SX.block ?_
      refine SX.sr ?_
      refine SL.mv ⟨rfl, rfl, rfl, rfl⟩ rfl ?_
      refine SL.nx ?_
      refine SX.block ?_
      refine SX.sr ?_
      refine SL.bin ⟨rfl, rfl, rfl, rfl⟩ rfl rfl Bin.eqI ?_
      refine SL.asg ⟨rfl, rfl, rfl, rfl⟩ rfl ?_
      refine SL.nx ?_
      refine SX.cond rfl (fun hc2 => ?_) (fun hc2 => ?_)
      · skip
        obtain rfl : k = 0 := by simp at hc2; omega
        refine SX.region ?_
        refine SL.mv ⟨rfl, rfl, rfl, rfl⟩ rfl ?_
        refine SL.cv ⟨rfl, rfl, rfl, rfl⟩ rfl (Cv.u64_32 ty23 ty22) ?_
        refine SL.fa ⟨rfl, rfl, rfl, rfl⟩ rfl fo25_0 ?_
        refine SL.st 0 ⟨rfl, rfl, rfl⟩ rfl rfl rfl sz22 rfl rfl rfl trivial ?_
        refine SL.nil ?_
        refine SQ.blk ?_
        refine SQ.blk ?_
        exact SQ.rndN (hJ2 _ rfl (by omega)) (fun _ h => h)
      · skip
        have hk0 : k ≠ 0 := by simp at hc2; omega
        refine SX.sr ?_
        refine SL.bin ⟨rfl, rfl, rfl, rfl⟩ rfl rfl Bin.eqI ?_
        refine SL.asg ⟨rfl, rfl, rfl, rfl⟩ rfl ?_
        refine SL.nx ?_
        refine SX.cond rfl (fun hc3 => ?_) (fun hc3 => ?_)
        · skip
          obtain rfl : k = 1 := by simp at hc3; omega
          refine SX.region ?_
          refine SL.mv ⟨rfl, rfl, rfl, rfl⟩ rfl ?_
          refine SL.cv ⟨rfl, rfl, rfl, rfl⟩ rfl (Cv.u64_32 ty23 ty22) ?_
          refine SL.fa ⟨rfl, rfl, rfl, rfl⟩ rfl fo25_1 ?_
          refine SL.st 0 ⟨rfl, rfl, rfl⟩ rfl rfl rfl sz22 rfl rfl rfl trivial ?_
          refine SL.nil ?_
          refine SQ.blk ?_
          refine SQ.blk ?_
          exact SQ.rndN (hJ2 _ rfl (by omega)) (fun _ h => h)
        · skip
          have hk1 : k ≠ 1 := by simp at hc3; omega
          refine SX.sr ?_
          refine SL.bin ⟨rfl, rfl, rfl, rfl⟩ rfl rfl Bin.eqI ?_
          refine SL.asg ⟨rfl, rfl, rfl, rfl⟩ rfl ?_
          refine SL.nx ?_
          refine SX.cond rfl (fun hc4 => ?_) (fun hc4 => ?_)
          · skip
            obtain rfl : k = 2 := by simp at hc4; omega
            refine SX.region ?_
            refine SL.mv ⟨rfl, rfl, rfl, rfl⟩ rfl ?_
            refine SL.cv ⟨rfl, rfl, rfl, rfl⟩ rfl (Cv.u64_32 ty23 ty22) ?_
            refine SL.fa ⟨rfl, rfl, rfl, rfl⟩ rfl fo25_2 ?_
            refine SL.st 0 ⟨rfl, rfl, rfl⟩ rfl rfl rfl sz22 rfl rfl rfl trivial ?_
            refine SL.nil ?_
            refine SQ.blk ?_
            refine SQ.blk ?_
            exact SQ.rndN (hJ2 _ rfl (by omega)) (fun _ h => h)
          · skip
            have hk2 : k ≠ 2 := by simp at hc4; omega
            refine SX.sr ?_
            refine SL.bin ⟨rfl, rfl, rfl, rfl⟩ rfl rfl Bin.eqI ?_
            refine SL.asg ⟨rfl, rfl, rfl, rfl⟩ rfl ?_
            refine SL.nx ?_
            refine SX.cond rfl (fun hc5 => ?_) (fun hc5 => ?_)
            · skip
              obtain rfl : k = 3 := by simp at hc5; omega
              refine SX.sr ?_
              refine SL.mv ⟨rfl, rfl, rfl, rfl⟩ rfl ?_
              refine SL.fa ⟨rfl, rfl, rfl, rfl⟩ rfl fo25_3 ?_
              refine SL.st 0 ⟨rfl, rfl, rfl⟩ rfl rfl rfl sz23 rfl rfl rfl trivial ?_
              refine SL.nx ?_
              refine SX.exit ?_
              refine SQ.blkO ?_
              refine SQ.blkO ?_
              exact SQ.rndE (G := _ :: _ :: H) ⟨rfl, rfl⟩ (fun _ h => h)
            · exact absurd hc5 (by simp; omega)
    · exact absurd hJ.1 (by rw [fieldsA_length]; omega)
    · obtain ⟨rfl, rfl⟩ := hX
      refine SX.exit ?_
      refine SQ.blkE ?_
      refine SQ.thn ?_
      refine SX.seq ?_
      refine SX.sr ?_
      refine SL.ldA (encHead (headA s)) ⟨rfl, rfl, rfl, rfl⟩ ag25 rfl rfl (cells_all 0 rfl) ?_
      refine SL.call (vs := [_]) (Hin := []) ⟨rfl, rfl, rfl, rfl⟩ rfl ⟨rfl, trivial⟩ cal13 rfl rfl (c_seal_Put (headA s)) ?_
      rintro _ _ ⟨rfl, rfl⟩
      refine ⟨trivial, ?_⟩
      refine SL.mv ⟨rfl, rfl, rfl, rfl⟩ rfl ?_
      refine SL.bin ⟨rfl, rfl, rfl, rfl⟩ rfl rfl Bin.neS ?_
      refine SL.nx ?_
      refine SX.cond rfl (fun hc7 => ?_) (fun hc7 => ?_)
      · skip
        have hg : getA s = (head0, false) := by unfold getA; rw [if_neg (fun h => by simp [h.2] at hc7)]
        rw [hg]
        refine SX.sr ?_
        refine SL.bld [] ⟨rfl, rfl, rfl, rfl⟩ pl25 pk25 ze25 trivial rfl ?_
        refine SL.st 1 ⟨rfl, rfl, rfl⟩ rfl rfl rfl sz25 rfl rfl rfl trivial ?_
        refine SL.asg ⟨rfl, rfl, rfl, rfl⟩ rfl ?_
        refine SL.nx ?_
        refine SX.ret ?_
        refine SQ.thnR ?_
        refine SQ.scpR ?_
        exact SQ.fret (resv2 rfl (resv.ag 1 (encHead head0) ag25 rfl rfl rfl rfl) rfl) (ret_of (M := []) ⟨rfl, rfl⟩ fun _ h => h.skip [_, _])
      · skip
        have hg : getA s = (headA s, true) := by unfold getA; rw [if_pos ⟨hs, by simpa using hc7⟩]
        rw [hg]
        refine SX.skip ?_
        refine SQ.thn ?_
        refine SX.sr ?_
        refine SL.ldA (encHead (headA s)) ⟨rfl, rfl, rfl, rfl⟩ ag25 rfl rfl (cells_all 0 rfl) ?_
        refine SL.st 1 ⟨rfl, rfl, rfl⟩ rfl rfl rfl sz25 rfl rfl rfl trivial ?_
        refine SL.asg ⟨rfl, rfl, rfl, rfl⟩ rfl ?_
        refine SL.nx ?_
        refine SX.ret ?_
        refine SQ.scpR ?_
        exact SQ.fret (resv2 rfl (resv.ag 1 (encHead (headA s)) ag25 rfl rfl rfl rfl) rfl) (ret_of (M := []) ⟨rfl, rfl⟩ fun _ h => h.skip [_, _])

end Go.Proofs.YtnpnmdbleopikaaDoor

