/- The walk of what a sum takes in: bytes behind those that it has. Condition: texts of at most 2^40 bytes. -/
import Derived.Test.YtnpnmdbleopikaaDoorD2
namespace Go.Proofs.YtnpnmdbleopikaaDoor
open Go
variable {K : Nat → Prop} {w0 : World} {H : List Chunk}
theorem c_sha_takes (T : List UInt32) (h : St8) (rest s : List UInt8) (n : Int) (b : Nat) (e : TypeId) (hT : Tab K w0 2 T) (hTl : T.length = 64) (hr : rest.length < 64) (hn : s.length ≤ 1099511627776) : Con Tryd.prog K w0 70 [vP b 0, vS s] [own b (.cells (sumC h rest n) e)] H (fun r M => r = .tuple #[] ∧ M = [own b (.cells (sumC (absorb T h (rest ++ s)).1 (absorb T h (rest ++ s)).2 n) e)]) := by
  refine Con.enter Tryd.func70 rfl rfl ?_
  refine SX.sr ?_
  refine SL.box ⟨rfl, rfl, rfl, rfl⟩ rfl (fun _ => trivial) fun b0 => ?_
  refine SL.box ⟨rfl, rfl, rfl, rfl⟩ rfl (fun _ => trivial) fun b1 => ?_
  refine SL.nx ?_
  refine SX.scope ?_
  refine SX.meet (α := St8 × List UInt8 × List UInt8) (fun x => absorb T x.1 (x.2.1 ++ x.2.2) = absorb T h (rest ++ s) ∧ x.2.1.length < 64 ∧ (x.2.1 ≠ [] → (x.2.1 ++ x.2.2).length < 64) ∧ x.2.2.length ≤ s.length) (fun x => [(2, vP b0 0), (3, vP b1 0)]) (fun x => own b1 (.cells #[vS x.2.2] 9) :: own b0 (.cells #[vP b 0] 105) :: own b (.cells (sumC x.1 x.2.1 n) e) :: H) ?_ (fun x hx => ?_)
  · skip
    refine SX.seq ?_
    refine SX.drawI mix [0, 1, 2] (Pl.of [(true, 0), (true, 1), (true, 2), (true, 3), (true, 4), (true, 5), (true, 6), (true, 7), (true, 8), (true, 9), (true, 10), (true, 11), (true, 12), (true, 13), (true, 14), (true, 15)]) (by kernel_rfl) ?_
    refine SL.ld ⟨rfl, rfl, rfl, rfl⟩ sc105 rfl (cell_own 1 rfl rfl) ?_
    refine SL.nchk ⟨rfl, rfl, rfl, rfl⟩ rfl ?_
    refine SL.fa ⟨rfl, rfl, rfl, rfl⟩ rfl fo111_1 ?_
    refine SL.ld ⟨rfl, rfl, rfl, rfl⟩ sc9 rfl (cell_own 2 rfl rfl) ?_
    refine SL.bin ⟨rfl, rfl, rfl, rfl⟩ rfl rfl (Bin.neS (t := [])) ?_
    refine SL.mv ⟨rfl, rfl, rfl, rfl⟩ rfl ?_
    refine SL.and (c := decide ((64 : Int) ≤ (rest.length : Int) + s.length)) 13 10 23 rfl (fun hb k => ?_) (fun hb k => ?_) ?_
    · skip
      refine SL.ld ⟨rfl, rfl, rfl, rfl⟩ sc105 rfl (cell_own 1 rfl rfl) ?_
      refine SL.nchk ⟨rfl, rfl, rfl, rfl⟩ rfl ?_
      refine SL.fa ⟨rfl, rfl, rfl, rfl⟩ rfl fo111_1 ?_
      refine SL.ld ⟨rfl, rfl, rfl, rfl⟩ sc9 rfl (cell_own 2 rfl rfl) ?_
      refine SL.lenS ⟨rfl, rfl, rfl, rfl⟩ ty9 rfl ?_
      refine SL.ld ⟨rfl, rfl, rfl, rfl⟩ sc9 rfl (cell_own 0 rfl rfl) ?_
      refine SL.lenS ⟨rfl, rfl, rfl, rfl⟩ ty9 rfl ?_
      refine SL.bin ⟨rfl, rfl, rfl, rfl⟩ rfl rfl (Bin.addI (by omega) (by omega)) ?_
      refine SL.bin ⟨rfl, rfl, rfl, rfl⟩ rfl rfl Bin.geI ?_
      refine SL.pk ⟨rfl, rfl, rfl, rfl⟩ rfl rfl ?_
      exact k.mono (by repeat' (first | exact trivial | refine And.intro rfl ?_))
    · skip
      refine SL.pass rfl rfl rfl ?_
      refine SL.pass rfl rfl rfl ?_
      refine SL.pass rfl rfl rfl ?_
      refine SL.pass rfl rfl rfl ?_
      refine SL.pass rfl rfl rfl ?_
      refine SL.pass rfl rfl rfl ?_
      refine SL.pass rfl rfl rfl ?_
      refine SL.pass rfl rfl rfl ?_
      refine SL.pass rfl rfl rfl ?_
      refine SL.pk ⟨rfl, rfl, rfl, rfl⟩ rfl rfl ?_
      exact k.mono (by repeat' (first | exact trivial | refine And.intro rfl ?_))
    refine SL.nx ?_
    refine SX.cond rfl (fun hc1 => ?_) (fun hc1 => ?_)
    · skip
      have hne : rest ≠ [] ∧ 64 ≤ rest.length + s.length := by simp at hc1; exact ⟨hc1.1, by omega⟩
      refine SX.sr ?_
      refine SL.ld ⟨rfl, rfl, rfl, rfl⟩ sc105 rfl (cell_own 1 rfl rfl) ?_
      refine SL.nchk ⟨rfl, rfl, rfl, rfl⟩ rfl ?_
      refine SL.fa ⟨rfl, rfl, rfl, rfl⟩ rfl fo111_1 ?_
      refine SL.ld ⟨rfl, rfl, rfl, rfl⟩ sc9 rfl (cell_own 2 rfl rfl) ?_
      refine SL.lenS ⟨rfl, rfl, rfl, rfl⟩ ty9 rfl ?_
      refine SL.bin ⟨rfl, rfl, rfl, rfl⟩ rfl rfl (Bin.subI (by omega) (by omega)) ?_
      refine SL.asg ⟨rfl, rfl, rfl, rfl⟩ rfl ?_
      refine SL.nx ?_
      refine SX.seq ?_
      refine SX.drawI mix [0, 1, 2] (Pl.ap [(true, 0), (true, 1), (true, 2), (true, 3), (true, 4), (true, 5), (true, 6), (true, 7), (true, 8), (true, 9), (true, 10)] (.last 11 .nil)) (by kernel_rfl) ?_
      refine SL.ld ⟨rfl, rfl, rfl, rfl⟩ sc105 rfl (cell_own 1 rfl rfl) ?_
      refine SL.nchk ⟨rfl, rfl, rfl, rfl⟩ rfl ?_
      refine SL.fa ⟨rfl, rfl, rfl, rfl⟩ rfl fo111_0 ?_
      refine SL.ld ⟨rfl, rfl, rfl, rfl⟩ sc105 rfl (cell_own 1 rfl rfl) ?_
      refine SL.nchk ⟨rfl, rfl, rfl, rfl⟩ rfl ?_
      refine SL.fa ⟨rfl, rfl, rfl, rfl⟩ rfl fo111_1 ?_
      refine SL.ld ⟨rfl, rfl, rfl, rfl⟩ sc9 rfl (cell_own 2 rfl rfl) ?_
      refine SL.ld ⟨rfl, rfl, rfl, rfl⟩ sc9 rfl (cell_own 0 rfl rfl) ?_
      refine SL.mv ⟨rfl, rfl, rfl, rfl⟩ rfl ?_
      refine SL.slSh (64 - rest.length) ⟨rfl, rfl, rfl, rfl⟩ ty9 rfl rfl (by omega) (by omega) ?_
      refine SL.bin ⟨rfl, rfl, rfl, rfl⟩ rfl rfl (Bin.cat (by simp; omega)) ?_
      refine SL.last ?_
      refine SL.pick [2, 0, 1] 3 ?_
      refine SL.call (vs := [_, _]) (Hin := [_]) ⟨rfl, rfl, rfl, rfl⟩ rfl ⟨rfl, rfl, trivial⟩ cal88 rfl rfl (c_sha_lays T h rest (rest ++ s.take (64 - rest.length)) n b e hT hTl (by simp; omega)) ?_
      rintro _ _ ⟨rfl, rfl⟩
      refine ⟨trivial, ?_⟩
      refine SL.pick [1, 2, 0] 3 ?_
      refine SL.nx ?_
      refine SX.drawI mix [0, 1] (Pl.ap [(true, 0), (true, 1), (true, 2), (true, 3), (true, 4), (true, 5), (false, 6)] (.last 7 .nil)) (by kernel_rfl) ?_
      refine SL.ld ⟨rfl, rfl, rfl, rfl⟩ sc105 rfl (cell_own 1 rfl rfl) ?_
      refine SL.ld ⟨rfl, rfl, rfl, rfl⟩ sc9 rfl (cell_own 0 rfl rfl) ?_
      refine SL.mv ⟨rfl, rfl, rfl, rfl⟩ rfl ?_
      refine SL.slSl (64 - rest.length) ⟨rfl, rfl, rfl, rfl⟩ ty9 rfl rfl (by omega) (by omega) ?_
      refine SL.nchk ⟨rfl, rfl, rfl, rfl⟩ rfl ?_
      refine SL.fa ⟨rfl, rfl, rfl, rfl⟩ rfl fo111_1 ?_
      refine SL.st 2 ⟨rfl, rfl, rfl⟩ rfl rfl rfl sz9 rfl rfl rfl ⟨⟨0, rfl⟩, ⟨1, rfl⟩, trivial⟩ ?_
      refine SL.last ?_
      refine SL.st 0 ⟨rfl, rfl, rfl⟩ rfl rfl rfl sz9 rfl rfl rfl trivial ?_
      refine SL.nil ?_
      refine SQ.mid (laysA T h (rest ++ s.take (64 - rest.length)), [], s.drop (64 - rest.length)) ⟨?_, by simp, fun h => absurd rfl h, by simp⟩ (by repeat' (first | exact trivial | refine And.intro rfl ?_))
      have e1 : rest ++ s = (rest ++ s.take (64 - rest.length)) ++ s.drop (64 - rest.length) := by rw [List.append_assoc, List.take_append_drop]
      have e2 := absorb_part (T := T) (h := h) (p := rest ++ s.take (64 - rest.length)) (s := s.drop (64 - rest.length)) (by simp; omega)
      rw [e1, e2]
      rfl
    · skip
      refine SX.skip ?_
      refine SQ.mid (h, rest, s) ⟨rfl, hr, fun hne => ?_, Nat.le_refl _⟩ (by repeat' (first | exact trivial | refine And.intro rfl ?_))
      simp at hc1
      have := hc1 hne
      simp
      omega
  -- live: (2, vP b0 0), (3, vP b1 0)
  · skip
    obtain ⟨h1, r1, s1⟩ := x
    obtain ⟨hx1, hx2, hx3, hx4⟩ := hx
    simp only at hx1 hx2 hx3 hx4
    refine SX.seq ?_
    refine SX.sr ?_
    refine SL.ld ⟨rfl, rfl, rfl, rfl⟩ sc105 rfl (cell_own 1 rfl rfl) ?_
    refine SL.nchk ⟨rfl, rfl, rfl, rfl⟩ rfl ?_
    refine SL.fa ⟨rfl, rfl, rfl, rfl⟩ rfl fo111_1 ?_
    refine SL.ld ⟨rfl, rfl, rfl, rfl⟩ sc9 rfl (cell_own 2 rfl rfl) ?_
    refine SL.bin ⟨rfl, rfl, rfl, rfl⟩ rfl rfl (Bin.neS (t := [])) ?_
    refine SL.nx ?_
    refine SX.cond rfl (fun hc2 => ?_) (fun hc2 => ?_)
    · skip
      have hsh := hx3 (by simpa using hc2)
      rw [absorb_short hsh] at hx1
      rw [← hx1]
      refine SX.seq ?_
      refine SX.drawI mix [0, 1, 2] (Pl.ap [(true, 0), (true, 1), (true, 2), (true, 3), (true, 4), (true, 5), (true, 6), (true, 7)] (.last 8 .nil)) (by kernel_rfl) ?_
      refine SL.ld ⟨rfl, rfl, rfl, rfl⟩ sc105 rfl (cell_own 1 rfl rfl) ?_
      refine SL.nchk ⟨rfl, rfl, rfl, rfl⟩ rfl ?_
      refine SL.fa ⟨rfl, rfl, rfl, rfl⟩ rfl fo111_1 ?_
      refine SL.ld ⟨rfl, rfl, rfl, rfl⟩ sc9 rfl (cell_own 2 rfl rfl) ?_
      refine SL.ld ⟨rfl, rfl, rfl, rfl⟩ sc9 rfl (cell_own 0 rfl rfl) ?_
      refine SL.bin ⟨rfl, rfl, rfl, rfl⟩ rfl rfl (Bin.cat (by simp; omega)) ?_
      refine SL.nchk ⟨rfl, rfl, rfl, rfl⟩ rfl ?_
      refine SL.fa ⟨rfl, rfl, rfl, rfl⟩ rfl fo111_1 ?_
      refine SL.last ?_
      refine SL.st 2 ⟨rfl, rfl, rfl⟩ rfl rfl rfl sz9 rfl rfl rfl trivial ?_
      refine SL.nx ?_
      refine SX.ret ?_
      refine SQ.thnR ?_
      refine SQ.scpR ?_
      exact SQ.fret (res0 rfl) (ret_of (M := [_]) ⟨rfl, rfl⟩ fun _ h => h.skip [_, _])
    · skip
      have hr1 : r1 = [] := by simpa using hc2
      subst hr1
      rw [List.nil_append, absorb_parts] at hx1
      rw [← hx1]
      refine SX.skip ?_
      refine SQ.thn ?_
      refine SX.sr ?_
      refine SL.alloc ⟨rfl, rfl, rfl, rfl⟩ ze3 (fun _ => trivial) fun b2 => ?_
      refine SL.st 0 ⟨rfl, rfl, rfl⟩ rfl rfl rfl sz3 rfl rfl rfl trivial ?_
      refine SL.nx ?_
      refine SX.seq ?_
      refine SX.label ?_
      refine SQ.thn ?_
      refine SX.seq ?_
      refine SX.sr ?_
      refine SL.ld ⟨rfl, rfl, rfl, rfl⟩ sc9 rfl (cell_own 1 rfl rfl) ?_
      refine SL.call (vs := [_]) (Hin := []) ⟨rfl, rfl, rfl, rfl⟩ rfl ⟨rfl, trivial⟩ cal89 rfl rfl (c_sha_parts s1) ?_
      rintro _ _ ⟨bi, rfl, rfl⟩
      refine ⟨trivial, ?_⟩
      refine SL.nx ?_
      refine SX.block ?_
      refine SX.range (enc := encPart) (partsA s1) (fun pre G => G = own b2 (.cells #[vI (64 * pre.length : Nat)] 3) :: own b1 (.cells #[vS s1] 9) :: own b0 (.cells #[vP b 0] 105) :: own b (.cells (sumC (partsN T h1 s1 pre.length) [] n) e) :: H) (fun c G => c = .exit 0 ∧ G = own b2 (.cells #[vI (64 * (s1.length / 64) : Nat)] 3) :: own b1 (.cells #[vS s1] 9) :: own b0 (.cells #[vP b 0] 105) :: own b (.cells (sumC (partsN T h1 s1 (s1.length / 64)) [] n) e) :: H) rfl cal100 rfl (fun _ => rfl) (q_sha_parts s1 bi (by omega)) rfl rfl (fun pre x suf G hxs hJ r lp Rest => ?_) (fun G D hJ => ?_) (fun c G D hX => ?_)
      · obtain rfl := hJ
        have hget : (partsA s1)[pre.length]? = some x := by rw [hxs]; simp
        have hlt : pre.length < s1.length / 64 := by
          have := partsA_length s1
          rw [hxs] at this
          simp at this
          omega
        rw [partsA_get s1 _ hlt] at hget
        obtain rfl := Option.some.inj hget
        refine SX.sr ?_
        refine SL.asg ⟨rfl, rfl, rfl, rfl⟩ rfl ?_
        refine SL.nx ?_
        refine SX.region ?_
        refine SL.asg ⟨rfl, rfl, rfl, rfl⟩ rfl ?_
        refine SL.nil ?_
        refine SQ.bgn ?_
        refine SX.block ?_
        refine SX.sr ?_
        refine SL.ld ⟨rfl, rfl, rfl, rfl⟩ sc105 rfl (cell_own 2 rfl rfl) ?_
        refine SL.nchk ⟨rfl, rfl, rfl, rfl⟩ rfl ?_
        refine SL.fa ⟨rfl, rfl, rfl, rfl⟩ rfl fo111_0 ?_
        refine SL.mv ⟨rfl, rfl, rfl, rfl⟩ rfl ?_
        refine SL.pick [3, 0, 1, 2] 4 ?_
        refine SL.call (vs := [_, _]) (Hin := [_]) ⟨rfl, rfl, rfl, rfl⟩ rfl ⟨rfl, rfl, trivial⟩ cal88 rfl rfl (c_sha_lays T (partsN T h1 s1 pre.length) [] _ n b e hT hTl (by simp; omega)) ?_
        rintro _ _ ⟨rfl, rfl⟩
        refine ⟨trivial, ?_⟩
        refine SL.pick [1, 2, 3, 0] 4 ?_
        refine SL.nx ?_
        refine SX.sr ?_
        refine SL.mv ⟨rfl, rfl, rfl, rfl⟩ rfl ?_
        refine SL.st 0 ⟨rfl, rfl, rfl⟩ rfl rfl rfl sz3 rfl rfl rfl trivial ?_
        refine SL.nx ?_
        refine SX.sr ?_
        refine SL.ld ⟨rfl, rfl, rfl, rfl⟩ sc9 rfl (cell_own 1 rfl rfl) ?_
        refine SL.lenS ⟨rfl, rfl, rfl, rfl⟩ ty9 rfl ?_
        refine SL.mv ⟨rfl, rfl, rfl, rfl⟩ rfl ?_
        refine SL.bin ⟨rfl, rfl, rfl, rfl⟩ rfl rfl (Bin.subI (by omega) (by omega)) ?_
        refine SL.bin ⟨rfl, rfl, rfl, rfl⟩ rfl rfl Bin.ltI ?_
        refine SL.nx ?_
        refine SX.cond rfl (fun hc3 => ?_) (fun hc3 => ?_)
        · skip
          refine SX.exit ?_
          refine SQ.blkO ?_
          have e1 : pre.length + 1 = s1.length / 64 := by simp at hc3; omega
          exact SQ.rndE (G := _ :: _ :: _ :: _ :: H) (by rw [← e1]; exact ⟨rfl, rfl⟩) (fun _ h => h)
        · skip
          refine SX.skip ?_
          refine SQ.blk ?_
          exact SQ.rndN (G := _ :: _ :: _ :: _ :: H) (by rw [show (pre ++ [(64 * (pre.length + 1), (s1.drop (64 * pre.length)).take 64)]).length = pre.length + 1 by simp]; rfl) (fun _ h => h)
      · obtain rfl := hJ
        rw [partsA_length]
        refine SQ.blk ?_
        refine SQ.thn ?_
        refine SX.drawI mix [0, 1, 2] (Pl.ap [(true, 0), (true, 1), (true, 2), (true, 3), (true, 4), (true, 5)] (.last 6 .nil)) (by kernel_rfl) ?_
        refine SL.ld ⟨rfl, rfl, rfl, rfl⟩ sc105 rfl (cell_own 2 rfl rfl) ?_
        refine SL.ld ⟨rfl, rfl, rfl, rfl⟩ sc9 rfl (cell_own 1 rfl rfl) ?_
        refine SL.ld ⟨rfl, rfl, rfl, rfl⟩ sc3 rfl (cell_own 0 rfl rfl) ?_
        refine SL.slSl (64 * (s1.length / 64)) ⟨rfl, rfl, rfl, rfl⟩ ty9 rfl rfl (by omega) (by omega) ?_
        refine SL.nchk ⟨rfl, rfl, rfl, rfl⟩ rfl ?_
        refine SL.fa ⟨rfl, rfl, rfl, rfl⟩ rfl fo111_1 ?_
        refine SL.last ?_
        refine SL.st 3 ⟨rfl, rfl, rfl⟩ rfl rfl rfl sz9 rfl rfl rfl trivial ?_
        refine SL.nil ?_
        refine SQ.scp ?_
        exact SQ.fend (res0 rfl) (ret_of (M := [_]) ⟨rfl, rfl⟩ fun _ h => h.skip [_, _, _])
      · obtain ⟨rfl, rfl⟩ := hX
        refine SX.exit ?_
        refine SQ.blkE ?_
        refine SQ.thn ?_
        refine SX.drawI mix [0, 1, 2] (Pl.ap [(true, 0), (true, 1), (true, 2), (true, 3), (true, 4), (true, 5)] (.last 6 .nil)) (by kernel_rfl) ?_
        refine SL.ld ⟨rfl, rfl, rfl, rfl⟩ sc105 rfl (cell_own 2 rfl rfl) ?_
        refine SL.ld ⟨rfl, rfl, rfl, rfl⟩ sc9 rfl (cell_own 1 rfl rfl) ?_
        refine SL.ld ⟨rfl, rfl, rfl, rfl⟩ sc3 rfl (cell_own 0 rfl rfl) ?_
        refine SL.slSl (64 * (s1.length / 64)) ⟨rfl, rfl, rfl, rfl⟩ ty9 rfl rfl (by omega) (by omega) ?_
        refine SL.nchk ⟨rfl, rfl, rfl, rfl⟩ rfl ?_
        refine SL.fa ⟨rfl, rfl, rfl, rfl⟩ rfl fo111_1 ?_
        refine SL.last ?_
        refine SL.st 3 ⟨rfl, rfl, rfl⟩ rfl rfl rfl sz9 rfl rfl rfl trivial ?_
        refine SL.nil ?_
        refine SQ.scp ?_
        exact SQ.fend (res0 rfl) (ret_of (M := [_]) ⟨rfl, rfl⟩ fun _ h => h.skip [_, _, _])

end Go.Proofs.YtnpnmdbleopikaaDoor

