/- Walks of a head's bytes. No condition. -/
import Derived.Test.YtnpnmdbleopikaaDoorB0
import Derived.Test.YtnpnmdbleopikaaDoorP5
namespace Go.Proofs.YtnpnmdbleopikaaDoor
open Go
variable {K : Nat → Prop} {w0 : World} {H : List Chunk}
theorem c_seal_put (b : Nat) (p v : Value) (e : TypeId) (n : UInt64) (w m : Nat) (xs : List UInt8) (hp : adr b p) (hl : lies e) (hw : w ≤ 8) (hm : m ≤ 1048576) : Con Tryd.prog K w0 24 [vP b 0, vU64 n, vI w] [own b (.cells #[p, v] e), rowC 5 1 v m (xs.map fun b => vU8 b)] H (fun r M => r = .tuple #[] ∧ ∃ p' v', adr b p' ∧ M = [own b (.cells #[p', v'] e), rowC 5 1 v' (m + w) ((xs ++ lePut n w).map fun b => vU8 b)]) := by
  refine Con.enter Tryd.func24 rfl rfl ?_
  refine SX.sr ?_
  refine SL.mv ⟨rfl, rfl, rfl, rfl⟩ rfl ?_
  refine SL.mv ⟨rfl, rfl, rfl, rfl⟩ rfl ?_
  refine SL.nx ?_
  refine SX.block ?_
  refine SX.mono (SX.loop (α := Nat × Value × Value) (fun x => x.1 ≤ w ∧ adr b x.2.1) (fun x => [(0, vP b 0), (1, vU64 n), (7, vI w), (8, vI x.1)]) (fun x => own b (.cells #[x.2.1, x.2.2] e) :: rowC 5 1 x.2.2 (m + x.1) ((xs ++ lePut n x.1).map fun b => vU8 b) :: H) (fun x => w - x.1) (fun x D hp => ?_) (0, p, v) ⟨Nat.zero_le _, hp⟩ |>.heap (fun w h => by simpa [lePut] using h)) (by repeat' (first | exact trivial | refine And.intro rfl ?_))
  obtain ⟨i, p, v⟩ := x
  obtain ⟨hi, hadr⟩ := hp
  simp only at hi hadr
  refine SX.sr ?_
  refine SL.bin ⟨rfl, rfl, rfl, rfl⟩ rfl rfl Bin.ltI ?_
  refine SL.nx ?_
  refine SX.seq ?_
  refine SX.cond rfl (fun hc1 => ?_) (fun hc1 => ?_)
  · skip
    have hlt : i < w := by simpa using hc1
    refine SX.skip ?_
    refine SQ.thn ?_
    refine SX.seq ?_
    refine SX.block ?_
    refine SX.sr ?_
    refine SL.mv ⟨rfl, rfl, rfl, rfl⟩ rfl ?_
    refine SL.asg ⟨rfl, rfl, rfl, rfl⟩ rfl ?_
    refine SL.nx ?_
    refine SX.drawI mix [] (Pl.ap [(true, 0), (true, 1), (true, 2), (true, 3), (true, 4), (true, 5), (true, 6), (true, 7)] (.last 8 .nil)) (by kernel_rfl) ?_
    refine SL.mv ⟨rfl, rfl, rfl, rfl⟩ rfl ?_
    refine SL.nchk ⟨rfl, rfl, rfl, rfl⟩ rfl ?_
    refine SL.fa ⟨rfl, rfl, rfl, rfl⟩ rfl fo55_0 ?_
    refine SL.mv ⟨rfl, rfl, rfl, rfl⟩ rfl ?_
    refine SL.mv ⟨rfl, rfl, rfl, rfl⟩ rfl ?_
    refine SL.bin ⟨rfl, rfl, rfl, rfl⟩ rfl rfl (Bin.mulI (by omega) (by omega)) ?_
    refine SL.bin ⟨rfl, rfl, rfl, rfl⟩ rfl rfl (Bin.shr64 (n := (8 * i))) ?_
    refine SL.cv ⟨rfl, rfl, rfl, rfl⟩ rfl (Cv.u64_8 ty23 ty5) ?_
    refine SL.last ?_
    refine SL.call (vs := [_, _]) (Hin := [_, _]) ⟨rfl, rfl, rfl, rfl⟩ rfl ⟨rfl, rfl, trivial⟩ cal46 rfl rfl (c_WriteByte e b p v (m + i) _ _ hadr hl (by omega)) ?_
    rintro _ _ ⟨rfl, v', rfl⟩
    refine ⟨trivial, ?_⟩
    refine SL.nil ?_
    refine SQ.blk ?_
    refine SQ.thn ?_
    refine SX.region ?_
    refine SL.bin ⟨rfl, rfl, rfl, rfl⟩ rfl rfl (Bin.addI (by omega) (by omega)) ?_
    refine SL.mv ⟨rfl, rfl, rfl, rfl⟩ rfl ?_
    refine SL.nil ?_
    refine SQ.again (i + 1, vP b 0, v') ⟨hlt, .inr rfl⟩ (by simp only; omega) (by repeat' (first | exact trivial | refine And.intro rfl ?_)) (fun w hw => ?_)
    simp only
    rw [lePut_succ, ← List.append_assoc, List.map_append (l₁ := xs ++ lePut n i), ← Nat.add_assoc]
    exact hw
  · skip
    have hie : i = w := by simp at hc1; omega
    subst hie
    refine SX.exit ?_
    refine SQ.thnE ?_
    refine SQ.lpE ?_
    refine SQ.blkE ?_
    exact SQ.fend (res0 rfl) (ret_of (M := [_, _]) ⟨rfl, p, v, hadr, rfl⟩ fun _ h => h)

theorem c_seal_nonce (h : HeadA) : Con Tryd.prog K w0 26 [.agg (encHead h).toArray] [] H (fun r M => r = vS (nonceA h) ∧ M = []) := by
  refine Con.enter Tryd.func26 rfl rfl ?_
  refine SX.sr ?_
  refine SL.box ⟨rfl, rfl, rfl, rfl⟩ rfl (fun _ => trivial) fun b0 => ?_
  refine SL.asg ⟨rfl, rfl, rfl, rfl⟩ rfl ?_
  refine SL.nx ?_
  refine SX.sr ?_
  refine SL.alloc ⟨rfl, rfl, rfl, rfl⟩ ze55 (fun _ => trivial) fun b1 => ?_
  refine SL.nx ?_
  refine SX.sr ?_
  refine SL.mkf (fv := #[_]) (cv := #[]) ⟨rfl, rfl, rfl, rfl⟩ rfl rfl ?_
  refine SL.asg ⟨rfl, rfl, rfl, rfl⟩ rfl ?_
  refine SL.nx ?_
  refine SX.nilRow 5 1 ?_
  refine SX.pick [1, 0, 2] 3 ?_
  refine SX.sr ?_
  refine SL.mv ⟨rfl, rfl, rfl, rfl⟩ rfl ?_
  refine SL.fa ⟨rfl, rfl, rfl, rfl⟩ rfl fo25_2 ?_
  refine SL.ld ⟨rfl, rfl, rfl, rfl⟩ sc22 rfl (cell_own 2 rfl rfl) ?_
  refine SL.cv ⟨rfl, rfl, rfl, rfl⟩ rfl (Cv.u32_64 ty22 ty23) ?_
  refine SL.call (vs := [_, _]) (Hin := [_, _]) ⟨rfl, rfl, rfl, rfl⟩ rfl ⟨rfl, rfl, trivial⟩ cal24 rfl rfl (c_seal_put b1 (.pointer none) (.slice none 0 0) 55 h.boot.toUInt64 4 0 [] (.inl rfl) li55 (by omega) (by omega)) ?_
  rintro _ _ ⟨rfl, p1, v1, ha1, rfl⟩
  refine ⟨trivial, ?_⟩
  refine SL.nx ?_
  refine SX.sr ?_
  refine SL.mv ⟨rfl, rfl, rfl, rfl⟩ rfl ?_
  refine SL.fa ⟨rfl, rfl, rfl, rfl⟩ rfl fo25_3 ?_
  refine SL.ld ⟨rfl, rfl, rfl, rfl⟩ sc23 rfl (cell_own 2 rfl rfl) ?_
  refine SL.call (vs := [_, _]) (Hin := [_, _]) ⟨rfl, rfl, rfl, rfl⟩ rfl ⟨rfl, rfl, trivial⟩ cal24 rfl rfl (c_seal_put b1 p1 v1 55 h.seq 8 4 _ ha1 li55 (by omega) (by omega)) ?_
  rintro _ _ ⟨rfl, p2, v2, ha2, rfl⟩
  refine ⟨trivial, ?_⟩
  refine SL.nx ?_
  refine SX.sr ?_
  refine SL.fa ⟨rfl, rfl, rfl, rfl⟩ rfl fo55_0 ?_
  refine SL.call (vs := [_]) (Hin := [_, _]) ⟨rfl, rfl, rfl, rfl⟩ rfl ⟨rfl, trivial⟩ cal25 rfl rfl (c_String 55 b1 p2 v2 12 (nonceA h) (by omega)) ?_
  rintro _ _ ⟨rfl, rfl⟩
  refine ⟨trivial, ?_⟩
  refine SL.asg ⟨rfl, rfl, rfl, rfl⟩ rfl ?_
  refine SL.nx ?_
  refine SX.ret ?_
  exact SQ.fret (res1 rfl rfl) (ret_of (M := []) ⟨rfl, rfl⟩ fun _ h => h.skip [_, _, _])

theorem c_seal_Put (h : HeadA) : Con Tryd.prog K w0 13 [.agg (encHead h).toArray] [] H (fun r M => r = vS (putA h) ∧ M = []) := by
  refine Con.enter Tryd.func13 rfl rfl ?_
  refine SX.sr ?_
  refine SL.box ⟨rfl, rfl, rfl, rfl⟩ rfl (fun _ => trivial) fun b0 => ?_
  refine SL.asg ⟨rfl, rfl, rfl, rfl⟩ rfl ?_
  refine SL.nx ?_
  refine SX.sr ?_
  refine SL.alloc ⟨rfl, rfl, rfl, rfl⟩ ze55 (fun _ => trivial) fun b1 => ?_
  refine SL.nx ?_
  refine SX.sr ?_
  refine SL.mkf (fv := #[_]) (cv := #[]) ⟨rfl, rfl, rfl, rfl⟩ rfl rfl ?_
  refine SL.asg ⟨rfl, rfl, rfl, rfl⟩ rfl ?_
  refine SL.nx ?_
  refine SX.nilRow 5 1 ?_
  refine SX.pick [1, 0, 2] 3 ?_
  refine SX.sr ?_
  refine SL.mv ⟨rfl, rfl, rfl, rfl⟩ rfl ?_
  refine SL.fa ⟨rfl, rfl, rfl, rfl⟩ rfl fo25_0 ?_
  refine SL.ld ⟨rfl, rfl, rfl, rfl⟩ sc22 rfl (cell_own 2 rfl rfl) ?_
  refine SL.cv ⟨rfl, rfl, rfl, rfl⟩ rfl (Cv.u32_64 ty22 ty23) ?_
  refine SL.call (vs := [_, _]) (Hin := [_, _]) ⟨rfl, rfl, rfl, rfl⟩ rfl ⟨rfl, rfl, trivial⟩ cal24 rfl rfl (c_seal_put b1 (.pointer none) (.slice none 0 0) 55 h.page.toUInt64 4 0 [] (.inl rfl) li55 (by omega) (by omega)) ?_
  rintro _ _ ⟨rfl, p1, v1, ha1, rfl⟩
  refine ⟨trivial, ?_⟩
  refine SL.nx ?_
  refine SX.sr ?_
  refine SL.mv ⟨rfl, rfl, rfl, rfl⟩ rfl ?_
  refine SL.fa ⟨rfl, rfl, rfl, rfl⟩ rfl fo25_1 ?_
  refine SL.ld ⟨rfl, rfl, rfl, rfl⟩ sc22 rfl (cell_own 2 rfl rfl) ?_
  refine SL.cv ⟨rfl, rfl, rfl, rfl⟩ rfl (Cv.u32_64 ty22 ty23) ?_
  refine SL.call (vs := [_, _]) (Hin := [_, _]) ⟨rfl, rfl, rfl, rfl⟩ rfl ⟨rfl, rfl, trivial⟩ cal24 rfl rfl (c_seal_put b1 p1 v1 55 h.gen.toUInt64 4 4 _ ha1 li55 (by omega) (by omega)) ?_
  rintro _ _ ⟨rfl, p2, v2, ha2, rfl⟩
  refine ⟨trivial, ?_⟩
  refine SL.nx ?_
  refine SX.seq ?_
  refine SX.drawI mix [2] (Pl.of [(true, 0), (true, 2), (false, 1), (false, 3), (true, 4), (true, 5), (true, 6)]) (by kernel_rfl) ?_
  refine SL.fa ⟨rfl, rfl, rfl, rfl⟩ rfl fo55_0 ?_
  refine SL.ldA (encHead h) ⟨rfl, rfl, rfl, rfl⟩ ag25 rfl rfl (cells_all 0 rfl) ?_
  refine SL.call (vs := [_]) (Hin := [_, _]) ⟨rfl, rfl, rfl, rfl⟩ rfl ⟨rfl, trivial⟩ cal25 rfl rfl (c_String 55 b1 p2 v2 8 (lePut h.page.toUInt64 4 ++ lePut h.gen.toUInt64 4) (by omega)) ?_
  rintro _ _ ⟨rfl, rfl⟩
  refine ⟨⟨⟨2, rfl⟩, trivial⟩, ?_⟩
  refine SL.call (vs := [_]) (Hin := []) ⟨rfl, rfl, rfl, rfl⟩ rfl ⟨rfl, trivial⟩ cal26 rfl rfl (c_seal_nonce h) ?_
  rintro _ _ ⟨rfl, rfl⟩
  refine ⟨⟨⟨2, rfl⟩, trivial⟩, ?_⟩
  refine SL.bin ⟨rfl, rfl, rfl, rfl⟩ rfl rfl (Bin.cat (by simp [lePut_length, nonceA_length])) ?_
  refine SL.bin ⟨rfl, rfl, rfl, rfl⟩ rfl rfl (Bin.cat (by simp [lePut_length, nonceA_length])) ?_
  refine SL.asg ⟨rfl, rfl, rfl, rfl⟩ rfl ?_
  refine SL.nx ?_
  refine SX.ret ?_
  exact SQ.fret (res1 rfl rfl) (ret_of (M := []) ⟨rfl, rfl⟩ fun _ h => h.skip [_, _, _])

end Go.Proofs.YtnpnmdbleopikaaDoor

