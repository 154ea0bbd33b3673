/- Walks of the ring's functions: what a ring is, what is found in it. Condition: rings of at most 2^40 keys. -/
import Derived.Test.YtnpnmdbleopikaaDoorT0
import Derived.Test.YtnpnmdbleopikaaDoorP0
namespace Go.Proofs.YtnpnmdbleopikaaDoor
open Go
variable {K : Nat → Prop} {w0 : World} {H : List Chunk}

def encGB (p : UInt32 × Bool) : List Value := [vU32 p.1, vB p.2]
theorem c_keys_generations (v : Value) : Con Tryd.prog K w0 56 [v] [] H (fun r M => ∃ b, r = .func (.func 77) #[] #[vP b 0] ∧ M = [own b (.cells v.cells 32)]) := by
  refine Con.enter Tryd.func56 rfl rfl ?_
  refine SX.sr ?_
  refine SL.box ⟨rfl, rfl, rfl, rfl⟩ rfl (fun _ => trivial) fun b0 => ?_
  refine SL.asg ⟨rfl, rfl, rfl, rfl⟩ rfl ?_
  refine SL.nx ?_
  refine SX.sr ?_
  refine SL.mkf (fv := #[]) (cv := #[_]) ⟨rfl, rfl, rfl, rfl⟩ rfl rfl ?_
  refine SL.asg ⟨rfl, rfl, rfl, rfl⟩ rfl ?_
  refine SL.nx ?_
  refine SX.ret ?_
  exact SQ.fret (res1 rfl rfl) (ret_of (M := [_]) ⟨b0, rfl, rfl⟩ fun _ h => h)

theorem q_keys_generations (v : Value) (ks : List KeyA) (b : Nat) (hk : SlOf K w0 encKey 2 v ks) (hv : v.cells = #[v]) (hn : ks.length ≤ 1099511627776) : Seq Tryd.prog K w0 77 [vP b 0] [own b (.cells v.cells 32)] encGB (gensA ks) := by
  intro lp J X T hy G h0
  rw [hv]
  refine Con.enter Tryd.func77 rfl rfl ?_
  refine SX.sr ?_
  refine SL.asg ⟨rfl, rfl, rfl, rfl⟩ rfl ?_
  refine SL.nx ?_
  refine SX.sr ?_
  refine SL.ld ⟨rfl, rfl, rfl, rfl⟩ sc32 rfl (cell_own 0 rfl rfl) ?_
  refine SL.lenV hk ⟨rfl, rfl, rfl, rfl⟩ ty32 rfl ?_
  refine SL.mv ⟨rfl, rfl, rfl, rfl⟩ rfl ?_
  refine SL.nx ?_
  refine SX.block ?_
  refine SX.mono (SX.loop (α := Nat × List Chunk) (fun x => x.1 ≤ ks.length ∧ J ((gensA ks).take x.1) x.2) (fun x => [(0, vY lp), (3, vU32 (prevGen ks x.1)), (6, v), (7, vI ks.length), (8, vI x.1)]) (fun x => own b (.cells #[v] 32) :: (x.2 ++ T)) (fun x => ks.length - x.1) (fun x D hp => ?_) (0, G) ⟨Nat.zero_le _, h0⟩) (by repeat' (first | exact trivial | refine And.intro rfl ?_))
  obtain ⟨i, G⟩ := x
  obtain ⟨hi, hJ⟩ := hp
  simp only at hi hJ
  refine SX.sr ?_
  refine SL.bin ⟨rfl, rfl, rfl, rfl⟩ rfl rfl Bin.ltI ?_
  refine SL.nx ?_
  refine SX.seq ?_
  refine SX.cond rfl (fun hc => ?_) (fun hc => ?_)
  · skip
    have hlt : i < ks.length := by simpa using hc
    obtain ⟨key, hkey⟩ := get_of_lt hlt
    have hg := gensA_get ks i hlt
    rw [getD_of hkey] at hg
    refine SX.skip ?_
    refine SQ.thn ?_
    refine SX.seq ?_
    refine SX.block ?_
    refine SX.sr ?_
    refine SL.iaV i key hk ⟨rfl, rfl, rfl, rfl⟩ ty32 sz44 rfl rfl rfl hkey fun be off hcell => ?_
    refine SL.ldA (encKey key) ⟨rfl, rfl, rfl, rfl⟩ ag44 rfl rfl (cells_at (hcell _)) ?_
    refine SL.alloc ⟨rfl, rfl, rfl, rfl⟩ ze44 (fun _ => trivial) fun b0 => ?_
    refine SL.st 0 ⟨rfl, rfl, rfl⟩ rfl rfl rfl sz44 rfl rfl rfl trivial ?_
    refine SL.nx ?_
    refine SX.seq ?_
    refine SX.sr ?_
    refine SL.mv ⟨rfl, rfl, rfl, rfl⟩ rfl ?_
    refine SL.fa ⟨rfl, rfl, rfl, rfl⟩ rfl fo44_0 ?_
    refine SL.ld ⟨rfl, rfl, rfl, rfl⟩ sc22 rfl (cell_own 0 rfl rfl) ?_
    refine SL.fa ⟨rfl, rfl, rfl, rfl⟩ rfl fo44_0 ?_
    refine SL.ld ⟨rfl, rfl, rfl, rfl⟩ sc22 rfl (cell_own 0 rfl rfl) ?_
    refine SL.mv ⟨rfl, rfl, rfl, rfl⟩ rfl ?_
    refine SL.bin ⟨rfl, rfl, rfl, rfl⟩ rfl rfl (Bin.gt32 (b := prevGen ks i)) ?_
    refine SL.mv ⟨rfl, rfl, rfl, rfl⟩ rfl ?_
    refine SL.and (c := decide ((key.secret.length : Int) = 32)) 19 5 24 rfl (fun hb k => ?_) (fun hb k => ?_) ?_
    · skip
      refine SL.fa ⟨rfl, rfl, rfl, rfl⟩ rfl fo44_1 ?_
      refine SL.ld ⟨rfl, rfl, rfl, rfl⟩ sc9 rfl (cell_own 0 rfl rfl) ?_
      refine SL.lenS ⟨rfl, rfl, rfl, rfl⟩ ty9 rfl ?_
      refine SL.bin ⟨rfl, rfl, rfl, rfl⟩ rfl rfl Bin.eqI ?_
      refine SL.pk ⟨rfl, rfl, rfl, rfl⟩ rfl rfl ?_
      exact k.mono (by repeat' (first | exact trivial | refine And.intro rfl ?_))
    · skip
      refine SL.pass rfl rfl rfl ?_
      refine SL.pass rfl rfl rfl ?_
      refine SL.pass rfl rfl rfl ?_
      refine SL.pass rfl rfl rfl ?_
      refine SL.pk ⟨rfl, rfl, rfl, rfl⟩ rfl rfl ?_
      exact k.mono (by repeat' (first | exact trivial | refine And.intro rfl ?_))
    refine SL.yld (M2 := [_, _]) (G := G) (T := T) (vs := [_, _]) (ok := fun G1 => J ((gensA ks).take (i + 1)) G1) (no := X) ⟨rfl, rfl, rfl, rfl⟩ rfl ⟨rfl, rfl, trivial⟩ rfl ?_ (fun bb G1 hG1 => ⟨trivial, ?_⟩)
    · intro M
      have := hy _ _ _ (take_split hg).1 G hJ M
      rw [← (take_split hg).2] at this
      have e : keyOk ks i = (decide (prevGen ks i < key.gen) && decide ((key.secret.length : Int) = 32)) := by unfold keyOk; rw [getD_of hkey]
      rw [e] at this
      exact this
    refine SL.not ⟨rfl, rfl, rfl, rfl⟩ rfl ?_
    refine SL.nx ?_
    refine SX.cond rfl (fun hc => ?_) (fun hc => ?_)
    · skip
      obtain rfl : bb = false := by simpa using hc
      refine SX.ret ?_
      refine SQ.thnR ?_
      refine SQ.blkR ?_
      refine SQ.thnR ?_
      refine SQ.lpR ?_
      refine SQ.blkR ?_
      exact SQ.fret (res0 rfl) (ret_of (M := G1) (.inr hG1) fun _ h => h.skip [_, _])
    · skip
      obtain rfl : bb = true := by simpa using hc
      refine SX.skip ?_
      refine SQ.thn ?_
      refine SX.region ?_
      refine SL.fa ⟨rfl, rfl, rfl, rfl⟩ rfl fo44_0 ?_
      refine SL.ld ⟨rfl, rfl, rfl, rfl⟩ sc22 rfl (cell_own 0 rfl rfl) ?_
      refine SL.asg ⟨rfl, rfl, rfl, rfl⟩ rfl ?_
      refine SL.nil ?_
      refine SQ.blk ?_
      refine SQ.thn ?_
      refine SX.region ?_
      refine SL.bin ⟨rfl, rfl, rfl, rfl⟩ rfl rfl (Bin.addI (by omega) (by omega)) ?_
      refine SL.mv ⟨rfl, rfl, rfl, rfl⟩ rfl ?_
      refine SL.nil ?_
      refine SQ.again (i + 1, G1) ⟨hlt, hG1⟩ (by simp only; omega) ⟨rfl, by rw [prevGen, getD_of hkey]; rfl, rfl, rfl, rfl, trivial⟩ (fun w h => h.skip [_])
  · skip
    refine SX.exit ?_
    refine SQ.thnE ?_
    refine SQ.lpE ?_
    refine SQ.blkE ?_
    have hle : i = ks.length := by simp at hc; omega
    exact SQ.fend (res0 rfl) (ret_of (M := G) (.inl (by rw [List.take_of_length_le (by rw [gensA_length]; omega)] at hJ; exact hJ)) fun _ h => h.skip [_])

theorem c_keys_Right (v : Value) (ks : List KeyA) (hk : SlOf K w0 encKey 2 v ks) (hv : v.cells = #[v]) (hn : ks.length ≤ 1099511627776) : Con Tryd.prog K w0 38 [v] [] H (fun r M => r = vB (rightA ks) ∧ M = []) := by
  refine Con.enter Tryd.func38 rfl rfl ?_
  refine SX.sr ?_
  refine SL.asg ⟨rfl, rfl, rfl, rfl⟩ rfl ?_
  refine SL.nx ?_
  refine SX.scope ?_
  refine SX.sr ?_
  refine SL.mv ⟨rfl, rfl, rfl, rfl⟩ rfl ?_
  refine SL.lenV hk ⟨rfl, rfl, rfl, rfl⟩ ty32 rfl ?_
  refine SL.bin ⟨rfl, rfl, rfl, rfl⟩ rfl rfl Bin.leI ?_
  refine SL.alloc ⟨rfl, rfl, rfl, rfl⟩ ze4 (fun _ => trivial) fun b0 => ?_
  refine SL.st 0 ⟨rfl, rfl, rfl⟩ rfl rfl rfl sz4 rfl rfl rfl trivial ?_
  refine SL.nx ?_
  refine SX.seq ?_
  refine SX.label ?_
  refine SQ.thn ?_
  refine SX.seq ?_
  refine SX.sr ?_
  refine SL.mv ⟨rfl, rfl, rfl, rfl⟩ rfl ?_
  refine SL.call (vs := [_]) (Hin := []) ⟨rfl, rfl, rfl, rfl⟩ rfl ⟨rfl, trivial⟩ cal56 rfl rfl (c_keys_generations v) ?_
  rintro _ _ ⟨b1, rfl, rfl⟩
  refine ⟨trivial, ?_⟩
  refine SL.nx ?_
  refine SX.block ?_
  refine SX.range (enc := encGB) (gensA ks) (fun pre G => pre.all (·.2) = true ∧ G = own b0 (.cells #[vB (decide ((ks.length : Int) ≤ 16))] 4) :: H) (fun c G => c = .exit 0 ∧ (gensA ks).all (·.2) = false ∧ G = own b0 (.cells #[vB false] 4) :: H) rfl cal77 rfl (fun _ => rfl) (q_keys_generations v ks b1 hk hv hn) rfl ⟨rfl, rfl⟩ (fun pre x suf G hxs hJ r lp Rest => ?_) (fun G D hJ => ?_) (fun c G D hX => ?_)
  · obtain ⟨hpre, rfl⟩ := hJ
    refine SX.region ?_
    refine SL.asg ⟨rfl, rfl, rfl, rfl⟩ rfl ?_
    refine SL.nil ?_
    refine SQ.bgn ?_
    refine SX.block ?_
    refine SX.sr ?_
    refine SL.mv ⟨rfl, rfl, rfl, rfl⟩ rfl ?_
    refine SL.not ⟨rfl, rfl, rfl, rfl⟩ rfl ?_
    refine SL.nx ?_
    refine SX.cond rfl (fun hc => ?_) (fun hc => ?_)
    · skip
      refine SX.sr ?_
      refine SL.st 0 ⟨rfl, rfl, rfl⟩ rfl rfl rfl sz4 rfl rfl rfl trivial ?_
      refine SL.nx ?_
      refine SX.exit ?_
      refine SQ.blkO ?_
      exact SQ.rndE ⟨rfl, by rw [hxs]; simp at hc; simp [hc], rfl⟩ (fun _ h => h)
    · skip
      refine SX.skip ?_
      refine SQ.blk ?_
      exact SQ.rndN ⟨by simp at hc; simp [hpre, hc], rfl⟩ (fun _ h => h)
  · obtain ⟨hall, rfl⟩ := hJ
    refine SQ.blk ?_
    refine SQ.thn ?_
    refine SX.sr ?_
    refine SL.ld ⟨rfl, rfl, rfl, rfl⟩ sc4 rfl (cell_own 0 rfl rfl) ?_
    refine SL.asg ⟨rfl, rfl, rfl, rfl⟩ rfl ?_
    refine SL.nx ?_
    refine SX.ret ?_
    refine SQ.scpR ?_
    exact SQ.fret (res1 rfl rfl) (ret_of (M := []) ⟨by simp only [rightA, hall]; simp; try omega, rfl⟩ fun _ h => h.skip [_])
  · obtain ⟨rfl, hall, rfl⟩ := hX
    refine SX.exit ?_
    refine SQ.blkE ?_
    refine SQ.thn ?_
    refine SX.sr ?_
    refine SL.ld ⟨rfl, rfl, rfl, rfl⟩ sc4 rfl (cell_own 0 rfl rfl) ?_
    refine SL.asg ⟨rfl, rfl, rfl, rfl⟩ rfl ?_
    refine SL.nx ?_
    refine SX.ret ?_
    refine SQ.scpR ?_
    exact SQ.fret (res1 rfl rfl) (ret_of (M := []) ⟨by simp only [rightA, hall]; simp; try omega, rfl⟩ fun _ h => h.skip [_])

end Go.Proofs.YtnpnmdbleopikaaDoor

