/- Walks of the ring's functions: the place of a generation, its key. Condition: rings of at most 2^40 keys. -/
import Derived.Test.YtnpnmdbleopikaaDoorC0
namespace Go.Proofs.YtnpnmdbleopikaaDoor
open Go
variable {K : Nat → Prop} {w0 : World} {H : List Chunk}
theorem c_keys_place_1 (k : KeyA) (g : UInt32) (b : Nat) : Con Tryd.prog K w0 60 [.agg (encKey k).toArray, vP b 0] [own b (.cells #[vU32 g] 22)] H (fun r M => r = vB (decide (g ≤ k.gen)) ∧ M = [own b (.cells #[vU32 g] 22)]) := by
  refine Con.enter Tryd.func60 rfl rfl ?_
  refine SX.sr ?_
  refine SL.box ⟨rfl, rfl, rfl, rfl⟩ rfl (fun _ => trivial) fun b0 => ?_
  refine SL.asg ⟨rfl, rfl, rfl, rfl⟩ rfl ?_
  refine SL.nx ?_
  refine SX.sr ?_
  refine SL.fa ⟨rfl, rfl, rfl, rfl⟩ rfl fo44_0 ?_
  refine SL.ld ⟨rfl, rfl, rfl, rfl⟩ sc22 rfl (cell_own 0 rfl rfl) ?_
  refine SL.ld ⟨rfl, rfl, rfl, rfl⟩ sc22 rfl (cell_own 1 rfl rfl) ?_
  refine SL.bin ⟨rfl, rfl, rfl, rfl⟩ rfl rfl Bin.ge32 ?_
  refine SL.asg ⟨rfl, rfl, rfl, rfl⟩ rfl ?_
  refine SL.nx ?_
  refine SX.ret ?_
  exact SQ.fret (res1 rfl rfl) (ret_of (M := [_]) ⟨rfl, rfl⟩ fun _ h => h.skip [_])

theorem c_IndexFunc_Key (v : Value) (ks : List KeyA) (g : FuncId) (cap : List Value) (B : List Chunk) (φ : KeyA → Bool) (hk : SlOf K w0 encKey 2 v ks) (hn : ks.length ≤ 1099511627776) (hcal : callable Tryd.prog g = true)
    (hf : ∀ (H : List Chunk) (k : KeyA), Con Tryd.prog K w0 g (.agg (encKey k).toArray :: cap) B H (fun r M => r = vB (φ k) ∧ M = B)) :
    Con Tryd.prog K w0 59 [v, .func (.func g) #[] cap.toArray] B H (fun r M => r = vI (if ks.findIdx φ < ks.length then (ks.findIdx φ : Int) else -1) ∧ M = B) := by
  refine Con.enter Tryd.func59 rfl rfl ?_
  refine SX.sr ?_
  refine SL.asg ⟨rfl, rfl, rfl, rfl⟩ rfl ?_
  refine SL.nx ?_
  refine SX.seq ?_
  refine SX.sr ?_
  refine SL.mv ⟨rfl, rfl, rfl, rfl⟩ rfl ?_
  refine SL.lenV hk ⟨rfl, rfl, rfl, rfl⟩ ty32 rfl ?_
  refine SL.mv ⟨rfl, rfl, rfl, rfl⟩ rfl ?_
  refine SL.nx ?_
  refine SX.block ?_
  refine SX.mono (SX.loop (α := Nat) (fun i => i ≤ ks.length ∧ ∀ j y, j < i → ks[j]? = some y → φ y = false) (fun i => [(0, v), (1, .func (.func g) #[] cap.toArray), (7, vI ks.length), (8, vI i)]) (fun i => B ++ H) (fun i => ks.length - i) (fun i D hp => ?_) 0 ⟨Nat.zero_le _, fun j y hj => absurd hj (Nat.not_lt_zero _)⟩) (by repeat' (first | exact trivial | refine And.intro rfl ?_))
  obtain ⟨hi, hb⟩ := hp
  refine SX.sr ?_
  refine SL.bin ⟨rfl, rfl, rfl, rfl⟩ rfl rfl Bin.ltI ?_
  refine SL.nx ?_
  refine SX.seq ?_
  refine SX.cond rfl (fun hc => ?_) (fun hc => ?_)
  · skip
    have hlt : i < ks.length := by simpa using hc
    obtain ⟨key, hkey⟩ := get_of_lt hlt
    refine SX.skip ?_
    refine SQ.thn ?_
    refine SX.seq ?_
    refine SX.block ?_
    refine SX.sr ?_
    refine SL.mv ⟨rfl, rfl, rfl, rfl⟩ rfl ?_
    refine SL.asg ⟨rfl, rfl, rfl, rfl⟩ rfl ?_
    refine SL.nx ?_
    refine SX.sr ?_
    refine SL.mv ⟨rfl, rfl, rfl, rfl⟩ rfl ?_
    refine SL.mv ⟨rfl, rfl, rfl, rfl⟩ rfl ?_
    refine SL.mv ⟨rfl, rfl, rfl, rfl⟩ rfl ?_
    refine SL.iaV i key hk ⟨rfl, rfl, rfl, rfl⟩ ty32 sz44 rfl rfl rfl hkey fun be off hcell => ?_
    refine SL.ldA (encKey key) ⟨rfl, rfl, rfl, rfl⟩ ag44 rfl rfl (cells_at (hcell _)) ?_
    refine SL.call (vs := [_]) (Hin := B) ⟨rfl, rfl, rfl, rfl⟩ rfl ⟨rfl, trivial⟩ hcal rfl rfl (hf _ key) ?_
    rintro _ M ⟨rfl, hM⟩
    rw [hM]
    refine ⟨trivial, ?_⟩
    refine SL.nx ?_
    refine SX.cond rfl (fun hc2 => ?_) (fun hc2 => ?_)
    · skip
      refine SX.sr ?_
      refine SL.mv ⟨rfl, rfl, rfl, rfl⟩ rfl ?_
      refine SL.asg ⟨rfl, rfl, rfl, rfl⟩ rfl ?_
      refine SL.nx ?_
      refine SX.ret ?_
      refine SQ.blkR ?_
      refine SQ.thnR ?_
      refine SQ.lpR ?_
      refine SQ.blkR ?_
      refine SQ.thnR ?_
      exact SQ.fret (res1 rfl rfl) (ret_of (M := B) ⟨by rw [findIdx_at hkey hc2 hb]; simp [hlt], rfl⟩ fun _ h => h)
    · skip
      refine SX.skip ?_
      refine SQ.blk ?_
      refine SQ.thn ?_
      refine SX.region ?_
      refine SL.bin ⟨rfl, rfl, rfl, rfl⟩ rfl rfl (Bin.addI (by omega) (by omega)) ?_
      refine SL.mv ⟨rfl, rfl, rfl, rfl⟩ rfl ?_
      refine SL.nil ?_
      refine SQ.again (i + 1) ⟨hlt, fun j y hj hy => ?_⟩ (by omega) ⟨rfl, rfl, rfl, rfl, trivial⟩
      rcases Nat.lt_or_ge j i with h | h
      · exact hb j y h hy
      · obtain rfl : j = i := by omega
        rw [hkey] at hy
        cases hy
        exact hc2
  · skip
    refine SX.exit ?_
    refine SQ.thnE ?_
    refine SQ.lpE ?_
    refine SQ.blkE ?_
    refine SQ.thn ?_
    refine SX.sr ?_
    refine SL.asg ⟨rfl, rfl, rfl, rfl⟩ rfl ?_
    refine SL.nx ?_
    refine SX.ret ?_
    have hle : i = ks.length := by simp at hc; omega
    exact SQ.fret (res1 rfl rfl) (ret_of (M := B) ⟨by rw [findIdx_no (fun j y hy => hb j y (by obtain ⟨h, _⟩ := List.getElem?_eq_some_iff.1 hy; omega) hy)]; simp, rfl⟩ fun _ h => h)

theorem c_keys_place (v : Value) (ks : List KeyA) (g : UInt32) (hk : SlOf K w0 encKey 2 v ks) (hn : ks.length ≤ 1099511627776) : Con Tryd.prog K w0 47 [v, vU32 g] [] H (fun r M => r = .tuple #[vI (placeA g ks), vB (thereA g ks)] ∧ M = []) := by
  refine Con.enter Tryd.func47 rfl rfl ?_
  refine SX.sr ?_
  refine SL.box ⟨rfl, rfl, rfl, rfl⟩ rfl (fun _ => trivial) fun b0 => ?_
  refine SL.asg ⟨rfl, rfl, rfl, rfl⟩ rfl ?_
  refine SL.asg ⟨rfl, rfl, rfl, rfl⟩ rfl ?_
  refine SL.nx ?_
  refine SX.sr ?_
  refine SL.mv ⟨rfl, rfl, rfl, rfl⟩ rfl ?_
  refine SL.mkf (fv := #[]) (cv := #[_]) ⟨rfl, rfl, rfl, rfl⟩ rfl rfl ?_
  refine SL.call (vs := [_, _]) (Hin := [_]) ⟨rfl, rfl, rfl, rfl⟩ rfl ⟨rfl, rfl, trivial⟩ cal59 rfl rfl (c_IndexFunc_Key v ks 60 [vP b0 0] [_] (fun k => decide (g ≤ k.gen)) hk hn cal60 (fun H k => c_keys_place_1 k g b0)) ?_
  rintro _ _ ⟨rfl, rfl⟩
  refine ⟨trivial, ?_⟩
  change SL _ _ _ _ _ _ _ _ _ _ ((9, vI (if placeA g ks < ks.length then (placeA g ks : Int) else -1)) :: _) _
  generalize hpl : placeA g ks = pl
  refine SL.asg ⟨rfl, rfl, rfl, rfl⟩ rfl ?_
  refine SL.nx ?_
  refine SX.seq ?_
  refine SX.sr ?_
  refine SL.mv ⟨rfl, rfl, rfl, rfl⟩ rfl ?_
  refine SL.bin ⟨rfl, rfl, rfl, rfl⟩ rfl rfl Bin.ltI ?_
  refine SL.nx ?_
  refine SX.cond rfl (fun hc => ?_) (fun hc => ?_)
  · skip
    refine SX.sr ?_
    have hnl : ¬ pl < ks.length := by intro h; simp [h] at hc; omega
    have hpe : pl = ks.length := by have := placeA_le g ks; omega
    refine SL.mv ⟨rfl, rfl, rfl, rfl⟩ rfl ?_
    refine SL.lenV hk ⟨rfl, rfl, rfl, rfl⟩ ty32 rfl ?_
    refine SL.asg ⟨rfl, rfl, rfl, rfl⟩ rfl ?_
    refine SL.asg ⟨rfl, rfl, rfl, rfl⟩ rfl ?_
    refine SL.nx ?_
    refine SX.ret ?_
    refine SQ.thnR ?_
    exact SQ.fret (res2 rfl rfl rfl) (ret_of (M := []) ⟨by simp [thereA, hpl, hpe], rfl⟩ fun _ h => h.skip [_])
  · skip
    have hlt : pl < ks.length := by
      rcases Nat.lt_or_ge pl ks.length with h | h
      · exact h
      · simp [Nat.not_lt.2 h] at hc
    rw [if_pos hlt]
    obtain ⟨key, hkey⟩ := get_of_lt hlt
    refine SX.skip ?_
    refine SQ.thn ?_
    refine SX.seq ?_
    refine SX.drawI mix [0] (Pl.of [(true, 0), (true, 1), (true, 2), (true, 3), (true, 4), (true, 5), (true, 6), (true, 7), (true, 8), (true, 9)]) (by kernel_rfl) ?_
    refine SL.mv ⟨rfl, rfl, rfl, rfl⟩ rfl ?_
    refine SL.mv ⟨rfl, rfl, rfl, rfl⟩ rfl ?_
    refine SL.mv ⟨rfl, rfl, rfl, rfl⟩ rfl ?_
    refine SL.iaV pl key hk ⟨rfl, rfl, rfl, rfl⟩ ty32 sz44 rfl rfl rfl hkey fun be off hcell => ?_
    refine SL.fa ⟨rfl, rfl, rfl, rfl⟩ rfl fo44_0 ?_
    refine SL.ld ⟨rfl, rfl, rfl, rfl⟩ sc22 rfl (fun w hw => hcell _ w hw 0 _ rfl) ?_
    refine SL.ld ⟨rfl, rfl, rfl, rfl⟩ sc22 rfl (cell_own 0 rfl rfl) ?_
    refine SL.bin ⟨rfl, rfl, rfl, rfl⟩ rfl rfl Bin.eq32 ?_
    refine SL.asg ⟨rfl, rfl, rfl, rfl⟩ rfl ?_
    refine SL.asg ⟨rfl, rfl, rfl, rfl⟩ rfl ?_
    refine SL.nx ?_
    refine SX.ret ?_
    exact SQ.fret (res2 rfl rfl rfl) (ret_of (M := []) ⟨by simp [thereA, hpl, hkey], rfl⟩ fun _ h => h.skip [_])

theorem c_keys_Find (v : Value) (ks : List KeyA) (g : UInt32) (hk : SlOf K w0 encKey 2 v ks) (hv : v.cells = #[v]) (hn : ks.length ≤ 1099511627776) : Con Tryd.prog K w0 28 [v, vU32 g] [] H (fun r M => r = .tuple #[.agg (encKey (findA ks g).1).toArray, vI (findA ks g).2] ∧ M = []) := by
  refine Con.enter Tryd.func28 rfl rfl ?_
  refine SX.sr ?_
  refine SL.alloc ⟨rfl, rfl, rfl, rfl⟩ ze44 (fun _ => trivial) fun b0 => ?_
  refine SL.asg ⟨rfl, rfl, rfl, rfl⟩ rfl ?_
  refine SL.nx ?_
  refine SX.seq ?_
  refine SX.sr ?_
  refine SL.mv ⟨rfl, rfl, rfl, rfl⟩ rfl ?_
  refine SL.call (vs := [_]) (Hin := []) ⟨rfl, rfl, rfl, rfl⟩ rfl ⟨rfl, trivial⟩ cal38 rfl rfl (c_keys_Right v ks hk hv hn) ?_
  rintro _ _ ⟨rfl, rfl⟩
  refine ⟨trivial, ?_⟩
  refine SL.not ⟨rfl, rfl, rfl, rfl⟩ rfl ?_
  refine SL.nx ?_
  refine SX.cond rfl (fun hc => ?_) (fun hc => ?_)
  · skip
    have hf : findA ks g = (key0, 40) := by unfold findA; rw [if_pos (by simpa using hc)]
    rw [hf]
    refine SX.sr ?_
    refine SL.bld [] ⟨rfl, rfl, rfl, rfl⟩ pl44 pk44 ze44 trivial rfl ?_
    refine SL.st 0 ⟨rfl, rfl, rfl⟩ rfl rfl rfl sz44 rfl rfl rfl trivial ?_
    refine SL.asg ⟨rfl, rfl, rfl, rfl⟩ rfl ?_
    refine SL.nx ?_
    refine SX.ret ?_
    refine SQ.thnR ?_
    exact SQ.fret (resv2 rfl (resv.ag 0 (encKey key0) ag44 rfl rfl rfl rfl) rfl) (ret_of (M := []) ⟨rfl, rfl⟩ fun _ h => h.skip [_])
  · skip
    have hr : rightA ks = true := by simpa using hc
    refine SX.skip ?_
    refine SQ.thn ?_
    refine SX.sr ?_
    refine SL.mv ⟨rfl, rfl, rfl, rfl⟩ rfl ?_
    refine SL.mv ⟨rfl, rfl, rfl, rfl⟩ rfl ?_
    refine SL.call (vs := [_, _]) (Hin := []) ⟨rfl, rfl, rfl, rfl⟩ rfl ⟨rfl, rfl, trivial⟩ cal47 rfl rfl (c_keys_place v ks g hk hn) ?_
    rintro _ _ ⟨rfl, rfl⟩
    refine ⟨trivial, ?_⟩
    refine SL.mv ⟨rfl, rfl, rfl, rfl⟩ rfl ?_
    refine SL.ext ⟨rfl, rfl, rfl, rfl⟩ rfl rfl ?_
    refine SL.ext ⟨rfl, rfl, rfl, rfl⟩ rfl rfl ?_
    refine SL.asg ⟨rfl, rfl, rfl, rfl⟩ rfl ?_
    refine SL.asg ⟨rfl, rfl, rfl, rfl⟩ rfl ?_
    refine SL.nx ?_
    refine SX.seq ?_
    refine SX.sr ?_
    refine SL.mv ⟨rfl, rfl, rfl, rfl⟩ rfl ?_
    refine SL.not ⟨rfl, rfl, rfl, rfl⟩ rfl ?_
    refine SL.nx ?_
    refine SX.cond rfl (fun hc => ?_) (fun hc => ?_)
    · skip
      have hf : findA ks g = (key0, 41) := by
        have : thereA g ks = false := by simpa using hc
        unfold thereA at this
        unfold findA
        rw [hr]
        cases h : ks[placeA g ks]? with
        | none => simp
        | some k => rw [h] at this; simp at this; simp [this]
      rw [hf]
      refine SX.sr ?_
      refine SL.bld [] ⟨rfl, rfl, rfl, rfl⟩ pl44 pk44 ze44 trivial rfl ?_
      refine SL.st 0 ⟨rfl, rfl, rfl⟩ rfl rfl rfl sz44 rfl rfl rfl trivial ?_
      refine SL.asg ⟨rfl, rfl, rfl, rfl⟩ rfl ?_
      refine SL.nx ?_
      refine SX.ret ?_
      refine SQ.thnR ?_
      exact SQ.fret (resv2 rfl (resv.ag 0 (encKey key0) ag44 rfl rfl rfl rfl) rfl) (ret_of (M := []) ⟨rfl, rfl⟩ fun _ h => h.skip [_])
    · skip
      have hth : thereA g ks = true := by simpa using hc
      obtain ⟨key, hkey, hg⟩ : ∃ key, ks[placeA g ks]? = some key ∧ key.gen = g := by
        unfold thereA at hth
        cases h : ks[placeA g ks]? with
        | none => rw [h] at hth; cases hth
        | some k => rw [h] at hth; exact ⟨k, rfl, by simpa using hth⟩
      have hf : findA ks g = (key, 0) := by
        unfold findA
        rw [hr]
        simp [hkey, hg]
      rw [hf]
      refine SX.skip ?_
      refine SQ.thn ?_
      refine SX.sr ?_
      refine SL.mv ⟨rfl, rfl, rfl, rfl⟩ rfl ?_
      refine SL.mv ⟨rfl, rfl, rfl, rfl⟩ rfl ?_
      refine SL.iaV (placeA g ks) key hk ⟨rfl, rfl, rfl, rfl⟩ ty32 sz44 rfl rfl rfl hkey fun be off hcell => ?_
      refine SL.ldA (encKey key) ⟨rfl, rfl, rfl, rfl⟩ ag44 rfl rfl (cells_at (hcell _)) ?_
      refine SL.st 0 ⟨rfl, rfl, rfl⟩ rfl rfl rfl sz44 rfl rfl rfl trivial ?_
      refine SL.asg ⟨rfl, rfl, rfl, rfl⟩ rfl ?_
      refine SL.nx ?_
      refine SX.ret ?_
      exact SQ.fret (resv2 rfl (resv.ag 0 (encKey key) ag44 rfl rfl rfl rfl) rfl) (ret_of (M := []) ⟨rfl, rfl⟩ fun _ h => h.skip [_])

end Go.Proofs.YtnpnmdbleopikaaDoor

