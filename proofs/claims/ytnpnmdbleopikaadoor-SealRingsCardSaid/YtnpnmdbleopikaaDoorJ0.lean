/- Walks of the laws' own helpers: a key of one byte, the first thirty keys. Condition: at most 2^40 keys. -/
import Derived.Test.YtnpnmdbleopikaaDoorI1
namespace Go.Proofs.YtnpnmdbleopikaaDoor
open Go
variable {K : Nat → Prop} {w0 : World} {H : List Chunk}

def keyB (g : UInt32) (c : UInt8) : KeyA := ⟨g, List.replicate 32 c⟩
theorem repl_step (c : UInt8) (i : Nat) : (List.replicate (i + 1) c).map (fun b => vU8 b) = (List.replicate i c).map (fun b => vU8 b) ++ [vU8 c] := by
  rw [List.replicate_succ', List.map_append]
  rfl
theorem c_law06_key (g : UInt32) (c : UInt8) : Con Tryd.prog K w0 21 [vU32 g, vU8 c] [] H (fun v M => v = .agg (encKey (keyB g c)).toArray ∧ M = []) := by
  refine Con.enter Tryd.func21 rfl rfl ?_
  refine SX.sr ?_
  refine SL.alloc ⟨rfl, rfl, rfl, rfl⟩ ze44 (fun _ => trivial) fun b0 => ?_
  refine SL.nx ?_
  refine SX.sr ?_
  refine SL.asg ⟨rfl, rfl, rfl, rfl⟩ rfl ?_
  refine SL.nx ?_
  refine SX.seq ?_
  refine SX.sr ?_
  refine SL.asg ⟨rfl, rfl, rfl, rfl⟩ rfl ?_
  refine SL.nx ?_
  refine SX.block ?_
  refine SX.nilRow 5 1 ?_
  refine SX.mono (SX.loop (α := Nat × Value) (fun x => x.1 ≤ 32) (fun x => [(0, vU32 g), (1, vU8 c), (4, vP b0 0), (5, x.2), (6, vI x.1)]) (fun x => rowC 5 1 x.2 x.1 ((List.replicate x.1 c).map fun b => vU8 b) :: own b0 (.cells (encKey key0).toArray 44) :: H) (fun x => 32 - x.1) (fun x D hp => ?_) (0, .slice none 0 0) (by decide)) (by repeat' (first | exact trivial | refine And.intro rfl ?_))
  obtain ⟨i, v⟩ := x
  simp only at hp
  refine SX.seq ?_
  refine SX.sr ?_
  refine SL.mv ⟨rfl, rfl, rfl, rfl⟩ rfl ?_
  refine SL.bin ⟨rfl, rfl, rfl, rfl⟩ rfl rfl Bin.ltI ?_
  refine SL.nx ?_
  refine SX.cond rfl (fun hc1 => ?_) (fun hc1 => ?_)
  · skip
    have hi : i < 32 := by simp at hc1; omega
    refine SX.skip ?_
    refine SQ.thn ?_
    refine SX.seq ?_
    refine SX.block ?_
    refine SX.region ?_
    refine SL.mv ⟨rfl, rfl, rfl, rfl⟩ rfl ?_
    refine SL.mv ⟨rfl, rfl, rfl, rfl⟩ rfl ?_
    refine SL.bsl [_] ⟨rfl, rfl, rfl, rfl⟩ ty41 sz5 ze5 ⟨rfl, trivial⟩ rfl rfl rfl (by simp [Value.cells]) rfl rfl (fun _ => trivial) fun b1 => ?_
    refine SL.app 1 ⟨rfl, rfl, rfl, rfl⟩ (m := 1) (news := [vU8 c]) ty41 sz5 by5 ze5 rfl (by decide) rfl rfl rfl rfl (cells_all 0 rfl) (by simp [Value.oneCell']) (by omega) (by omega) (fun _ => trivial) fun v' => ?_
    refine SL.asg ⟨rfl, rfl, rfl, rfl⟩ rfl ?_
    refine SL.nil ?_
    refine SQ.blk ?_
    refine SQ.thn ?_
    refine SX.region ?_
    refine SL.mv ⟨rfl, rfl, rfl, rfl⟩ rfl ?_
    refine SL.bin ⟨rfl, rfl, rfl, rfl⟩ rfl rfl (Bin.addI (by omega) (by omega)) ?_
    refine SL.asg ⟨rfl, rfl, rfl, rfl⟩ rfl ?_
    refine SL.nil ?_
    refine SQ.again (i + 1, v') (by simp only; omega) (by simp only; omega) (by repeat' (first | exact trivial | refine And.intro rfl ?_)) (fun w hw => by
      simp only
      rw [repl_step]
      exact hw.skip [_])
  · skip
    have hi : i = 32 := by simp at hc1; omega
    subst hi
    refine SX.exit ?_
    refine SQ.thnE ?_
    refine SQ.lpE ?_
    refine SQ.blkE ?_
    refine SQ.thn ?_
    refine SX.sr ?_
    refine SL.mv ⟨rfl, rfl, rfl, rfl⟩ rfl ?_
    refine SL.mv ⟨rfl, rfl, rfl, rfl⟩ rfl ?_
    refine SL.btsR (s := List.replicate 32 c) 0 ⟨rfl, rfl, rfl, rfl⟩ ty41 ty5 ty9 rfl rfl ?_
    refine SL.bld [_, _] ⟨rfl, rfl, rfl, rfl⟩ pl44 pk44 ze44 ⟨rfl, rfl, trivial⟩ rfl ?_
    refine SL.st 1 ⟨rfl, rfl, rfl⟩ rfl rfl rfl sz44 rfl rfl rfl trivial ?_
    refine SL.nx ?_
    refine SX.ret ?_
    exact SQ.fret (resv1 rfl (resv.ag 1 (encKey (keyB g c)) ag44 rfl rfl rfl rfl)) (ret_of (M := []) ⟨rfl, rfl⟩ fun _ h => h.skip [_, _])

theorem c_law06_cut (v : Value) (l : List KeyA) (hk : SlOf K w0 encKey 2 v l) (hl : l.length ≤ 9223372036854775807) : Con Tryd.prog K w0 17 [v] [] H (fun r M => (∃ v', r = v' ∧ SlOf K w0 encKey 2 v' (l.take (min l.length 30))) ∧ M = []) := by
  refine Con.enter Tryd.func17 rfl rfl ?_
  refine SX.sr ?_
  refine SL.asg ⟨rfl, rfl, rfl, rfl⟩ rfl ?_
  refine SL.nx ?_
  refine SX.sr ?_
  refine SL.mv ⟨rfl, rfl, rfl, rfl⟩ rfl ?_
  refine SL.mv ⟨rfl, rfl, rfl, rfl⟩ rfl ?_
  refine SL.lenV hk ⟨rfl, rfl, rfl, rfl⟩ ty32 rfl ?_
  refine SL.minI ⟨rfl, rfl, rfl, rfl⟩ rfl rfl ?_
  refine SL.slV (min l.length 30) hk ⟨rfl, rfl, rfl, rfl⟩ ty32 sz44 rfl rfl (by omega) (by omega) fun v' hv' => ?_
  refine SL.asg ⟨rfl, rfl, rfl, rfl⟩ rfl ?_
  refine SL.nx ?_
  refine SX.ret ?_
  exact SQ.fret (res1 rfl rfl) (ret_of (M := []) ⟨⟨v', rfl, hv'⟩, rfl⟩ fun _ h => h.skip [])



end Go.Proofs.YtnpnmdbleopikaaDoor
