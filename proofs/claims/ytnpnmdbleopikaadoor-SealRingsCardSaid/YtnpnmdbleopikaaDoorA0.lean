/- Walks of small functions: the tag of a block, words turned. No condition. -/
import Derived.Test.YtnpnmdbleopikaaDoorT0
namespace Go.Proofs.YtnpnmdbleopikaaDoor
open Go
variable {K : Nat → Prop} {w0 : World} {H : List Chunk}

theorem c_seal_Tag (b : List UInt8) (hb : b.length ≤ 9223372036854775807) : Con Tryd.prog K w0 15 [vS b] [] H (fun v M => v = vS (b.drop (b.length - 32)) ∧ M = []) := by
  refine Con.enter Tryd.func15 rfl rfl ?_
  refine SX.seq ?_
  refine SX.region ?_
  refine SL.asg ⟨rfl, rfl, rfl, rfl⟩ rfl ?_
  refine SL.nil ?_
  refine SQ.thn ?_
  refine SX.seq ?_
  refine SX.region ?_
  refine SL.mv ⟨rfl, rfl, rfl, rfl⟩ rfl ?_
  refine SL.mv ⟨rfl, rfl, rfl, rfl⟩ rfl ?_
  refine SL.lenS ⟨rfl, rfl, rfl, rfl⟩ ty9 rfl ?_
  refine SL.bin ⟨rfl, rfl, rfl, rfl⟩ rfl rfl (Bin.subI (by omega) (by omega)) ?_
  refine SL.maxI ⟨rfl, rfl, rfl, rfl⟩ rfl rfl ?_
  refine SL.slSl (b.length - 32) ⟨rfl, rfl, rfl, rfl⟩ ty9 rfl rfl (by omega) (by omega) ?_
  refine SL.asg ⟨rfl, rfl, rfl, rfl⟩ rfl ?_
  refine SL.nil ?_
  refine SQ.thn ?_
  refine SX.ret ?_
  exact SQ.fret (res1 rfl rfl) (ret_of (M := []) ⟨rfl, rfl⟩ fun _ h => h.skip [])

def rotl32 (x : UInt32) (k : Int) : UInt32 := shl32 x (toU64 k &&& 31).toNat ||| shr32 x (32 - (toU64 k &&& 31)).toNat
theorem c_math_bits_RotateLeft32 (x : UInt32) (k : Int) : Con Tryd.prog K w0 97 [vU32 x, vI k] [] H (fun v M => v = vU32 (rotl32 x k) ∧ M = []) := by
  refine Con.enter Tryd.func97 rfl rfl ?_
  refine SX.seq ?_
  refine SX.region ?_
  refine SL.asg ⟨rfl, rfl, rfl, rfl⟩ rfl ?_
  refine SL.nil ?_
  refine SQ.thn ?_
  refine SX.seq ?_
  refine SX.region ?_
  refine SL.mv ⟨rfl, rfl, rfl, rfl⟩ rfl ?_
  refine SL.cv ⟨rfl, rfl, rfl, rfl⟩ rfl (Cv.i_64 ty3 ty79) ?_
  refine SL.bin ⟨rfl, rfl, rfl, rfl⟩ rfl rfl (Bin.and64 (b := 31)) ?_
  refine SL.asg ⟨rfl, rfl, rfl, rfl⟩ rfl ?_
  refine SL.nil ?_
  refine SQ.thn ?_
  refine SX.seq ?_
  refine SX.region ?_
  refine SL.mv ⟨rfl, rfl, rfl, rfl⟩ rfl ?_
  refine SL.mv ⟨rfl, rfl, rfl, rfl⟩ rfl ?_
  refine SL.bin ⟨rfl, rfl, rfl, rfl⟩ rfl rfl Bin.shl32 ?_
  refine SL.mv ⟨rfl, rfl, rfl, rfl⟩ rfl ?_
  refine SL.mv ⟨rfl, rfl, rfl, rfl⟩ rfl ?_
  refine SL.bin ⟨rfl, rfl, rfl, rfl⟩ rfl rfl (Bin.sub64 (a := 32)) ?_
  refine SL.bin ⟨rfl, rfl, rfl, rfl⟩ rfl rfl Bin.shr32 ?_
  refine SL.bin ⟨rfl, rfl, rfl, rfl⟩ rfl rfl Bin.or32 ?_
  refine SL.asg ⟨rfl, rfl, rfl, rfl⟩ rfl ?_
  refine SL.nil ?_
  refine SQ.thn ?_
  refine SX.ret ?_
  exact SQ.fret (res1 rfl rfl) (ret_of (M := []) ⟨rfl, rfl⟩ fun _ h => h.skip [])
end Go.Proofs.YtnpnmdbleopikaaDoor
