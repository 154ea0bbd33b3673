/- Plain subkeys and filled texts. No program in sight. No condition. -/
import Derived.Test.YtnpnmdbleopikaaDoorP2
import Derived.Test.YtnpnmdbleopikaaDoorP0
namespace Go.Proofs.YtnpnmdbleopikaaDoor
open Go

def sealW : List UInt8 := [115, 101, 97, 108]
def bindW : List UInt8 := [98, 105, 110, 100]
def le32 (x : UInt32) : List UInt8 := [x.toUInt8, (shr32 x 8).toUInt8, (shr32 x 16).toUInt8, (shr32 x 24).toUInt8]
def subA (T : List UInt32) (k : KeyA) (w : List UInt8) : List UInt8 := exp32 T k.secret (w ++ le32 k.gen)
theorem subA_length (T : List UInt32) (k : KeyA) (w : List UInt8) : (subA T k w).length = 32 := macA_length T _ _
theorem rightA_one {k : KeyA} (h : rightA [k] = true) : k.secret.length = 32 := by
  simp [rightA, gensA, keyOk, List.range_succ] at h
  omega
def padA (s : List UInt8) : List UInt8 := [toU8 ((s.length : Int) / 256), toU8 s.length] ++ s ++ List.replicate (198 - s.length) 0
theorem padA_length {s : List UInt8} (h : s.length ≤ 198) : (padA s).length = 200 := by simp [padA]; omega
def lenA (b : List UInt8) : Nat := (b.getD 0 0).toNat * 256 + (b.getD 1 0).toNat
def cleanA (b : List UInt8) : Prop := ∀ j, j < 198 - lenA b → b.getD (2 + lenA b + j) 0 = 0
instance (b : List UInt8) : Decidable (cleanA b) := by unfold cleanA; infer_instance
def unpadA (b : List UInt8) : List UInt8 × Int :=
  if b.length ≠ 200 then ([], 50) else if 198 < lenA b then ([], 50) else if cleanA b then ((b.drop 2).take (lenA b), 0) else ([], 50)
theorem unpad_pad {s : List UInt8} (h : s.length ≤ 198) : unpadA (padA s) = (s, 0) := by
  have hl : lenA (padA s) = s.length := by
    simp only [lenA, padA, List.cons_append, List.nil_append, List.getD_cons_zero, List.getD_cons_succ, toU8, UInt8.toNat_ofNat']
    omega
  have hc : cleanA (padA s) := by
    intro j hj
    rw [hl] at hj ⊢
    have : 2 + s.length + j = (s.length + j) + 1 + 1 := by omega
    rw [this]
    simp only [padA, List.cons_append, List.nil_append, List.getD_cons_succ]
    rw [List.getD_eq_getElem?_getD, List.getElem?_append_right (by omega), List.getElem?_replicate]
    split <;> rfl
  unfold unpadA
  rw [if_neg (by simp [padA_length h]), if_neg (by rw [hl]; omega), if_pos hc, hl]
  simp only [padA, List.cons_append, List.nil_append, List.drop_succ_cons, List.drop_zero, List.take_left]
end Go.Proofs.YtnpnmdbleopikaaDoor
