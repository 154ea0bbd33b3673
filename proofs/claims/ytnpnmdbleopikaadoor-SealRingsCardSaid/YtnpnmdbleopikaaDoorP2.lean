/- Plain HMAC over the plain sum, and the first text that a key expands to. No program in sight. No condition. -/
import Derived.Test.YtnpnmdbleopikaaDoorP1
namespace Go.Proofs.YtnpnmdbleopikaaDoor
open Go

theorem sumA_length (T : List UInt32) (s : List UInt8) : (sumA T s).length = 32 := by simp [sumA, St8.list, beBytes]
/-- a key's bytes: the key, or its sum where it is long -/
def keyOf (T : List UInt32) (key : List UInt8) : List UInt8 := if 64 < key.length then sumA T key else key
theorem keyOf_length (T : List UInt32) (key : List UInt8) : (keyOf T key).length ≤ 64 := by
  unfold keyOf
  split
  · rw [sumA_length]; omega
  · omega
def partA (T : List UInt32) (key : List UInt8) (c : UInt8) : List UInt8 := (List.range 64).map fun i => (keyOf T key).getD i 0 ^^^ c
theorem partA_length (T : List UInt32) (key : List UInt8) (c : UInt8) : (partA T key c).length = 64 := by simp [partA]
def macA (T : List UInt32) (key m : List UInt8) : List UInt8 := sumA T (partA T key 92 ++ sumA T (partA T key 54 ++ m))
theorem macA_length (T : List UInt32) (key m : List UInt8) : (macA T key m).length = 32 := sumA_length T _
def expN (T : List UInt32) (key label : List UInt8) : Nat → List UInt8
  | 0 => []
  | i + 1 => macA T key (expN T key label i ++ label ++ [toU8 ((i + 1 : Nat) : Int)])
def expA (T : List UInt32) (key label : List UInt8) : List (List UInt8) := (List.range 255).map fun i => expN T key label (i + 1)
theorem expA_length (T : List UInt32) (key label : List UInt8) : (expA T key label).length = 255 := by simp [expA]
theorem expA_get (T : List UInt32) (key label : List UInt8) (i : Nat) (h : i < 255) : (expA T key label)[i]? = some (expN T key label (i + 1)) := by simp [expA, h]
/-- the first thirty-two bytes that a key expands to -/
def exp32 (T : List UInt32) (key label : List UInt8) : List UInt8 := macA T key (label ++ [1])
theorem expN_one (T : List UInt32) (key label : List UInt8) : expN T key label 1 = exp32 T key label := by
  simp only [expN, exp32, List.nil_append]
  rfl
theorem expN_length (T : List UInt32) (key label : List UInt8) : ∀ i, (expN T key label i).length ≤ 32
  | 0 => by simp [expN]
  | i + 1 => by rw [expN, macA_length]; omega

theorem or_zero8 (x y : UInt8) : x ||| y = 0 ↔ x = 0 ∧ y = 0 := by
  rw [← UInt8.toBitVec_inj, ← UInt8.toBitVec_inj, ← UInt8.toBitVec_inj]
  exact BitVec.or_eq_zero_iff
theorem xor_zero8 (x y : UInt8) : x ^^^ y = 0 ↔ x = y := by
  rw [← UInt8.toBitVec_inj, ← UInt8.toBitVec_inj]
  exact BitVec.xor_eq_zero_iff
end Go.Proofs.YtnpnmdbleopikaaDoor
