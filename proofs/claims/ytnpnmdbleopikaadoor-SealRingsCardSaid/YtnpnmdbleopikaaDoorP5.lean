/- Plain heads of blocks. No program in sight. No condition. -/
import Derived.Test.YtnpnmdbleopikaaDoorP4
namespace Go.Proofs.YtnpnmdbleopikaaDoor
open Go

structure HeadA where
  page : UInt32
  gen : UInt32
  boot : UInt32
  seq : UInt64
deriving DecidableEq
def encHead (h : HeadA) : List Value := [vU32 h.page, vU32 h.gen, vU32 h.boot, vU64 h.seq]
def head0 : HeadA := ⟨0, 0, 0, 0⟩
def lePut (n : UInt64) (w : Nat) : List UInt8 := (List.range w).map fun i => (shr64 n (8 * i)).toUInt8
theorem lePut_length (n : UInt64) (w : Nat) : (lePut n w).length = w := by simp [lePut]
theorem lePut_succ (n : UInt64) (w : Nat) : lePut n (w + 1) = lePut n w ++ [(shr64 n (8 * w)).toUInt8] := by simp [lePut, List.range_succ]
def nonceA (h : HeadA) : List UInt8 := lePut h.boot.toUInt64 4 ++ lePut h.seq 8
theorem nonceA_length (h : HeadA) : (nonceA h).length = 12 := by simp [nonceA, lePut_length]
def putA (h : HeadA) : List UInt8 := lePut h.page.toUInt64 4 ++ lePut h.gen.toUInt64 4 ++ nonceA h ++ [0, 0, 0, 0]
theorem putA_length (h : HeadA) : (putA h).length = 24 := by simp [putA, lePut_length, nonceA_length]
def leGetN (s : List UInt8) : Nat → UInt64
  | 0 => 0
  | k + 1 => leGetN s k ||| shl64 (s.getD k 0).toUInt64 (8 * k)
def widA : Nat → Nat
  | 3 => 8
  | _ => 4
def offA : Nat → Nat
  | 0 => 0
  | i + 1 => offA i + widA i
def fieldA (s : List UInt8) (i : Nat) : UInt64 := leGetN (s.drop (offA i)) (widA i)
def fieldsA (s : List UInt8) : List (Nat × UInt64) := (List.range 5).map fun i => (i, fieldA s i)
theorem fieldsA_get (s : List UInt8) (i : Nat) (h : i < 5) : (fieldsA s)[i]? = some (i, fieldA s i) := by simp [fieldsA, h]
theorem fieldsA_length (s : List UInt8) : (fieldsA s).length = 5 := by simp [fieldsA]
/-- the head with its first k fields read -/
def headN (s : List UInt8) (k : Nat) : HeadA :=
  ⟨if 0 < k then (fieldA s 0).toUInt32 else 0, if 1 < k then (fieldA s 1).toUInt32 else 0, if 2 < k then (fieldA s 2).toUInt32 else 0, if 3 < k then fieldA s 3 else 0⟩
def headA (s : List UInt8) : HeadA := ⟨(fieldA s 0).toUInt32, (fieldA s 1).toUInt32, (fieldA s 2).toUInt32, fieldA s 3⟩
def getA (s : List UInt8) : HeadA × Bool := if s.length = 24 ∧ putA (headA s) = s then (headA s, true) else (head0, false)
end Go.Proofs.YtnpnmdbleopikaaDoor
