/- Plain ChaCha20. No program in sight. No condition. -/
import Derived.Test.YtnpnmdbleopikaaDoorP3
namespace Go.Proofs.YtnpnmdbleopikaaDoor
open Go

def wordLE (s : List UInt8) (i : Nat) : UInt32 := byteAt s i ||| shl32 (byteAt s (i + 1)) 8 ||| shl32 (byteAt s (i + 2)) 16 ||| shl32 (byteAt s (i + 3)) 24
def wordsOf (s : List UInt8) : List UInt32 := (List.range (s.length / 4)).map fun j => wordLE s (4 * j)
theorem wordsOf_length (s : List UInt8) : (wordsOf s).length = s.length / 4 := by simp [wordsOf]
theorem wordLE_drop (s : List UInt8) (k i : Nat) : wordLE (s.drop k) i = wordLE s (k + i) := by
  have h : ∀ j, byteAt (s.drop k) j = byteAt s (k + j) := fun j => by simp [byteAt, List.getD_eq_getElem?_getD]
  simp only [wordLE, h, Nat.add_assoc]
theorem wordsOf_cons {s : List UInt8} (h : 4 ≤ s.length) : wordsOf s = wordLE s 0 :: wordsOf (s.drop 4) := by
  have e : s.length / 4 = (s.drop 4).length / 4 + 1 := by simp; omega
  unfold wordsOf
  rw [e, List.range_succ_eq_map, List.map_cons, List.map_map]
  congr 1
  apply List.map_congr_left
  intro j _
  simp only [Function.comp, wordLE_drop]
  congr 1
  omega
theorem wordsOf_short {s : List UInt8} (h : s.length < 4) : wordsOf s = [] := by
  have : s.length / 4 = 0 := by omega
  simp [wordsOf, this]
def expandW : List UInt8 := [101, 120, 112, 97, 110, 100, 32, 51, 50, 45, 98, 121, 116, 101, 32, 107]
/-- the sixteen words of a key, a counter and a nonce -/
def begunA (key : List UInt8) (counter : UInt32) (nonce : List UInt8) : List UInt32 := wordsOf expandW ++ wordsOf key ++ wordsOf (le32 counter) ++ wordsOf nonce
theorem begunA_length {key nonce : List UInt8} {counter : UInt32} (hk : key.length = 32) (hn : nonce.length = 12) : (begunA key counter nonce).length = 16 := by
  simp [begunA, wordsOf_length, hk, hn, expandW, le32]
structure Q4 where
  a : UInt32
  b : UInt32
  c : UInt32
  d : UInt32
def Q4.list (q : Q4) : List UInt32 := [q.a, q.b, q.c, q.d]
def rl (x : UInt32) (n : Nat) : UInt32 := shl32 x n ||| shr32 x (32 - n)
def Q4.step (q : Q4) (n m : Nat) : Q4 :=
  let a := q.a + q.b
  let d := rl (q.d ^^^ a) n
  let c := q.c + d
  ⟨a, rl (q.b ^^^ c) m, c, d⟩
def turnA : Nat → Nat
  | 0 => 16
  | _ => 8
def turnB : Nat → Nat
  | 0 => 12
  | _ => 7
def Q4.steps (q : Q4) : Nat → Q4
  | 0 => q
  | i + 1 => (q.steps i).step (turnA i) (turnB i)
def Q4.quarter (q : Q4) : Q4 := q.steps 2
/-- a quarter turn of four words of sixteen, in their place -/
def ixA (step i k : Nat) : Nat := 4 * k + (i + k * step) % 4
def setsN (ws : List UInt32) (ix : Nat → Nat) (q : List UInt32) : Nat → List UInt32
  | 0 => ws
  | k + 1 => (setsN ws ix q k).set (ix k) (q.getD k 0)
def qrA (ws : List UInt32) (ix : Nat → Nat) : List UInt32 :=
  setsN ws ix (Q4.quarter ⟨ws.getD (ix 0) 0, ws.getD (ix 1) 0, ws.getD (ix 2) 0, ws.getD (ix 3) 0⟩).list 4
theorem setsN_length (ws : List UInt32) (ix : Nat → Nat) (q : List UInt32) : ∀ k, (setsN ws ix q k).length = ws.length
  | 0 => rfl
  | k + 1 => by simp [setsN, setsN_length ws ix q k]
theorem qrA_length (ws : List UInt32) (ix : Nat → Nat) : (qrA ws ix).length = ws.length := setsN_length ..
def roundN (ws : List UInt32) (step : Nat) : Nat → List UInt32
  | 0 => ws
  | i + 1 => qrA (roundN ws step i) (ixA step i)
theorem roundN_length (ws : List UInt32) (step : Nat) : ∀ i, (roundN ws step i).length = ws.length
  | 0 => rfl
  | i + 1 => by rw [roundN, qrA_length, roundN_length ws step i]
def roundA (ws : List UInt32) (step : Nat) : List UInt32 := roundN ws step 4
def twoA (ws : List UInt32) : List UInt32 := roundA (roundA ws 0) 1
def tenN (ws : List UInt32) : Nat → List UInt32
  | 0 => ws
  | i + 1 => twoA (tenN ws i)
theorem tenN_length (ws : List UInt32) : ∀ i, (tenN ws i).length = ws.length
  | 0 => rfl
  | i + 1 => by simp only [tenN, twoA, roundA, roundN_length, tenN_length ws i]
def outA (ws was : List UInt32) : List UInt8 := (List.zipWith (· + ·) ws was).flatMap le32
/-- a block of the stream -/
def blockA (key : List UInt8) (counter : UInt32) (nonce : List UInt8) : List UInt8 := outA (tenN (begunA key counter nonce) 10) (begunA key counter nonce)
theorem blockA_length {key nonce : List UInt8} {counter : UInt32} (hk : key.length = 32) (hn : nonce.length = 12) : (blockA key counter nonce).length = 64 := by
  have h := begunA_length (counter := counter) hk hn
  have key2 : ∀ l : List UInt32, (l.flatMap le32).length = 4 * l.length := by
    intro l
    induction l with
    | nil => rfl
    | cons x r ih => rw [List.flatMap_cons, List.length_append, ih, List.length_cons]; simp [le32]; omega
  rw [blockA, outA, key2]
  simp [tenN_length, h]
/-- the stream's byte at a place -/
def streamA (key nonce : List UInt8) (i : Nat) : UInt8 := (blockA key (UInt32.ofNat (i / 64)) nonce).getD (i % 64) 0
/-- a text under the stream -/
def xorA (key nonce s : List UInt8) : List UInt8 := (List.range s.length).map fun i => s.getD i 0 ^^^ streamA key nonce i
theorem xorA_length (key nonce s : List UInt8) : (xorA key nonce s).length = s.length := by simp [xorA]
theorem xorA_xorA (key nonce s : List UInt8) : xorA key nonce (xorA key nonce s) = s := by
  refine List.ext_getElem (by simp [xorA_length]) fun i h1 h2 => ?_
  have e : (xorA key nonce s).getD i 0 = s[i] ^^^ streamA key nonce i := by
    simp [xorA, List.getD_eq_getElem?_getD, h2]
  have : (xorA key nonce (xorA key nonce s))[i] = (xorA key nonce s).getD i 0 ^^^ streamA key nonce i := by simp [xorA]
  rw [this, e, UInt8.xor_assoc, UInt8.xor_self, UInt8.xor_zero]
end Go.Proofs.YtnpnmdbleopikaaDoor
