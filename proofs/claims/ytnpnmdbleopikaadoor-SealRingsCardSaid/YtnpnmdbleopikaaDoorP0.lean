/- Plain lists of keys: what a ring is, what is found in it. No program in sight. No condition. -/
import Derived.Test.YtnpnmdbleopikaaDoorS11
namespace Go.Proofs.YtnpnmdbleopikaaDoor
open Go

structure KeyA where
  gen : UInt32
  secret : List UInt8
deriving DecidableEq
def encKey (k : KeyA) : List Value := [vU32 k.gen, vS k.secret]
def key0 : KeyA := ⟨0, []⟩
def maxKeys : Nat := 16
def keySize : Nat := 32

/-- the generation ahead of place i -/
def prevGen (ks : List KeyA) : Nat → UInt32
  | 0 => 0
  | i + 1 => (ks.getD i key0).gen
def keyOk (ks : List KeyA) (i : Nat) : Bool := decide (prevGen ks i < (ks.getD i key0).gen) && decide (((ks.getD i key0).secret.length : Int) = 32)
def gensA (ks : List KeyA) : List (UInt32 × Bool) := (List.range ks.length).map fun i => ((ks.getD i key0).gen, keyOk ks i)
def rightA (ks : List KeyA) : Bool := decide (ks.length ≤ 16) && (gensA ks).all (·.2)
/-- the first place of a generation at least so great -/
def placeA (gen : UInt32) (ks : List KeyA) : Nat := ks.findIdx fun k => decide (gen ≤ k.gen)
def thereA (gen : UInt32) (ks : List KeyA) : Bool :=
  match ks[placeA gen ks]? with
  | some k => decide (k.gen = gen)
  | none => false
def findA (ks : List KeyA) (gen : UInt32) : KeyA × Int :=
  if rightA ks = false then (key0, 40)
  else match ks[placeA gen ks]? with
    | some k => if k.gen = gen then (k, 0) else (key0, 41)
    | none => (key0, 41)
theorem gensA_length (ks : List KeyA) : (gensA ks).length = ks.length := by simp [gensA]
theorem gensA_get (ks : List KeyA) (i : Nat) (h : i < ks.length) : (gensA ks)[i]? = some ((ks.getD i key0).gen, keyOk ks i) := by
  simp [gensA, h]
theorem getD_of {ks : List KeyA} {i : Nat} {k : KeyA} (h : ks[i]? = some k) : ks.getD i key0 = k := by
  simp [List.getD_eq_getElem?_getD, h]
theorem placeA_le (gen : UInt32) (ks : List KeyA) : placeA gen ks ≤ ks.length := List.findIdx_le_length
theorem findIdx_at {α : Type} {φ : α → Bool} {xs : List α} {i : Nat} {x : α} (h : xs[i]? = some x) (hx : φ x = true) (hb : ∀ (j : Nat) (y : α), j < i → xs[j]? = some y → φ y = false) : xs.findIdx φ = i := by
  obtain ⟨hlt, rfl⟩ := List.getElem?_eq_some_iff.1 h
  exact (List.findIdx_eq hlt).2 ⟨hx, fun j hj => hb j _ hj (List.getElem?_eq_getElem _)⟩
theorem findIdx_no {α : Type} {φ : α → Bool} {xs : List α} (hb : ∀ (j : Nat) (y : α), xs[j]? = some y → φ y = false) : xs.findIdx φ = xs.length := by
  rw [List.findIdx_eq_length]
  intro x hx
  obtain ⟨j, hj⟩ := List.getElem?_of_mem hx
  exact hb j x hj
end Go.Proofs.YtnpnmdbleopikaaDoor
