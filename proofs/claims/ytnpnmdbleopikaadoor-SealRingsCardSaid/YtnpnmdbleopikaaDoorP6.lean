/- Plain sealed blocks. No program in sight. No condition. -/
import Derived.Test.YtnpnmdbleopikaaDoorP5
namespace Go.Proofs.YtnpnmdbleopikaaDoor
open Go

def padR (s : List UInt8) : List UInt8 × Int := if 198 < s.length then ([], 50) else (padA s, 0)
/-- what a tag binds -/
def boundA (T : List UInt32) (k : KeyA) (h : HeadA) (body : List UInt8) : List UInt8 := putA h ++ xorA (subA T k sealW) (nonceA h) body
def blkA (T : List UInt32) (k : KeyA) (h : HeadA) (s : List UInt8) : List UInt8 := boundA T k h (padA s) ++ macA T (subA T k bindW) (boundA T k h (padA s))
def sealA (T : List UInt32) (l : List KeyA) (h : HeadA) (s : List UInt8) : List UInt8 × Int :=
  if (findA l h.gen).2 ≠ 0 then ([], (findA l h.gen).2)
  else if 198 < s.length then ([], 50)
  else (blkA T (findA l h.gen).1 h s, 0)
def openA (T : List UInt32) (l : List KeyA) (b : List UInt8) : HeadA × List UInt8 × Int :=
  if rightA l = false then (head0, [], 40)
  else if b.length ≠ 256 then (head0, [], 61)
  else if (getA (b.take 24)).2 = false then (head0, [], 61)
  else if (findA l (getA (b.take 24)).1.gen).2 ≠ 0 then (head0, [], (findA l (getA (b.take 24)).1.gen).2)
  else if macA T (subA T (findA l (getA (b.take 24)).1.gen).1 bindW) (b.take 224) ≠ b.drop 224 then (head0, [], 61)
  else
    let h := (getA (b.take 24)).1
    let u := unpadA (xorA (subA T (findA l h.gen).1 sealW) (nonceA h) ((b.drop 24).take 200))
    if u.2 ≠ 0 ∨ (sealA T l h u.1).2 ≠ 0 ∨ (sealA T l h u.1).1 ≠ b then (head0, [], 61)
    else (h, u.1, 0)
theorem keyOk_right {l : List KeyA} {i : Nat} {k : KeyA} (hi : l[i]? = some k) (h : keyOk l i = true) : rightA [k] = true := by
  have hk : l.getD i key0 = k := getD_of hi
  simp only [keyOk, hk, Bool.and_eq_true, decide_eq_true_eq] at h
  have h0 : (0 : UInt32) < k.gen := by
    have h1 := h.1
    rw [UInt32.lt_iff_toNat_lt] at h1 ⊢
    have : (0 : UInt32).toNat = 0 := rfl
    omega
  simp [rightA, gensA, keyOk, List.range_succ, prevGen, h0, h.2]
theorem find_ok {l : List KeyA} {g : UInt32} (h : (findA l g).2 = 0) : rightA l = true ∧ (findA l g).1 ∈ l ∧ (findA l g).1.gen = g ∧ rightA [(findA l g).1] = true := by
  unfold findA at h ⊢
  split at h
  · simp at h
  · rename_i hr
    have hr' : rightA l = true := by simpa using hr
    rw [if_neg hr]
    refine ⟨hr', ?_⟩
    split at h
    · rename_i k hk
      split at h
      · rename_i hg
        simp only [hg, if_true]
        refine ⟨List.mem_of_getElem? hk, trivial, ?_⟩
        refine keyOk_right hk ?_
        simp only [rightA, Bool.and_eq_true, List.all_eq_true] at hr'
        obtain ⟨hlt, _⟩ := List.getElem?_eq_some_iff.1 hk
        exact hr'.2 _ (List.mem_of_getElem? (gensA_get l _ hlt))
      · simp at h
    · simp at h
theorem boundA_length (T : List UInt32) (k : KeyA) (h : HeadA) {body : List UInt8} (hb : body.length = 200) : (boundA T k h body).length = 224 := by simp [boundA, putA_length, xorA_length, hb]
theorem blkA_length (T : List UInt32) (k : KeyA) (h : HeadA) {s : List UInt8} (hs : s.length ≤ 198) : (blkA T k h s).length = 256 := by simp [blkA, boundA_length T k h (padA_length hs), macA_length]
end Go.Proofs.YtnpnmdbleopikaaDoor
