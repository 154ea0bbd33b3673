/- Plain SHA-256, over a table of words that is left open: no program in sight. No condition. -/
import Derived.Test.YtnpnmdbleopikaaDoorS12
namespace Go.Proofs.YtnpnmdbleopikaaDoor
open Go

/-- a word turned right -/
def rotr (x : UInt32) (n : Nat) : UInt32 := shr32 x n ||| shl32 x (32 - n)
def byteAt (s : List UInt8) (i : Nat) : UInt32 := (s.getD i 0).toUInt32
def wordBE (s : List UInt8) (i : Nat) : UInt32 := shl32 (byteAt s i) 24 ||| shl32 (byteAt s (i + 1)) 16 ||| shl32 (byteAt s (i + 2)) 8 ||| byteAt s (i + 3)
def sig0 (x : UInt32) : UInt32 := rotr x 7 ^^^ rotr x 18 ^^^ shr32 x 3
def sig1 (x : UInt32) : UInt32 := rotr x 17 ^^^ rotr x 19 ^^^ shr32 x 10
/-- the next word of a part's sixty-four -/
def nextW (s : List UInt8) (ws : List UInt32) : UInt32 :=
  if ws.length < 16 then wordBE s (4 * ws.length)
  else ws.getD (ws.length - 16) 0 + ws.getD (ws.length - 7) 0 + sig0 (ws.getD (ws.length - 15) 0) + sig1 (ws.getD (ws.length - 2) 0)
def spreadN (s : List UInt8) : Nat → List UInt32
  | 0 => []
  | n + 1 => spreadN s n ++ [nextW s (spreadN s n)]
def spreadA (s : List UInt8) : List UInt32 := spreadN s 64
structure St8 where
  a : UInt32
  b : UInt32
  c : UInt32
  d : UInt32
  e : UInt32
  f : UInt32
  g : UInt32
  i : UInt32
def St8.list (s : St8) : List UInt32 := [s.a, s.b, s.c, s.d, s.e, s.f, s.g, s.i]
def St8.of (l : List UInt32) : St8 := ⟨l.getD 0 0, l.getD 1 0, l.getD 2 0, l.getD 3 0, l.getD 4 0, l.getD 5 0, l.getD 6 0, l.getD 7 0⟩
def St8.t1 (s : St8) (k w : UInt32) : UInt32 := s.i + (rotr s.e 6 ^^^ rotr s.e 11 ^^^ rotr s.e 25) + (s.e &&& s.f ^^^ (4294967295 ^^^ s.e) &&& s.g) + k + w
def St8.t2 (s : St8) : UInt32 := (rotr s.a 2 ^^^ rotr s.a 13 ^^^ rotr s.a 22) + (s.a &&& s.b ^^^ s.a &&& s.c ^^^ s.b &&& s.c)
def St8.step (s : St8) (k w : UInt32) : St8 := ⟨s.t1 k w + s.t2, s.a, s.b, s.c, s.d + s.t1 k w, s.e, s.f, s.g⟩
def roundsN (T ws : List UInt32) (h : List UInt32) : Nat → St8
  | 0 => St8.of h
  | n + 1 => (roundsN T ws h n).step (T.getD n 0) (ws.getD n 0)
/-- a part of sixty-four bytes, laid to eight words -/
def laysL (T : List UInt32) (h : List UInt32) (s : List UInt8) : List UInt32 := List.zipWith (· + ·) h (roundsN T (spreadA s) h 64).list
def laysA (T : List UInt32) (h : St8) (s : List UInt8) : St8 := St8.of (laysL T h.list s)
/-- all whole parts are laid; what is left -/
def absorb (T : List UInt32) (h : St8) (s : List UInt8) : St8 × List UInt8 :=
  if s.length < 64 then (h, s) else absorb T (laysA T h (s.take 64)) (s.drop 64)
termination_by s.length
decreasing_by simp; omega
def beBytes (w : UInt32) : List UInt8 := [(shr32 w 24).toUInt8, (shr32 w 16).toUInt8, (shr32 w 8).toUInt8, w.toUInt8]
def be64 (n : UInt64) : List UInt8 := [(shr64 n 56).toUInt8, (shr64 n 48).toUInt8, (shr64 n 40).toUInt8, (shr64 n 32).toUInt8, (shr64 n 24).toUInt8, (shr64 n 16).toUInt8, (shr64 n 8).toUInt8, (shr64 n 0).toUInt8]
def padZ (n : Nat) : Nat := (119 - n % 64) % 64
def tailA (n : Nat) : List UInt8 := [128] ++ List.replicate (padZ n) 0 ++ be64 (toU64 n * 8)
def firstA : St8 := ⟨1779033703, 3144134277, 1013904242, 2773480762, 1359893119, 2600822924, 528734635, 1541459225⟩
def sumA (T : List UInt32) (s : List UInt8) : List UInt8 := (absorb T firstA (s ++ tailA s.length)).1.list.flatMap beBytes

/-- the first k words summed -/
def mixN (h f : List UInt32) (k : Nat) : List UInt32 := (List.zipWith (· + ·) h f).take k ++ h.drop k
theorem mixN_length (h f : List UInt32) (hl : f.length = h.length) (k : Nat) : (mixN h f k).length = h.length := by
  simp [mixN, hl]; omega
theorem mixN_get (h f : List UInt32) (hl : f.length = h.length) (k : Nat) (hk : k < h.length) : (mixN h f k).getD k 0 = h.getD k 0 := by
  have e : ((List.zipWith (· + ·) h f).take k).length = k := by simp [hl]; omega
  simp only [mixN, List.getD_eq_getElem?_getD]
  rw [List.getElem?_append_right (by omega), e, Nat.sub_self, List.getElem?_drop]
  rfl
theorem mixN_set (h f : List UInt32) (hl : f.length = h.length) (k : Nat) (hk : k < h.length) : (mixN h f k).set k (h.getD k 0 + f.getD k 0) = mixN h f (k + 1) := by
  have e : ((List.zipWith (· + ·) h f).take k).length = k := by simp [hl]; omega
  have e1 : h.drop k = h[k] :: h.drop (k + 1) := List.drop_eq_getElem_cons hk
  have e2 : (List.zipWith (· + ·) h f).take (k + 1) = (List.zipWith (· + ·) h f).take k ++ [h[k] + f[k]'(by omega)] := by
    rw [List.take_add_one, List.getElem?_eq_getElem (by simp [hl]; omega)]
    simp
  simp only [mixN]
  rw [List.set_append_right _ _ (by omega), e, Nat.sub_self, e1, List.set_cons_zero, e2, List.append_assoc]
  simp [List.getD_eq_getElem?_getD, hk, hl]
theorem mixN_full (h f : List UInt32) (hl : f.length = h.length) : mixN h f h.length = List.zipWith (· + ·) h f := by
  simp only [mixN, List.drop_length, List.append_nil]
  exact List.take_of_length_le (by simp [hl])
theorem spreadN_length (s : List UInt8) : ∀ n, (spreadN s n).length = n
  | 0 => rfl
  | n + 1 => by simp [spreadN, spreadN_length s n]
theorem St8.of_list {l : List UInt32} (h : l.length = 8) : (St8.of l).list = l := by
  match l, h with
  | [a, b, c, d, e, f, g, i], _ => rfl
theorem laysL_length {T h : List UInt32} {s : List UInt8} (hh : h.length = 8) : (laysL T h s).length = 8 := by simp [laysL, hh, St8.list]
theorem absorb_short {T : List UInt32} {h : St8} {s : List UInt8} (hs : s.length < 64) : absorb T h s = (h, s) := by rw [absorb, if_pos hs]
theorem absorb_part {T : List UInt32} {h : St8} {p s : List UInt8} (hp : p.length = 64) : absorb T h (p ++ s) = absorb T (laysA T h p) s := by
  rw [absorb, if_neg (by simp; omega)]
  have h1 : (p ++ s).take 64 = p := by rw [← hp]; exact List.take_left
  have h2 : (p ++ s).drop 64 = s := by rw [← hp]; exact List.drop_left
  rw [h1, h2]
/-- the first j parts are laid -/
def partsN (T : List UInt32) (h : St8) (s : List UInt8) : Nat → St8
  | 0 => h
  | j + 1 => laysA T (partsN T h s j) ((s.drop (64 * j)).take 64)
theorem absorb_from (T : List UInt32) (h : St8) (s : List UInt8) : ∀ j, 64 * j ≤ s.length → absorb T h s = absorb T (partsN T h s j) (s.drop (64 * j))
  | 0, _ => by simp [partsN]
  | j + 1, hj => by
    rw [absorb_from T h s j (by omega)]
    have e : s.drop (64 * j) = (s.drop (64 * j)).take 64 ++ s.drop (64 * (j + 1)) := by
      have : s.drop (64 * (j + 1)) = (s.drop (64 * j)).drop 64 := by rw [List.drop_drop]; congr 1
      rw [this, List.take_append_drop]
    have h2 := absorb_part (T := T) (h := partsN T h s j) (p := (s.drop (64 * j)).take 64) (s := s.drop (64 * (j + 1))) (by simp; omega)
    rw [← e] at h2
    rw [h2]
    rfl
theorem absorb_parts (T : List UInt32) (h : St8) (s : List UInt8) : absorb T h s = (partsN T h s (s.length / 64), s.drop (64 * (s.length / 64))) := by
  rw [absorb_from T h s (s.length / 64) (by omega)]
  exact absorb_short (by simp; omega)
theorem absorb_rest (T : List UInt32) (h : St8) (s : List UInt8) : (absorb T h s).2.length < 64 := by
  rw [absorb_parts]
  simp
  omega
theorem absorb_append (T : List UInt32) (h : St8) (s t : List UInt8) : absorb T h (s ++ t) = absorb T (absorb T h s).1 ((absorb T h s).2 ++ t) := by
  have h1 := absorb_from T h (s ++ t) (s.length / 64) (by simp; omega)
  rw [h1, absorb_parts T h s]
  have e : (s ++ t).drop (64 * (s.length / 64)) = s.drop (64 * (s.length / 64)) ++ t := by
    rw [List.drop_append_of_le_length (by omega)]
  have e2 : ∀ j, 64 * j ≤ s.length → partsN T h (s ++ t) j = partsN T h s j := by
    intro j
    induction j with
    | zero => intro _; rfl
    | succ j ih =>
      intro hj
      simp only [partsN]
      rw [ih (by omega), List.drop_append_of_le_length (by omega), List.take_append_of_le_length (by simp; omega)]
  rw [e, e2 _ (by omega)]
theorem tail_whole (s : List UInt8) (n : Nat) (hn : s.length = n % 64) : (s ++ tailA n).length % 64 = 0 := by
  simp [tailA, padZ, be64]; omega
/-- where each part ends, and the part -/
def partsA (s : List UInt8) : List (Nat × List UInt8) := (List.range (s.length / 64)).map fun j => (64 * (j + 1), (s.drop (64 * j)).take 64)
theorem partsA_length (s : List UInt8) : (partsA s).length = s.length / 64 := by simp [partsA]
theorem partsA_get (s : List UInt8) (j : Nat) (h : j < s.length / 64) : (partsA s)[j]? = some (64 * (j + 1), (s.drop (64 * j)).take 64) := by simp [partsA, h]
/-- the cells of one that sums -/
def encS (s : List UInt8) : List Value := [vS s]
def sumC (h : St8) (rest : List UInt8) (n : Int) : Array Value := #[vU32 h.a, vU32 h.b, vU32 h.c, vU32 h.d, vU32 h.e, vU32 h.f, vU32 h.g, vU32 h.i, vS rest, vI n]
end Go.Proofs.YtnpnmdbleopikaaDoor
