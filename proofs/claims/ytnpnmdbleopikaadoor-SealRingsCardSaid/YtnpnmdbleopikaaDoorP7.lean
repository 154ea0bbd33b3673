/- Plain laws of sealed blocks: what was sealed is opened, and the other way; tags; rings. No program in sight. No condition. -/
import Derived.Test.YtnpnmdbleopikaaDoorP6
namespace Go.Proofs.YtnpnmdbleopikaaDoor
open Go

/-! ### Heads -/
theorem lePut_getD (n : UInt64) (w i : Nat) (h : i < w) (r : List UInt8) : (lePut n w ++ r).getD i 0 = (shr64 n (8 * i)).toUInt8 := by
  rw [List.getD_eq_getElem?_getD, List.getElem?_append_left (by simp [lePut_length, h])]
  simp [lePut, h]
theorem shr64_nat (n : UInt64) (k : Nat) (h : k ≤ 64) : (shr64 n k).toNat = n.toNat / 2 ^ k := by
  have h1 := n.toNat_lt
  simp only [shr64, UInt64.toNat_ofNat', Nat.min_eq_left h]
  refine Nat.mod_eq_of_lt (Nat.lt_of_le_of_lt (Nat.div_le_self _ _) h1)
theorem shl64_byte (b : UInt8) (k : Nat) (h : k ≤ 56) : (shl64 b.toUInt64 k).toNat = b.toNat * 2 ^ k := by
  have h1 := b.toNat_lt
  simp only [shl64, UInt64.toNat_ofNat', Nat.min_eq_left (show k ≤ 64 by omega), UInt8.toNat_toUInt64]
  refine Nat.mod_eq_of_lt ?_
  calc b.toNat * 2 ^ k < 2 ^ 8 * 2 ^ k := Nat.mul_lt_mul_of_pos_right h1 (Nat.two_pow_pos k)
    _ = 2 ^ (8 + k) := (Nat.pow_add 2 8 k).symm
    _ ≤ 2 ^ 64 := Nat.pow_le_pow_right (by decide) (by omega)
theorem leGet_put (n : UInt64) (w : Nat) (r : List UInt8) (hw : w ≤ 8) : ∀ k, k ≤ w → (leGetN (lePut n w ++ r) k).toNat = n.toNat % 2 ^ (8 * k)
  | 0, _ => by simp [leGetN, Nat.mod_one]
  | k + 1, hk => by
    have ih := leGet_put n w r hw k (by omega)
    rw [leGetN, UInt64.toNat_or, ih, shl64_byte _ _ (by omega), lePut_getD n w k (by omega), UInt64.toNat_toUInt8, shr64_nat _ _ (by omega)]
    have hlt : n.toNat % 2 ^ (8 * k) < 2 ^ (8 * k) := Nat.mod_lt _ (Nat.two_pow_pos _)
    rw [Nat.or_comm, Nat.mul_comm _ (2 ^ (8 * k)), ← Nat.two_pow_add_eq_or_of_lt hlt, show 8 * (k + 1) = 8 * k + 8 by omega, Nat.pow_add, Nat.mod_mul, Nat.add_comm]
theorem drop_lePut (n : UInt64) (w : Nat) (r : List UInt8) : (lePut n w ++ r).drop w = r := by
  rw [List.drop_append_of_le_length (by simp [lePut_length]), List.drop_of_length_le (by simp [lePut_length]), List.nil_append]
theorem putA_eq (h : HeadA) : putA h = lePut h.page.toUInt64 4 ++ (lePut h.gen.toUInt64 4 ++ (lePut h.boot.toUInt64 4 ++ (lePut h.seq 8 ++ [0, 0, 0, 0]))) := by
  simp [putA, nonceA]
theorem u32_get (x : UInt32) (r : List UInt8) : (leGetN (lePut x.toUInt64 4 ++ r) 4).toUInt32 = x := by
  have h := leGet_put x.toUInt64 4 r (by decide) 4 (by decide)
  apply UInt32.toNat_inj.1
  have hx := x.toNat_lt
  rw [UInt64.toNat_toUInt32, h]
  simp only [UInt32.toNat_toUInt64]
  omega
theorem u64_get (x : UInt64) (r : List UInt8) : leGetN (lePut x 8 ++ r) 8 = x := by
  have h := leGet_put x 8 r (by decide) 8 (by decide)
  apply UInt64.toNat_inj.1
  rw [h]
  exact Nat.mod_eq_of_lt x.toNat_lt
theorem headA_putA (h : HeadA) : headA (putA h) = h := by
  have e1 : (putA h).drop 4 = lePut h.gen.toUInt64 4 ++ (lePut h.boot.toUInt64 4 ++ (lePut h.seq 8 ++ [0, 0, 0, 0])) := by rw [putA_eq, drop_lePut]
  have e2 : (putA h).drop 8 = lePut h.boot.toUInt64 4 ++ (lePut h.seq 8 ++ [0, 0, 0, 0]) := by
    rw [show 8 = 4 + 4 from rfl, ← List.drop_drop, e1, drop_lePut]
  have e3 : (putA h).drop 12 = lePut h.seq 8 ++ [0, 0, 0, 0] := by
    rw [show 12 = 8 + 4 from rfl, ← List.drop_drop, e2, drop_lePut]
  unfold headA fieldA
  have o0 : offA 0 = 0 := rfl
  have o1 : offA 1 = 4 := rfl
  have o2 : offA 2 = 8 := rfl
  have o3 : offA 3 = 12 := rfl
  have w0 : widA 0 = 4 := rfl
  have w1 : widA 1 = 4 := rfl
  have w2 : widA 2 = 4 := rfl
  have w3 : widA 3 = 8 := rfl
  rw [o0, o1, o2, o3, w0, w1, w2, w3, List.drop_zero, e1, e2, e3, u32_get, u32_get, u64_get, putA_eq, u32_get]
theorem getA_putA (h : HeadA) : getA (putA h) = (h, true) := by
  unfold getA
  rw [headA_putA, if_pos ⟨putA_length h, rfl⟩]

/-! ### Keys -/
theorem rightA_iff (l : List KeyA) : rightA l = true ↔ l.length ≤ 16 ∧ ∀ i, i < l.length → prevGen l i < (l.getD i key0).gen ∧ (l.getD i key0).secret.length = 32 := by
  simp only [rightA, gensA, keyOk, Bool.and_eq_true, decide_eq_true_eq, List.all_eq_true, List.mem_map, List.mem_range]
  constructor
  · rintro ⟨h1, h2⟩
    refine ⟨h1, fun i hi => ?_⟩
    have := h2 _ ⟨i, hi, rfl⟩
    simp only [Bool.and_eq_true, decide_eq_true_eq] at this
    exact ⟨this.1, by omega⟩
  · rintro ⟨h1, h2⟩
    refine ⟨h1, ?_⟩
    rintro _ ⟨i, hi, rfl⟩
    have := h2 i hi
    simp only [Bool.and_eq_true, decide_eq_true_eq]
    exact ⟨this.1, by omega⟩
theorem right_mono {l : List KeyA} (h : rightA l = true) : ∀ j i, i < j → j < l.length → (l.getD i key0).gen < (l.getD j key0).gen
  | 0, i, hi, _ => by omega
  | j + 1, i, hi, hj => by
    have h1 := ((rightA_iff l).1 h).2 (j + 1) hj
    rcases Nat.lt_or_ge i j with hlt | hge
    · exact UInt32.lt_trans (right_mono h j i hlt (by omega)) h1.1
    · rw [show i = j by omega]; exact h1.1
theorem right_pos {l : List KeyA} (h : rightA l = true) : ∀ i, i < l.length → 0 < (l.getD i key0).gen := by
  intro i hi
  have h0 := ((rightA_iff l).1 h).2 0 (by omega)
  rcases Nat.eq_zero_or_pos i with rfl | hp
  · exact h0.1
  · exact UInt32.lt_trans h0.1 (right_mono h i 0 hp hi)
/-- a right ring, said of its members -/
theorem right_iff (l : List KeyA) : rightA l = true ↔ l.length ≤ 16 ∧ l.Pairwise (fun a b => a.gen < b.gen) ∧ ∀ k ∈ l, 0 < k.gen ∧ k.secret.length = 32 := by
  constructor
  · intro h
    have h1 := (rightA_iff l).1 h
    refine ⟨h1.1, ?_, ?_⟩
    · rw [List.pairwise_iff_getElem]
      intro i j hi hj hij
      have := right_mono h j i hij hj
      rwa [getD_of (List.getElem?_eq_getElem hi), getD_of (List.getElem?_eq_getElem hj)] at this
    · intro k hk
      obtain ⟨i, hi, rfl⟩ := List.getElem_of_mem hk
      have h2 := right_pos h i hi
      have h3 := (h1.2 i hi).2
      rw [getD_of (List.getElem?_eq_getElem hi)] at h2 h3
      exact ⟨h2, h3⟩
  · rintro ⟨h1, h2, h3⟩
    refine (rightA_iff l).2 ⟨h1, fun i hi => ?_⟩
    have hm := h3 _ (List.getElem_mem hi)
    rw [getD_of (List.getElem?_eq_getElem hi)]
    refine ⟨?_, hm.2⟩
    match i, hi with
    | 0, hi => exact hm.1
    | i + 1, hi =>
      have := (List.pairwise_iff_getElem.1 h2) i (i + 1) (by omega) hi (by omega)
      rw [prevGen, getD_of (List.getElem?_eq_getElem (by omega))]
      exact this
theorem find_iff {l : List KeyA} {g : UInt32} {k : KeyA} : findA l g = (k, 0) ↔ rightA l = true ∧ k ∈ l ∧ k.gen = g := by
  constructor
  · intro h
    have := find_ok (l := l) (g := g) (by rw [h])
    rw [h] at this
    exact ⟨this.1, this.2.1, this.2.2.1⟩
  · rintro ⟨hr, hk, rfl⟩
    obtain ⟨i, hi, rfl⟩ := List.getElem_of_mem hk
    have hp : placeA l[i].gen l = i := by
      refine findIdx_at (List.getElem?_eq_getElem hi) (by simp) fun j y hj hy => ?_
      have := right_mono hr i j hj hi
      rw [getD_of hy, getD_of (List.getElem?_eq_getElem hi)] at this
      rw [decide_eq_false_iff_not, UInt32.not_le]
      exact this
    simp [findA, hr, hp, hi]
theorem right_filter {l : List KeyA} {φ : KeyA → Bool} (h : rightA l = true) : rightA (l.filter φ) = true := by
  obtain ⟨h1, h2, h3⟩ := (right_iff l).1 h
  exact (right_iff _).2 ⟨Nat.le_trans (List.length_filter_le ..) h1, h2.filter _, fun k hk => h3 k (List.mem_filter.1 hk).1⟩
theorem find_pair {l : List KeyA} {g : UInt32} (h : (findA l g).2 = 0) : findA l g = ((findA l g).1, 0) := by rw [← h]
theorem find_filter {l : List KeyA} {g : UInt32} {φ : KeyA → Bool} (h : (findA l g).2 = 0) (hφ : ∀ k, k.gen = g → φ k = true) : findA (l.filter φ) g = findA l g := by
  obtain ⟨h1, h2, h3⟩ := find_iff.1 (find_pair h)
  rw [find_pair h]
  exact find_iff.2 ⟨right_filter h1, List.mem_filter.2 ⟨h2, hφ _ h3⟩, h3⟩

/-! ### Blocks -/
theorem seal_ok {T : List UInt32} {l : List KeyA} {h : HeadA} {s : List UInt8} (e : (sealA T l h s).2 = 0) : (findA l h.gen).2 = 0 ∧ s.length ≤ 198 ∧ sealA T l h s = (blkA T (findA l h.gen).1 h s, 0) := by
  unfold sealA at e ⊢
  split at e
  · rename_i h1; exact absurd e h1
  · rename_i h1
    split at e
    · simp at e
    · rename_i h2
      exact ⟨by simpa using h1, by omega, by rw [if_neg h1, if_neg h2]⟩
theorem seal_err {T : List UInt32} {l : List KeyA} {h : HeadA} {s : List UInt8} (e : (sealA T l h s).2 ≠ 0) : (sealA T l h s).1 = [] := by
  unfold sealA at e ⊢
  split
  · rfl
  · split
    · rfl
    · rename_i h1 h2
      rw [if_neg h1, if_neg h2] at e
      exact absurd rfl e
theorem blk_take224 {T : List UInt32} {k : KeyA} {h : HeadA} {s : List UInt8} (hs : s.length ≤ 198) : (blkA T k h s).take 224 = boundA T k h (padA s) := by
  rw [blkA, List.take_append_of_le_length (by simp [boundA_length T k h (padA_length hs)])]
  exact List.take_of_length_le (by simp [boundA_length T k h (padA_length hs)])
theorem blk_drop224 {T : List UInt32} {k : KeyA} {h : HeadA} {s : List UInt8} (hs : s.length ≤ 198) : (blkA T k h s).drop 224 = macA T (subA T k bindW) (boundA T k h (padA s)) := by
  rw [blkA, List.drop_append_of_le_length (by simp [boundA_length T k h (padA_length hs)]), List.drop_of_length_le (by simp [boundA_length T k h (padA_length hs)]), List.nil_append]
theorem blk_take24 {T : List UInt32} {k : KeyA} {h : HeadA} {s : List UInt8} : (blkA T k h s).take 24 = putA h := by
  rw [blkA, boundA, List.append_assoc, List.take_append_of_le_length (by simp [putA_length]), List.take_of_length_le (by simp [putA_length])]
theorem blk_body {T : List UInt32} {k : KeyA} {h : HeadA} {s : List UInt8} (hs : s.length ≤ 198) : ((blkA T k h s).drop 24).take 200 = xorA (subA T k sealW) (nonceA h) (padA s) := by
  rw [blkA, boundA, List.append_assoc, List.drop_append_of_le_length (by simp [putA_length]), List.drop_of_length_le (by simp [putA_length]), List.nil_append,
    List.take_append_of_le_length (by simp [xorA_length, padA_length hs]), List.take_of_length_le (by simp [xorA_length, padA_length hs])]
theorem open_seal {T : List UInt32} {l : List KeyA} {h : HeadA} {s : List UInt8} (e : (sealA T l h s).2 = 0) : openA T l (sealA T l h s).1 = (h, s, 0) := by
  obtain ⟨hf, hs, he⟩ := seal_ok e
  have hr := (find_ok hf).1
  rw [he]
  simp only
  unfold openA
  rw [if_neg (by simp [hr]), if_neg (by simp [blkA_length _ _ _ hs]), blk_take24, getA_putA, if_neg (by simp), if_neg (by simp [hf]), blk_take224 hs, blk_drop224 hs, if_neg (by simp), blk_body hs]
  simp only [xorA_xorA, unpad_pad hs, he]
  simp
theorem open_ok {T : List UInt32} {l : List KeyA} {b : List UInt8} (e : (openA T l b).2.2 = 0) : sealA T l (openA T l b).1 (openA T l b).2.1 = (b, 0) := by
  unfold openA at e ⊢
  split at e
  · simp at e
  · rename_i h1
    rw [if_neg h1]
    split at e
    · simp at e
    · rename_i h2
      rw [if_neg h2]
      split at e
      · simp at e
      · rename_i h3
        rw [if_neg h3]
        split at e
        · rename_i h4; exact absurd e h4
        · rename_i h4
          rw [if_neg h4]
          split at e
          · simp at e
          · rename_i h5
            rw [if_neg h5]
            simp only at e ⊢
            split at e
            · simp at e
            · rename_i h6
              rw [if_neg h6]
              simp only [not_or, Classical.not_not] at h6
              exact Prod.ext h6.2.2 h6.2.1
theorem open_err {T : List UInt32} {l : List KeyA} {b : List UInt8} (e : (openA T l b).2.2 ≠ 0) : (openA T l b).1 = head0 ∧ (openA T l b).2.1 = [] := by
  unfold openA at e ⊢
  simp only at e ⊢
  split
  · exact ⟨rfl, rfl⟩
  split
  · exact ⟨rfl, rfl⟩
  split
  · exact ⟨rfl, rfl⟩
  split
  · exact ⟨rfl, rfl⟩
  split
  · exact ⟨rfl, rfl⟩
  split
  · exact ⟨rfl, rfl⟩
  · rename_i h1 h2 h3 h4 h5 h6
    rw [if_neg h1, if_neg h2, if_neg h3, if_neg h4, if_neg h5, if_neg h6] at e
    exact absurd rfl e
theorem open_turned {T : List UInt32} {l : List KeyA} {h : HeadA} {s : List UInt8} {i : Nat} {c : UInt8} (e : (sealA T l h s).2 = 0) (hi : 224 ≤ i) (hl : i < (sealA T l h s).1.length) (hc : (sealA T l h s).1.getD i 0 ≠ c) :
    openA T l ((sealA T l h s).1.take i ++ [c] ++ (sealA T l h s).1.drop (i + 1)) = (head0, [], 61) := by
  obtain ⟨hf, hs, he⟩ := seal_ok e
  have hr := (find_ok hf).1
  rw [he] at hl hc ⊢
  simp only at hl hc ⊢
  have hbl := blkA_length T (findA l h.gen).1 h hs
  generalize hb : blkA T (findA l h.gen).1 h s = b at *
  have ht : ∀ n, n ≤ 224 → (b.take i ++ [c] ++ b.drop (i + 1)).take n = b.take n := by
    intro n hn
    rw [List.append_assoc, List.take_append_of_le_length (by simp; omega), List.take_take, Nat.min_eq_left (by omega)]
  have hlen : (b.take i ++ [c] ++ b.drop (i + 1)).length = 256 := by simp; omega
  unfold openA
  rw [if_neg (by simp [hr]), if_neg (fun hne => hne hlen), ht 24 (by decide), ht 224 (by decide), ← hb, blk_take24, getA_putA, if_neg (by simp), if_neg (by simp [hf]), if_pos]
  rw [blk_take224 hs, ← blk_drop224 hs, hb]
  intro heq
  have h1 := congrArg (fun x => x.getD (i - 224) 0) heq
  simp only [List.getD_eq_getElem?_getD, List.getElem?_drop] at h1
  rw [show 224 + (i - 224) = i by omega, List.append_assoc, List.getElem?_append_right (by simp; omega)] at h1
  rw [List.getD_eq_getElem?_getD] at hc
  refine hc ?_
  rw [h1]
  simp [Nat.min_eq_left (Nat.le_of_lt hl)]
theorem seal_filter {T : List UInt32} {l : List KeyA} {h : HeadA} {s : List UInt8} {φ : KeyA → Bool} (e : (sealA T l h s).2 = 0) (hφ : ∀ k, k.gen = h.gen → φ k = true) : sealA T (l.filter φ) h s = sealA T l h s := by
  obtain ⟨hf, hs, he⟩ := seal_ok e
  unfold sealA
  rw [find_filter hf hφ]
/-- what a law's beginning shows -/
theorem right_key (g : UInt32) (x : List UInt8) (hg : 0 < g) (hx : x.length = 32) : rightA [⟨g, x⟩] = true := (right_iff _).2 ⟨by simp, by simp, by simp [hg, hx]⟩
theorem seal_key (T : List UInt32) (g : UInt32) (x : List UInt8) (h : HeadA) (s : List UInt8) (hg : 0 < g) (hx : x.length = 32) (hh : h.gen = g) (hs : s.length ≤ 198) : sealA T [⟨g, x⟩] h s = (blkA T ⟨g, x⟩ h s, 0) := by
  have : findA [⟨g, x⟩] h.gen = (⟨g, x⟩, 0) := find_iff.2 ⟨right_key g x hg hx, by simp, hh.symm⟩
  unfold sealA
  rw [this, if_neg (by simp), if_neg (by omega)]
end Go.Proofs.YtnpnmdbleopikaaDoor
