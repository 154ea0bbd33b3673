/- The texts V1, V2, V3, U4, U5, V4, one behind the other, of the proof of ROpens: each bears its own sentence. Conditions: as each says. -/
import Derived.Test.YtnpnmdbleopikaaDoorMC1
import Derived.Test.YtnpnmdbleopikaaDoorMC2
import Derived.Test.YtnpnmdbleopikaaDoorMC3
import Derived.Test.YtnpnmdbleopikaaDoorMC4

/- The reference of ChaCha20 answers as the plain one. No program in sight. No condition beyond those stated. -/
namespace Go.Proofs.YtnpnmdbleopikaaDoor
open Go

theorem t01 (x : UInt32) (n : Nat) (h : n ≤ 32) : f_ref01_turned x (n : Int) = some (rl x n) := by
  unfold f_ref01_turned
  rw [shN_nat, some_bind, wI_eq (by omega) (by omega), show (32 - (n : Int)) = ((32 - n : Nat) : Int) by omega, shN_nat, some_bind]
  rfl
theorem quarter01 (a b c d : UInt32) : f_ref01_Quarter a b c d = some (Q4.quarter ⟨a, b, c, d⟩).list := by
  have t16 : ∀ x, f_ref01_turned x 16 = some (rl x 16) := fun x => t01 x 16 (by decide)
  have t12 : ∀ x, f_ref01_turned x 12 = some (rl x 12) := fun x => t01 x 12 (by decide)
  have t8 : ∀ x, f_ref01_turned x 8 = some (rl x 8) := fun x => t01 x 8 (by decide)
  have t7 : ∀ x, f_ref01_turned x 7 = some (rl x 7) := fun x => t01 x 7 (by decide)
  simp only [f_ref01_Quarter, ret, t16, t12, t8, t7, some_bind]
  rfl
theorem word01 (s : List UInt8) (i : Nat) (h : i + 3 < s.length) (hi : s.length ≤ 1099511627776) : f_ref01_word s (i : Int) = some (wordLE s i) := by
  unfold f_ref01_word
  rw [nthI_getD (k := i) 0 rfl (by omega), some_bind, wI_eq (by omega) (by omega), nthI_getD (k := i + 1) 0 (by omega) (by omega), some_bind,
    wI_eq (by omega) (by omega), nthI_getD (k := i + 2) 0 (by omega) (by omega), some_bind, wI_eq (by omega) (by omega), nthI_getD (k := i + 3) 0 (by omega) (by omega), some_bind]
  rfl
theorem word_le32 (c : UInt32) : wordLE (le32 c) 0 = c := by
  apply UInt32.toNat_inj.1
  have hc := c.toNat_lt
  have e8 : ∀ k, k ≤ 32 → (shr32 c k).toNat = c.toNat / 2 ^ k := fun k hk => by
    simp only [shr32, UInt32.toNat_ofNat', Nat.min_eq_left hk]
    exact Nat.mod_eq_of_lt (Nat.lt_of_le_of_lt (Nat.div_le_self _ _) hc)
  have s8 : ∀ (x : UInt8) k, k ≤ 24 → (shl32 x.toUInt32 k).toNat = x.toNat * 2 ^ k := fun x k hk => by
    have hx := x.toNat_lt
    simp only [shl32, UInt32.toNat_ofNat', UInt8.toNat_toUInt32, Nat.min_eq_left (show k ≤ 32 by omega)]
    refine Nat.mod_eq_of_lt ?_
    calc x.toNat * 2 ^ k < 2 ^ 8 * 2 ^ k := Nat.mul_lt_mul_of_pos_right hx (Nat.two_pow_pos k)
      _ = 2 ^ (8 + k) := (Nat.pow_add 2 8 k).symm
      _ ≤ 2 ^ 32 := Nat.pow_le_pow_right (by decide) (by omega)
  have key : ∀ (a b k : Nat), a < 2 ^ k → a ||| b * 2 ^ k = a + b * 2 ^ k := fun a b k h => by
    rw [Nat.or_comm, Nat.mul_comm, ← Nat.two_pow_add_eq_or_of_lt h, Nat.add_comm]
  show (wordLE [c.toUInt8, (shr32 c 8).toUInt8, (shr32 c 16).toUInt8, (shr32 c 24).toUInt8] 0).toNat = _
  simp only [wordLE, byteAt, List.getD_cons_zero, List.getD_cons_succ, Nat.zero_add]
  rw [UInt32.toNat_or, UInt32.toNat_or, UInt32.toNat_or, s8 _ 8 (by omega), s8 _ 16 (by omega), s8 _ 24 (by omega)]
  simp only [UInt8.toNat_toUInt32, UInt32.toNat_toUInt8, e8 8 (by omega), e8 16 (by omega), e8 24 (by omega)]
  rw [key _ _ 8 (by omega), key _ _ 16 (by omega), key _ _ 24 (by omega)]
  omega
theorem state01 (key : List UInt8) (counter : UInt32) (nonce : List UInt8) (hk : key.length = 32) (hn : nonce.length = 12) {n : Nat} (hm : 8 < n) : f_ref01_State n key counter nonce = some (begunA key counter nonce) := by
  have hw : ∀ (s : List UInt8) (i : Nat), i < s.length / 4 → (wordsOf s).take (i + 1) = (wordsOf s).take i ++ [wordLE s (4 * i)] := fun s i hi => by
    rw [List.take_add_one, List.getElem?_eq_getElem (by rw [wordsOf_length]; exact hi)]
    simp [wordsOf]
  have he : wordsOf expandW = [1634760805, 857760878, 2036477234, 1797285236] := by decide
  have hc : wordsOf (le32 counter) = [counter] := by
    have : wordsOf (le32 counter) = [wordLE (le32 counter) 0] := by
      unfold wordsOf
      rw [show (le32 counter).length = 4 from rfl]
      rfl
    rw [this, word_le32]
  unfold f_ref01_State f_ref01_State_l1
  have h2 : f_ref01_State_j1 n counter nonce (wordsOf expandW ++ wordsOf key) = some (begunA key counter nonce) := by
    unfold f_ref01_State_j1 f_ref01_State_l2
    have hlk : (wordsOf key).length = 8 := by rw [wordsOf_length, hk]
    rw [appL_eq (by simp [he, hlk]) (by simp [he, hlk]), some_bind]
    refine (congrArg (loopN _ n) ?_).trans (loop_all (fun i => (wordsOf expandW ++ wordsOf key ++ [counter] ++ (wordsOf nonce).take i, (i : Int))) 3 (fun i hi k => ?_) (fun k => ?_) (by omega))
    · simp
    · simp only [f_ref01_State_l2_b, show decide ((i : Int) < 3) = true by simp; omega, cond_true]
      rw [wI_eq (by omega) (by omega), show 4 * (i : Int) = ((4 * i : Nat) : Int) by omega, word01 nonce (4 * i) (by omega) (by omega), some_bind, appL_eq (by simp [he, hlk, wordsOf_length]; omega) (by simp [he, hlk, wordsOf_length]; omega), some_bind]
      simp only [ret]
      rw [wI_eq (by omega) (by omega), hw nonce i (by omega)]
      simp
    · simp only [f_ref01_State_l2_b, show decide (((3 : Nat) : Int) < 3) = false by decide, cond_false, f_ref01_State_j2]
      rw [List.take_of_length_le (by have := wordsOf_length nonce; omega)]
      simp [begunA, hc]
  refine (congrArg (loopN _ n) ?_).trans (loop_all (fun i => (wordsOf expandW ++ (wordsOf key).take i, (i : Int))) 8 (fun i hi k => ?_) (fun k => ?_) hm)
  · simp [he]
  · simp only [f_ref01_State_l1_b, show decide ((i : Int) < 8) = true by simp; omega, cond_true]
    rw [wI_eq (by omega) (by omega), show 4 * (i : Int) = ((4 * i : Nat) : Int) by omega, word01 key (4 * i) (by omega) (by omega), some_bind, appL_eq (by simp [he, wordsOf_length]; omega) (by simp [he, wordsOf_length]; omega), some_bind]
    simp only [ret]
    rw [wI_eq (by omega) (by omega), hw key i (by omega)]
    simp
  · simp only [f_ref01_State_l1_b, show decide (((8 : Nat) : Int) < 8) = false by decide, cond_false]
    rw [List.take_of_length_le (by have := wordsOf_length key; omega)]
    exact h2
theorem at01 (ws : List UInt32) (ix : Nat → Nat) (h : ∀ k, k < 4 → ix k < ws.length) : f_ref01_at ws (ix 0 : Int) (ix 1 : Int) (ix 2 : Int) (ix 3 : Int) = some (qrA ws ix) := by
  unfold f_ref01_at
  have h0 := h 0 (by decide)
  have h1 := h 1 (by decide)
  have h2 := h 2 (by decide)
  have h3 := h 3 (by decide)
  have g : ∀ (l : List UInt32) (k : Nat), k < l.length → nthI l (k : Int) = some (l.getD k 0) := fun l k hk => nthI_getD 0 rfl hk
  rw [g _ _ h0, some_bind, g _ _ h1, some_bind, g _ _ h2, some_bind, g _ _ h3, some_bind, quarter01, some_bind]
  generalize hq : Q4.quarter ⟨ws.getD (ix 0) 0, ws.getD (ix 1) 0, ws.getD (ix 2) 0, ws.getD (ix 3) 0⟩ = q
  have q0 : nthI q.list 0 = some q.a := rfl
  have q1 : nthI q.list 1 = some q.b := rfl
  have q2 : nthI q.list 2 = some q.c := rfl
  have q3 : nthI q.list 3 = some q.d := rfl
  simp only [q0, q1, q2, q3, some_bind, setI_of rfl h0, g (ws.set (ix 0) q.a) (ix 1) (by simpa using h1), setI_of rfl (show ix 1 < (ws.set (ix 0) q.a).length by simpa using h1),
    g ((ws.set (ix 0) q.a).set (ix 1) q.b) (ix 2) (by simpa using h2), setI_of rfl (show ix 2 < ((ws.set (ix 0) q.a).set (ix 1) q.b).length by simpa using h2),
    g (((ws.set (ix 0) q.a).set (ix 1) q.b).set (ix 2) q.c) (ix 3) (by simpa using h3), setI_of rfl (show ix 3 < (((ws.set (ix 0) q.a).set (ix 1) q.b).set (ix 2) q.c).length by simpa using h3)]
  unfold qrA
  rw [hq]
  rfl
set_option maxRecDepth 10000 in
theorem block01 (key : List UInt8) (counter : UInt32) (nonce : List UInt8) (hk : key.length = 32) (hn : nonce.length = 12) {n : Nat} (hm : 16 < n) : f_ref01_Block n key counter nonce = some (blockA key counter nonce, 0) := by
  have hb := begunA_length (counter := counter) hk hn
  unfold f_ref01_Block
  rw [show ((!decide ((key.length : Int) = 32)) || (!decide ((nonce.length : Int) = 12))) = false by simp [hk, hn]]
  simp only [cond_false]
  rw [state01 key counter nonce hk hn (by omega), some_bind]
  generalize hw : begunA key counter nonce = w at hb
  rw [appL_eq (by simp [hb]) (by simp [hb]), some_bind, List.nil_append]
  have hl : ∀ l : List UInt32, (l.flatMap le32).length = 4 * l.length := by
    intro l
    induction l with
    | nil => rfl
    | cons x r ih => rw [List.flatMap_cons, List.length_append, ih, List.length_cons]; simp [le32]; omega
  have h3 : ∀ ws : List UInt32, ws.length = 16 → f_ref01_Block_j1 n w ws = some ((List.zipWith (· + ·) ws w).flatMap le32, 0) := by
    intro ws ht
    have hz : (List.zipWith (· + ·) ws w).length = 16 := by simp [ht, hb]
    have hg : ∀ i, i < 16 → (List.zipWith (· + ·) ws w)[i]? = some (ws.getD i 0 + w.getD i 0) := fun i hi => by
      simp [List.getD_eq_getElem?_getD, ht, hb, hi]
    generalize List.zipWith (· + ·) ws w = z at hz hg
    unfold f_ref01_Block_j1 f_ref01_Block_l2
    refine (congrArg (loopN _ n) ?_).trans (loop_all (fun i => ((z.take i).flatMap le32, (i : Int))) 16 (fun i hi k => ?_) (fun k => ?_) (by omega))
    · simp
    · have ei : ((i + 1 : Nat) : Int) = (i : Int) + 1 := by omega
      have st : (z.take (i + 1)).flatMap le32 = (z.take i).flatMap le32 ++ le32 (ws.getD i 0 + w.getD i 0) := by
        rw [List.take_add_one, hg i hi, List.flatMap_append]
        simp
      dsimp only
      rw [st, ei]
      simp only [f_ref01_Block_l2_b, show decide ((i : Int) < 16) = true by simp; omega, cond_true, ret]
      rw [nthI_getD (k := i) 0 rfl (by omega), some_bind, nthI_getD (k := i) 0 rfl (by omega), some_bind, appL_eq (by rw [hl]; simp [hz]; omega) (by rw [hl]; simp [hz]; omega), some_bind, wI_eq (by omega) (by omega)]
      rfl
    · simp only [f_ref01_Block_l2_b, show decide (((16 : Nat) : Int) < 16) = false by decide, cond_false, f_ref01_Block_j2]
      rw [List.take_of_length_le (by omega)]
  have h2 : f_ref01_Block_j1 n w (tenN w 10) = some (blockA key counter nonce, 0) := by
    rw [h3 _ (by rw [tenN_length, hb])]
    unfold blockA outA
    rw [hw]
  unfold f_ref01_Block_l1
  refine (congrArg (loopN _ n) ?_).trans (loop_all (fun i => (tenN w i, (i : Int))) 10 (fun i hi k => ?_) (fun k => ?_) (by omega))
  · rfl
  · simp only [f_ref01_Block_l1_b, show decide ((i : Int) < 10) = true by simp; omega, cond_true, ret]
    have hl0 : (tenN w i).length = 16 := by rw [tenN_length, hb]
    have hA : ∀ (l : List UInt32) (s j : Nat), l.length = 16 → j < 4 → f_ref01_at l (ixA s j 0 : Int) (ixA s j 1 : Int) (ixA s j 2 : Int) (ixA s j 3 : Int) = some (qrA l (ixA s j)) := fun l s j hl hj => at01 l (ixA s j) (fun k hk => by unfold ixA; omega)
    have r : ∀ (l : List UInt32) (s : Nat), l.length = 16 → ∀ j, (roundN l s j).length = 16 := fun l s hl j => by rw [roundN_length, hl]
    have a0 : ∀ l : List UInt32, l.length = 16 → f_ref01_at l 0 4 8 12 = some (roundN l 0 1) := fun l hl => hA l 0 0 hl (by decide)
    have a1 : ∀ l : List UInt32, l.length = 16 → f_ref01_at (roundN l 0 1) 1 5 9 13 = some (roundN l 0 2) := fun l hl => hA _ 0 1 (r _ _ hl _) (by decide)
    have a2 : ∀ l : List UInt32, l.length = 16 → f_ref01_at (roundN l 0 2) 2 6 10 14 = some (roundN l 0 3) := fun l hl => hA _ 0 2 (r _ _ hl _) (by decide)
    have a3 : ∀ l : List UInt32, l.length = 16 → f_ref01_at (roundN l 0 3) 3 7 11 15 = some (roundN l 0 4) := fun l hl => hA _ 0 3 (r _ _ hl _) (by decide)
    have b0 : ∀ l : List UInt32, l.length = 16 → f_ref01_at l 0 5 10 15 = some (roundN l 1 1) := fun l hl => hA l 1 0 hl (by decide)
    have b1 : ∀ l : List UInt32, l.length = 16 → f_ref01_at (roundN l 1 1) 1 6 11 12 = some (roundN l 1 2) := fun l hl => hA _ 1 1 (r _ _ hl _) (by decide)
    have b2 : ∀ l : List UInt32, l.length = 16 → f_ref01_at (roundN l 1 2) 2 7 8 13 = some (roundN l 1 3) := fun l hl => hA _ 1 2 (r _ _ hl _) (by decide)
    have b3 : ∀ l : List UInt32, l.length = 16 → f_ref01_at (roundN l 1 3) 3 4 9 14 = some (roundN l 1 4) := fun l hl => hA _ 1 3 (r _ _ hl _) (by decide)
    have hl4 := r _ 0 hl0 4
    rw [a0 _ hl0, some_bind, a1 _ hl0, some_bind, a2 _ hl0, some_bind, a3 _ hl0, some_bind, b0 _ hl4, some_bind, b1 _ hl4, some_bind, b2 _ hl4, some_bind, b3 _ hl4, some_bind, wI_eq (by omega) (by omega)]
    rfl
  · simp only [f_ref01_Block_l1_b, show decide (((10 : Nat) : Int) < 10) = false by decide, cond_false]
    exact h2
theorem xor01 (key nonce s : List UInt8) (hk : key.length = 32) (hn : nonce.length = 12) (hs : s.length ≤ 1048576) {n : Nat} (hm : 16 < n) (hm2 : s.length < n) : f_ref01_Xor n key nonce s = some (xorA key nonce s, 0) := by
  have hB : ∀ i, f_ref01_Block n key (UInt32.ofNat i) nonce = some (blockA key (UInt32.ofNat i) nonce, 0) := fun i => block01 key _ nonce hk hn hm
  have hL : ∀ i, (blockA key (UInt32.ofNat i) nonce).length = 64 := fun i => blockA_length hk hn
  have hX : ∀ i, i < s.length → (xorA key nonce s).take (i + 1) = (xorA key nonce s).take i ++ [s.getD i 0 ^^^ (blockA key (UInt32.ofNat (i / 64)) nonce).getD (i % 64) 0] := fun i hi => by
    rw [List.take_add_one, List.getElem?_eq_getElem (by rw [xorA_length]; exact hi)]
    simp [xorA, streamA]
  have hXl := xorA_length key nonce s
  generalize xorA key nonce s = X at hX hXl ⊢
  generalize hBf : (fun i => blockA key (UInt32.ofNat i) nonce) = B
  have hB' : ∀ i, f_ref01_Block n key (UInt32.ofNat i) nonce = some (B i, 0) := fun i => by rw [hB i, ← hBf]
  have hL' : ∀ i, (B i).length = 64 := fun i => by rw [← hBf]; exact hL i
  have hX' : ∀ i, i < s.length → X.take (i + 1) = X.take i ++ [s.getD i 0 ^^^ (B (i / 64)).getD (i % 64) 0] := fun i hi => by rw [hX i hi, ← hBf]
  clear hB hL hX hBf
  unfold f_ref01_Xor
  rw [show (((!decide ((key.length : Int) = 32)) || (!decide ((nonce.length : Int) = 12))) || (decide (1048576 < (s.length : Int)))) = false by simp [hk, hn]; omega]
  simp only [cond_false]
  unfold f_ref01_Xor_l1
  refine (congrArg (loopN _ n) ?_).trans (loop_all (fun i => (X.take i, (if i = 0 then [] else B ((i - 1) / 64)), (i : Int))) s.length (fun i hi k => ?_) (fun k => ?_) hm2)
  · simp
  · have ei : ((i + 1 : Nat) : Int) = (i : Int) + 1 := by omega
    dsimp only
    rw [hX' i hi, if_neg (show ¬ i + 1 = 0 by omega), Nat.add_sub_cancel, ei]
    simp only [f_ref01_Xor_l1_b, show decide ((i : Int) < (s.length : Int)) = true by simp; omega, cond_true]
    have hr : remI (i : Int) 64 = some ((i % 64 : Nat) : Int) := remI_of (by decide)
    have hq : quoI (i : Int) 64 = some ((i / 64 : Nat) : Int) := quoI_of (by decide) (by omega)
    have hj : f_ref01_Xor_j2 s (X.take i) (i : Int) k (B (i / 64)) = k (X.take i ++ [s.getD i 0 ^^^ (B (i / 64)).getD (i % 64) 0], B (i / 64), (i : Int) + 1) := by
      have hbl := hL' (i / 64)
      unfold f_ref01_Xor_j2
      rw [nthI_getD (k := i) 0 rfl hi, some_bind, hr, some_bind, nthI_getD (k := i % 64) 0 rfl (by omega), some_bind, appL_eq (by simp; omega) (by simp; omega), some_bind]
      simp only [ret]
      rw [wI_eq (by omega) (by omega)]
    rw [hr, some_bind]
    by_cases h0 : i % 64 = 0
    · rw [show decide (((i % 64 : Nat) : Int) = 0) = true by simp; omega]
      simp only [cond_true]
      have hu : toU32 ((i / 64 : Nat) : Int) = UInt32.ofNat (i / 64) := by
        simp only [toU32]
        congr 1
        omega
      rw [hq, some_bind, hu, hB', some_bind]
      exact hj
    · rw [show decide (((i % 64 : Nat) : Int) = 0) = false by simp; omega]
      simp only [cond_false]
      rw [if_neg (show ¬ i = 0 by omega), show (i - 1) / 64 = i / 64 by omega]
      exact hj
  · simp only [f_ref01_Xor_l1_b, show decide ((s.length : Int) < (s.length : Int)) = false by simp, cond_false, f_ref01_Xor_j1]
    rw [List.take_of_length_le (by omega)]
end Go.Proofs.YtnpnmdbleopikaaDoor

/- The references of SHA-256, HMAC, and the texts that a key expands to answer as the plain ones. No program in sight. Condition: texts of at most 2^40 bytes. -/
namespace Go.Proofs.YtnpnmdbleopikaaDoor
open Go

theorem t02 (x : UInt32) (n : Nat) (h : n ≤ 32) : f_ref02_turned x (n : Int) = some (rotr x n) := by
  unfold f_ref02_turned
  rw [shN_nat, some_bind, wI_eq (by omega) (by omega), show (32 - (n : Int)) = ((32 - n : Nat) : Int) by omega, shN_nat, some_bind]
  rfl
theorem next_big (s : List UInt8) (w : List UInt32) (h : 16 ≤ w.length) : nextW s w = w.getD (w.length - 16) 0 + sig0 (w.getD (w.length - 15) 0) + w.getD (w.length - 7) 0 + sig1 (w.getD (w.length - 2) 0) := by
  unfold nextW
  rw [if_neg (by omega)]
  ac_rfl
theorem part02c {h : List UInt32} (hh : h.length = 8) {n : Nat} (hm : 64 < n) : ∀ f : List UInt32, f.length = 8 → f_ref02_part_j3 n h f = some (List.zipWith (· + ·) f h) := by
  intro f hf
  have hfl : h.length = f.length := by omega
  unfold f_ref02_part_j3 f_ref02_part_l3
  refine (congrArg (loopN _ n) ?_).trans (loop_all (fun i => (mixN f h i, (i : Int))) 8 (fun i hi k => ?_) (fun k => ?_) (by omega))
  · simp [mixN]
  · have ei : ((i + 1 : Nat) : Int) = (i : Int) + 1 := by omega
    have hml := mixN_length f h hfl i
    dsimp only
    rw [ei, ← mixN_set f h hfl i (by omega), ← mixN_get f h hfl i (by omega)]
    simp only [f_ref02_part_l3_b, show decide ((i : Int) < 8) = true by simp; omega, cond_true, ret]
    rw [nthI_getD (k := i) 0 rfl (by omega), some_bind, nthI_getD (k := i) 0 rfl (by omega), some_bind, some_bind, setI_of rfl (by omega), some_bind, wI_eq (by omega) (by omega)]
  · simp only [f_ref02_part_l3_b, show decide (((8 : Nat) : Int) < 8) = false by decide, cond_false, f_ref02_part_j4]
    have := mixN_full f h hfl
    rw [hf] at this
    rw [this]
theorem part02b {T h : List UInt32} (hT : T.length = 64) (hh : h.length = 8) {n : Nat} (hm : 64 < n) : ∀ w : List UInt32, w.length = 64 → f_ref02_part_j1 n T h w = some (List.zipWith (· + ·) h (roundsN T w h 64).list) := by
  intro w hw
  have t6 : ∀ x, f_ref02_turned x 6 = some (rotr x 6) := fun x => t02 x 6 (by decide)
  have t11 : ∀ x, f_ref02_turned x 11 = some (rotr x 11) := fun x => t02 x 11 (by decide)
  have t25 : ∀ x, f_ref02_turned x 25 = some (rotr x 25) := fun x => t02 x 25 (by decide)
  have t2 : ∀ x, f_ref02_turned x 2 = some (rotr x 2) := fun x => t02 x 2 (by decide)
  have t13 : ∀ x, f_ref02_turned x 13 = some (rotr x 13) := fun x => t02 x 13 (by decide)
  have t22 : ∀ x, f_ref02_turned x 22 = some (rotr x 22) := fun x => t02 x 22 (by decide)
  have hz : ∀ q : St8, f_ref02_part_j3 n h q.list = some (List.zipWith (· + ·) h q.list) := fun q => by
    rw [part02c hh hm _ rfl, List.zipWith_comm]
    simp only [UInt32.add_comm]
  have hN : ∀ i, roundsN T w h (i + 1) = (roundsN T w h i).step (T.getD i 0) (w.getD i 0) := fun i => rfl
  have h0 : (roundsN T w h 0).list = h := St8.of_list hh
  generalize roundsN T w h = R at hN h0 ⊢
  unfold f_ref02_part_j1 f_ref02_part_l2
  rw [appL_eq (by simp [hh]) (by simp [hh]), some_bind, List.nil_append]
  refine (congrArg (loopN _ n) ?_).trans (loop_all (fun i => ((R i).list, (i : Int))) 64 (fun i hi k => ?_) (fun k => ?_) (by omega))
  · simp [h0]
  · have ei : ((i + 1 : Nat) : Int) = (i : Int) + 1 := by omega
    dsimp only
    rw [ei, hN]
    generalize R i = q
    have q0 : nthI q.list 0 = some q.a := rfl
    have q1 : nthI q.list 1 = some q.b := rfl
    have q2 : nthI q.list 2 = some q.c := rfl
    have q3 : nthI q.list 3 = some q.d := rfl
    have q4 : nthI q.list 4 = some q.e := rfl
    have q5 : nthI q.list 5 = some q.f := rfl
    have q6 : nthI q.list 6 = some q.g := rfl
    have q7 : nthI q.list 7 = some q.i := rfl
    simp only [f_ref02_part_l2_b, show decide ((i : Int) < 64) = true by simp; omega, cond_true, ret_eq, q0, q1, q2, q3, q4, q5, q6, q7, some_bind, t6, t11, t25, t2, t13, t22]
    rw [nthI_getD (k := i) 0 rfl (by omega), some_bind, nthI_getD (k := i) 0 rfl (by omega), some_bind, wI_eq (by omega) (by omega)]
    simp only [St8.step, St8.list, St8.t1, St8.t2]
  · simp only [f_ref02_part_l2_b, show decide (((64 : Nat) : Int) < 64) = false by decide, cond_false]
    exact hz _
theorem part02 (T h : List UInt32) (s : List UInt8) (hT : T.length = 64) (hh : h.length = 8) (hs : s.length = 64) {n : Nat} (hm : 64 < n) : f_ref02_part n T h s = some (laysL T h s) := by
  -- the words
  have t7 : ∀ x, f_ref02_turned x 7 = some (rotr x 7) := fun x => t02 x 7 (by decide)
  have t18 : ∀ x, f_ref02_turned x 18 = some (rotr x 18) := fun x => t02 x 18 (by decide)
  have t17 : ∀ x, f_ref02_turned x 17 = some (rotr x 17) := fun x => t02 x 17 (by decide)
  have t19 : ∀ x, f_ref02_turned x 19 = some (rotr x 19) := fun x => t02 x 19 (by decide)
  unfold f_ref02_part f_ref02_part_l1
  have hW : ∀ i, spreadN s (i + 1) = spreadN s i ++ [nextW s (spreadN s i)] := fun i => rfl
  have hWl := spreadN_length s
  have hfin : f_ref02_part_j1 n T h (spreadN s 64) = some (laysL T h s) := by
    unfold laysL spreadA
    exact part02b hT hh hm _ (hWl 64)
  have hW0 : spreadN s 0 = [] := rfl
  generalize spreadN s = W at hW hWl hfin hW0
  refine (congrArg (loopN _ n) ?_).trans (loop_all (fun i => (W i, (i : Int))) 64 (fun i hi k => ?_) (fun k => ?_) hm)
  · simp [hW0]
  · have ei : ((i + 1 : Nat) : Int) = (i : Int) + 1 := by omega
    have hl := hWl i
    dsimp only
    rw [ei, hW]
    generalize W i = w at hl
    simp only [f_ref02_part_l1_b, show decide ((i : Int) < 64) = true by simp; omega, cond_true]
    have hj : ∀ x : UInt32, (appL 4 w [x]).bind (fun l => f_ref02_part_j2 (i : Int) k l) = k (w ++ [x], (i : Int) + 1) := fun x => by
      rw [appL_eq (by simp; omega) (by simp; omega), some_bind]
      simp only [f_ref02_part_j2, ret]
      rw [wI_eq (by omega) (by omega)]
    by_cases hlt : i < 16
    · rw [show decide ((i : Int) < 16) = true by simp; omega]
      simp only [cond_true]
      rw [wI_eq (by omega) (by omega), nthI_getD (k := 4 * i) 0 (by omega) (by omega), some_bind, wI_eq (by omega) (by omega), nthI_getD (k := 4 * i + 1) 0 (by omega) (by omega), some_bind, wI_eq (by omega) (by omega), nthI_getD (k := 4 * i + 2) 0 (by omega) (by omega), some_bind,
        wI_eq (by omega) (by omega), nthI_getD (k := 4 * i + 3) 0 (by omega) (by omega), some_bind, hj]
      unfold nextW
      rw [if_pos (by omega), hl]
      rfl
    · rw [show decide ((i : Int) < 16) = false by simp; omega]
      simp only [cond_false]
      rw [wI_eq (by omega) (by omega), nthI_getD (k := i - 15) 0 (by omega) (by omega), some_bind, wI_eq (by omega) (by omega), nthI_getD (k := i - 2) 0 (by omega) (by omega), some_bind, wI_eq (by omega) (by omega), nthI_getD (k := i - 16) 0 (by omega) (by omega), some_bind,
        t7, some_bind, t18, some_bind, wI_eq (by omega) (by omega), nthI_getD (k := i - 7) 0 (by omega) (by omega), some_bind, t17, some_bind, t19, some_bind, hj, next_big s w (by omega), hl]
      rfl
  · simp only [f_ref02_part_l1_b, show decide (((64 : Nat) : Int) < 64) = false by decide, cond_false]
    exact hfin
theorem shr64_0 (x : UInt64) : shr64 x 0 = x := by
  apply UInt64.toNat_inj.1
  have := x.toNat_lt
  simp [shr64]
theorem filled02 (s : List UInt8) (hs : s.length ≤ 1099511627776) {n : Nat} (hm : 64 < n) : f_ref02_Filled n s = some (s ++ tailA s.length) := by
  unfold f_ref02_Filled
  rw [catS_eq (by simp; omega), some_bind]
  unfold f_ref02_Filled_l1
  have hp : padZ s.length < 64 := by unfold padZ; omega
  refine (congrArg (loopN _ n) ?_).trans (loop_all (fun i => s ++ [128] ++ List.replicate i 0) (padZ s.length) (fun i hi k => ?_) (fun k => ?_) (by omega))
  · simp
  · have hl : (s ++ [128] ++ List.replicate i (0 : UInt8)).length = s.length + 1 + i := by simp; omega
    have st : s ++ [128] ++ List.replicate (i + 1) (0 : UInt8) = s ++ [128] ++ List.replicate i 0 ++ [0] := by rw [List.replicate_succ', List.append_assoc _ _ [0]]
    rw [st]
    generalize s ++ [128] ++ List.replicate i (0 : UInt8) = u at hl
    simp only [f_ref02_Filled_l1_b]
    rw [hl, show (64 : Int) = ((64 : Nat) : Int) from rfl, remI_of (by decide), some_bind, show (!decide ((((s.length + 1 + i) % 64 : Nat) : Int) = 56)) = true by unfold padZ at hi; simp; omega]
    simp only [cond_true]
    rw [catS_eq (by simp; omega), some_bind]
  · have hl : (s ++ [128] ++ List.replicate (padZ s.length) (0 : UInt8)).length = s.length + 1 + padZ s.length := by simp; omega
    have ht : s ++ tailA s.length = s ++ [128] ++ List.replicate (padZ s.length) 0 ++ be64 (toU64 s.length * 8) := by simp [tailA]
    rw [ht]
    generalize s ++ [128] ++ List.replicate (padZ s.length) (0 : UInt8) = u at hl
    simp only [f_ref02_Filled_l1_b]
    rw [hl, show (64 : Int) = ((64 : Nat) : Int) from rfl, remI_of (by decide), some_bind, show (!decide ((((s.length + 1 + padZ s.length) % 64 : Nat) : Int) = 56)) = false by unfold padZ; simp; omega]
    simp only [cond_false, f_ref02_Filled_j1, ret]
    rw [catS_eq (by simp; omega), some_bind]
    simp only [be64, shr64_0]
theorem sum02 (T : List UInt32) (s : List UInt8) (hT : T.length = 64) (hs : s.length ≤ 1099511627776) {n : Nat} (hm : 64 < n) (hm2 : s.length < n) : f_ref02_Sum n T s = some (sumA T s) := by
  unfold f_ref02_Sum
  rw [filled02 s hs hm, some_bind]
  have hw : (s ++ tailA s.length).length % 64 = 0 := by
    simp [tailA, padZ, be64]; omega
  have hlen : (s ++ tailA s.length).length ≤ s.length + 73 := by
    simp [tailA, padZ, be64]; omega
  have hsum : sumA T s = (partsN T firstA (s ++ tailA s.length) ((s ++ tailA s.length).length / 64)).list.flatMap beBytes := by
    unfold sumA
    rw [absorb_parts]
  rw [hsum]
  generalize s ++ tailA s.length = f at hw hlen
  -- the words' bytes
  have hl : ∀ l : List UInt32, (l.flatMap beBytes).length = 4 * l.length := by
    intro l
    induction l with
    | nil => rfl
    | cons x r ih => rw [List.flatMap_cons, List.length_append, ih, List.length_cons]; simp [beBytes]; omega
  have h1 : ∀ l : List UInt32, l.length = 8 → f_ref02_Sum_j1 n l = some (l.flatMap beBytes) := by
    intro l h8
    unfold f_ref02_Sum_j1 f_ref02_Sum_l2
    refine (congrArg (loopN _ n) ?_).trans (loop_all (fun i => ((l.take i).flatMap beBytes, (i : Int))) 8 (fun i hi k => ?_) (fun k => ?_) (by omega))
    · simp
    · have ei : ((i + 1 : Nat) : Int) = (i : Int) + 1 := by omega
      have st : (l.take (i + 1)).flatMap beBytes = (l.take i).flatMap beBytes ++ beBytes (l.getD i 0) := by
        rw [List.take_add_one, get_getD 0 (by omega), List.flatMap_append]
        simp
      dsimp only
      rw [st, ei]
      simp only [f_ref02_Sum_l2_b, show decide ((i : Int) < 8) = true by simp; omega, cond_true, ret]
      rw [nthI_getD (k := i) 0 rfl (by omega), some_bind, some_bind, some_bind, some_bind, appL_eq (by rw [hl]; simp; omega) (by rw [hl]; simp; omega), some_bind, wI_eq (by omega) (by omega)]
      rfl
    · simp only [f_ref02_Sum_l2_b, show decide (((8 : Nat) : Int) < 8) = false by decide, cond_false, f_ref02_Sum_j2]
      rw [List.take_of_length_le (by omega)]
  unfold f_ref02_Sum_l1
  have hfirst : f_ref02_first = some firstA.list := rfl
  rw [hfirst, some_bind]
  have hP : ∀ j, (partsN T firstA f (j + 1)).list = laysL T (partsN T firstA f j).list ((f.drop (64 * j)).take 64) := fun j => by
    show (laysA T _ _).list = _
    unfold laysA
    exact St8.of_list (laysL_length rfl)
  have hP8 : ∀ j, (partsN T firstA f j).list.length = 8 := fun j => rfl
  have hP0 : (partsN T firstA f 0).list = firstA.list := rfl
  generalize (fun j => (partsN T firstA f j).list) = R at hP hP8 hP0
  generalize hR : (fun j => (partsN T firstA f j).list) = R at *
  have hP' : ∀ j, R (j + 1) = laysL T (R j) ((f.drop (64 * j)).take 64) := fun j => by rw [← hR]; exact hP j
  have hP8' : ∀ j, (R j).length = 8 := fun j => by rw [← hR]; exact hP8 j
  have hP0' : R 0 = firstA.list := by rw [← hR]; exact hP0
  have hRN : (partsN T firstA f (f.length / 64)).list = R (f.length / 64) := by rw [← hR]
  rw [hRN]
  clear hR hRN hP hP8 hP0
  refine (congrArg (loopN _ n) ?_).trans (loop_all (fun j => (R j, ((64 * j : Nat) : Int))) (f.length / 64) (fun j hj k => ?_) (fun k => ?_) (by omega))
  · simp [hP0']
  · have ej : ((64 * (j + 1) : Nat) : Int) = ((64 * j : Nat) : Int) + 64 := by omega
    dsimp only
    rw [hP', ej]
    simp only [f_ref02_Sum_l1_b, show decide (((64 * j : Nat) : Int) < (f.length : Int)) = true by simp; omega, cond_true, ret]
    rw [wI_eq (by omega) (by omega), slcI_of (p := 64 * j) (q := 64 * j + 64) rfl (by omega) (by omega) (by omega), some_bind, show 64 * j + 64 - 64 * j = 64 by omega, part02 T (R j) _ hT (hP8' j) (by simp; omega) hm, some_bind]
  · simp only [f_ref02_Sum_l1_b, show decide (((64 * (f.length / 64) : Nat) : Int) < (f.length : Int)) = false by simp; omega, cond_false]
    exact h1 _ (hP8' _)
theorem part03 (T : List UInt32) (key : List UInt8) (c : UInt8) (hT : T.length = 64) (hs : key.length ≤ 1099511627776) {n : Nat} (hm : 64 < n) (hm2 : key.length < n) : f_ref03_part n T key c = some (partA T key c) := by
  have h1 : ∀ u : List UInt8, u.length ≤ 64 → f_ref03_part_j1 n c u = some ((List.range 64).map fun i => u.getD i 0 ^^^ c) := by
    intro u hu
    unfold f_ref03_part_j1 f_ref03_part_l1
    refine (congrArg (loopN _ n) ?_).trans (loop_all (fun i => ((List.range i).map (fun i => u.getD i 0 ^^^ c), (i : Int))) 64 (fun i hi k => ?_) (fun k => ?_) hm)
    · simp
    · have ei : ((i + 1 : Nat) : Int) = (i : Int) + 1 := by omega
      have st : (List.range (i + 1)).map (fun i => u.getD i 0 ^^^ c) = (List.range i).map (fun i => u.getD i 0 ^^^ c) ++ [u.getD i 0 ^^^ c] := by simp [List.range_succ]
      have hj : f_ref03_part_j3 c ((List.range i).map (fun i => u.getD i 0 ^^^ c)) (i : Int) k (u.getD i 0) = k ((List.range i).map (fun i => u.getD i 0 ^^^ c) ++ [u.getD i 0 ^^^ c], (i : Int) + 1) := by
        unfold f_ref03_part_j3
        rw [appL_eq (by simp; omega) (by simp; omega), some_bind]
        simp only [ret]
        rw [wI_eq (by omega) (by omega)]
      dsimp only
      rw [st, ei, ← hj]
      simp only [f_ref03_part_l1_b, show decide ((i : Int) < 64) = true by simp; omega, cond_true]
      by_cases h0 : i < u.length
      · rw [show decide ((i : Int) < (u.length : Int)) = true by simp; omega]
        simp only [cond_true]
        rw [nthI_getD (k := i) 0 rfl h0, some_bind]
      · rw [show decide ((i : Int) < (u.length : Int)) = false by simp; omega]
        simp only [cond_false]
        rw [show u.getD i 0 = 0 by simp [List.getD_eq_getElem?_getD, List.getElem?_eq_none (show u.length ≤ i by omega)]]
    · simp only [f_ref03_part_l1_b, show decide (((64 : Nat) : Int) < 64) = false by decide, cond_false, f_ref03_part_j2]
  unfold f_ref03_part partA keyOf
  by_cases h0 : 64 < key.length
  · rw [show decide (64 < (key.length : Int)) = true by simp; omega, if_pos h0]
    simp only [cond_true]
    rw [sum02 T key hT hs hm hm2, some_bind]
    exact h1 _ (by rw [sumA_length]; omega)
  · rw [show decide (64 < (key.length : Int)) = false by simp; omega, if_neg h0]
    simp only [cond_false]
    exact h1 _ (by omega)
theorem mac03 (T : List UInt32) (key m : List UInt8) (hT : T.length = 64) (hk : key.length ≤ 1048576) (hs : m.length ≤ 1048576) {n : Nat} (hm : 2097152 < n) : f_ref03_Mac n T key m = some (macA T key m) := by
  unfold f_ref03_Mac f_ref03_Texts
  have l1 := partA_length T key 54
  have l2 := partA_length T key 92
  rw [part03 T key 54 hT (by omega) (by omega) (by omega), some_bind, catS_eq (by omega), some_bind, part03 T key 92 hT (by omega) (by omega) (by omega), some_bind, sum02 T _ hT (by simp; omega) (by omega) (by simp; omega), some_bind,
    catS_eq (by rw [sumA_length]; omega), some_bind, some_bind]
  have e : nthI [partA T key 54 ++ m, partA T key 92 ++ sumA T (partA T key 54 ++ m)] 1 = some (partA T key 92 ++ sumA T (partA T key 54 ++ m)) := rfl
  rw [e, some_bind, sum02 T _ hT (by rw [List.length_append, sumA_length]; omega) (by omega) (by rw [List.length_append, sumA_length]; omega), some_bind]
  unfold macA
  exact Eq.refl _
theorem exp03 (T : List UInt32) (key label : List UInt8) (hT : T.length = 64) (hk : key.length ≤ 1048576) (hl : label.length ≤ 1000000) {n : Nat} (hm : 2097152 < n) : f_ref03_Expand n T key label 32 = some (exp32 T key label, 0) := by
  have hml : ∀ m, (macA T key m).length = 32 := fun m => macA_length T key m
  have hmac : f_ref03_Mac n T key ([] ++ label ++ [toU8 1]) = some (exp32 T key label) := by
    rw [mac03 T key _ hT hk (by simp; omega) hm]
    rfl
  have he : (exp32 T key label).length = 32 := hml _
  generalize exp32 T key label = x at hmac he ⊢
  unfold f_ref03_Expand f_ref03_Expand_l1
  rw [show ((decide ((32 : Int) < 0)) || (decide ((8160 : Int) < 32))) = false by decide]
  simp only [cond_false]
  obtain ⟨m, rfl⟩ : ∃ m, n = m + 1 + 1 := ⟨n - 2, by omega⟩
  rw [loopN_succ]
  simp only [f_ref03_Expand_l1_b]
  rw [show decide (((([] : List UInt8).length : Nat) : Int) < 32) = true by decide]
  simp only [cond_true]
  rw [catS_eq (by simp; omega), some_bind, catS_eq (by simp; omega), some_bind, hmac, some_bind, catS_eq (by simp; omega), some_bind]
  rw [ret_eq, List.nil_append, loopN_succ]
  simp only [f_ref03_Expand_l1_b]
  rw [show decide (((x.length : Nat) : Int) < 32) = false by rw [he]; decide]
  simp only [cond_false, f_ref03_Expand_j1]
  rw [show slcI x 0 32 = some ((x.drop 0).take (32 - 0)) from slcI_of (p := 0) (q := 32) rfl rfl (by omega) (by omega), some_bind]
  simp [List.take_of_length_le, he]
end Go.Proofs.YtnpnmdbleopikaaDoor

/- The references of keys, padding and heads answer as the plain ones. No program in sight. Condition: at most 2^20 keys. -/
namespace Go.Proofs.YtnpnmdbleopikaaDoor
open Go

/-! ### Numbers as bytes -/
theorem put06 (x : UInt64) (w : Nat) (hw : w ≤ 8) {n : Nat} (hm : 8 < n) : f_ref06_put n x (w : Int) = some (lePut x w) := by
  unfold f_ref06_put f_ref06_put_l1
  have hS : ∀ i, i < 8 → shr64 x (8 * (i + 1)) = shr64 x (8 * i) / 256 := fun i hi => by
    apply UInt64.toNat_inj.1
    rw [UInt64.toNat_div, shr64_nat _ _ (by omega), shr64_nat _ _ (by omega), show (256 : UInt64).toNat = 2 ^ 8 from rfl, Nat.div_div_eq_div_mul, ← Nat.pow_add, show 8 * (i + 1) = 8 * i + 8 by omega]
  have hP : ∀ i, lePut x (i + 1) = lePut x i ++ [(shr64 x (8 * i)).toUInt8] := lePut_succ x
  have h0 : shr64 x (8 * 0) = x := by rw [Nat.mul_zero, shr64_0]
  have hl := lePut_length x
  have hp0 : lePut x 0 = [] := rfl
  generalize lePut x = Pt at hP hl hp0 ⊢
  generalize hq : (fun i => shr64 x (8 * i)) = S
  have hS' : ∀ i, i < 8 → S (i + 1) = S i / 256 := fun i hi => by rw [← hq]; exact hS i hi
  have hP' : ∀ i, Pt (i + 1) = Pt i ++ [(S i).toUInt8] := fun i => by rw [hP, ← hq]
  have h0' : S 0 = x := by rw [← hq]; exact h0
  clear hS hP h0 hq
  refine (congrArg (loopN _ n) ?_).trans (loop_all (fun i => (S i, Pt i, (i : Int))) w (fun i hi k => ?_) (fun k => ?_) (by omega))
  · simp [h0', hp0]
  · have ei : ((i + 1 : Nat) : Int) = (i : Int) + 1 := by omega
    dsimp only
    rw [ei, hP', hS' i (by omega)]
    simp only [f_ref06_put_l1_b, show decide ((i : Int) < (w : Int)) = true by simp; omega, cond_true]
    have hlp := hl i
    rw [catS_eq (by simp; omega), some_bind, show quo64 (S i) 256 = some (S i / 256) from rfl, some_bind, ret_eq, wI_eq (by omega) (by omega)]
  · simp only [f_ref06_put_l1_b, show decide ((w : Int) < (w : Int)) = false by simp, cond_false, f_ref06_put_j1]
def leV : List UInt8 → Nat
  | [] => 0
  | b :: r => b.toNat + 256 * leV r
theorem leV_snoc : ∀ (s : List UInt8) (b : UInt8), leV (s ++ [b]) = leV s + b.toNat * 2 ^ (8 * s.length)
  | [], b => by simp [leV]
  | c :: r, b => by
    rw [List.cons_append, leV, leV_snoc r b, leV, List.length_cons, show 8 * (r.length + 1) = 8 * r.length + 8 by omega, Nat.pow_add, Nat.mul_add]
    rw [show (2 : Nat) ^ 8 = 256 from rfl, Nat.add_assoc]
    congr 2
    rw [Nat.mul_left_comm, Nat.mul_comm 256]
theorem leV_lt : ∀ s : List UInt8, leV s < 2 ^ (8 * s.length)
  | [] => by simp [leV]
  | b :: r => by
    have h1 := leV_lt r
    have h2 := b.toNat_lt
    rw [leV, List.length_cons, show 8 * (r.length + 1) = 8 * r.length + 8 by omega, Nat.pow_add, show (2 : Nat) ^ 8 = 256 from rfl]
    omega
theorem leGet_val (s : List UInt8) : ∀ k, k ≤ 8 → k ≤ s.length → (leGetN s k).toNat = leV (s.take k)
  | 0, _, _ => by simp [leGetN, leV]
  | k + 1, hk, hl => by
    have ih := leGet_val s k (by omega) (by omega)
    have hlt := leV_lt (s.take k)
    have hlk : (s.take k).length = k := by simp; omega
    rw [hlk] at hlt
    rw [leGetN, UInt64.toNat_or, ih, shl64_byte _ _ (by omega), List.take_add_one, get_getD 0 (by omega), Option.toList_some, leV_snoc, hlk]
    rw [Nat.or_comm, Nat.mul_comm _ (2 ^ (8 * k)), ← Nat.two_pow_add_eq_or_of_lt hlt, Nat.add_comm]
theorem leV_byte : ∀ (s : List UInt8) (i : Nat), i < s.length → leV s / 2 ^ (8 * i) % 256 = (s.getD i 0).toNat
  | [], i, h => by simp at h
  | b :: r, 0, _ => by
    have := b.toNat_lt
    simp only [leV, Nat.mul_zero, Nat.pow_zero, Nat.div_one, List.getD_cons_zero]
    omega
  | b :: r, i + 1, h => by
    have := b.toNat_lt
    have ih := leV_byte r i (by simpa using h)
    rw [leV, show 8 * (i + 1) = 8 + 8 * i by omega, Nat.pow_add, ← Nat.div_div_eq_div_mul, show (b.toNat + 256 * leV r) / 2 ^ 8 = leV r by rw [show (2 : Nat) ^ 8 = 256 from rfl]; omega, ih, List.getD_cons_succ]
theorem put_get (s : List UInt8) (w : Nat) (hw : w ≤ 8) (hl : w ≤ s.length) : lePut (leGetN s w) w = s.take w := by
  refine List.ext_getElem (by simp [lePut_length]; omega) fun i h1 h2 => ?_
  have hi : i < w := by simpa [lePut_length] using h1
  have hv := leGet_val s w hw hl
  have hb := leV_byte (s.take w) i (by simp; omega)
  have e1 : (lePut (leGetN s w) w)[i] = (shr64 (leGetN s w) (8 * i)).toUInt8 := by simp [lePut]
  rw [e1]
  apply UInt8.toNat_inj.1
  rw [UInt64.toNat_toUInt8, shr64_nat _ _ (by omega), hv, hb, List.getD_eq_getElem?_getD, List.getElem?_eq_getElem h2]
  rfl
theorem get06 (s : List UInt8) (hs : s.length ≤ 8) {n : Nat} (hm : 8 < n) : f_ref06_get n s = some (leGetN s s.length) := by
  have hfin : UInt64.ofNat (leV (s.drop (s.length - s.length))) = leGetN s s.length := by
    apply UInt64.toNat_inj.1
    rw [leGet_val s s.length hs (Nat.le_refl _), List.take_length, Nat.sub_self, List.drop_zero]
    have := leV_lt s
    have h2 : 2 ^ (8 * s.length) ≤ 2 ^ 64 := Nat.pow_le_pow_right (by decide) (by omega)
    simp only [UInt64.toNat_ofNat']
    exact Nat.mod_eq_of_lt (by omega)
  unfold f_ref06_get
  rw [ret_eq, wI_eq (by omega) (by omega)]
  unfold f_ref06_get_l1
  refine (congrArg (loopN _ n) ?_).trans (loop_all (fun j => (UInt64.ofNat (leV (s.drop (s.length - j))), (s.length : Int) - 1 - j)) s.length (fun j hj k => ?_) (fun k => ?_) (by omega))
  · simp [leV]
  · have ej : (s.length : Int) - 1 - ((j + 1 : Nat) : Int) = (s.length : Int) - 1 - j - 1 := by omega
    have st : s.drop (s.length - (j + 1)) = s.getD (s.length - (j + 1)) 0 :: s.drop (s.length - j) := by
      rw [List.drop_eq_getElem_cons (by omega), show s.length - (j + 1) + 1 = s.length - j by omega]
      simp [List.getD_eq_getElem?_getD, List.getElem?_eq_getElem (show s.length - (j + 1) < s.length by omega)]
    have hv : 256 * UInt64.ofNat (leV (s.drop (s.length - j))) + (s.getD (s.length - (j + 1)) 0).toUInt64 = UInt64.ofNat (leV (s.drop (s.length - (j + 1)))) := by
      rw [st, leV]
      apply UInt64.toNat_inj.1
      simp only [UInt64.toNat_add, UInt64.toNat_mul, UInt64.toNat_ofNat', UInt8.toNat_toUInt64]
      generalize leV (s.drop (s.length - j)) = q
      have h256 : (256 : UInt64).toNat = 256 := rfl
      rw [h256]
      omega
    dsimp only
    rw [ej, ← hv]
    simp only [f_ref06_get_l1_b, show decide (0 ≤ (s.length : Int) - 1 - j) = true by simp; omega, cond_true]
    rw [nthI_getD (k := s.length - (j + 1)) 0 (by omega) (by omega), some_bind, ret_eq, ret_eq, wI_eq (by omega) (by omega)]
  · simp only [f_ref06_get_l1_b, show decide (0 ≤ (s.length : Int) - 1 - ((s.length : Nat) : Int)) = false by simp; omega, cond_false, f_ref06_get_j1]
    rw [hfin]
theorem leGet_take (s : List UInt8) (w : Nat) : ∀ k, k ≤ w → leGetN (s.take w) k = leGetN s k
  | 0, _ => rfl
  | k + 1, h => by
    rw [leGetN, leGetN, leGet_take s w k (by omega)]
    congr 3
    simp [List.getD_eq_getElem?_getD, List.getElem?_take, show k < w by omega]

/-! ### Heads -/
theorem nonce06 (h : HeadA) {n : Nat} (hm : 8 < n) : f_ref06_Nonce n h = some (nonceA h) := by
  unfold f_ref06_Nonce
  rw [show f_ref06_put n h.boot.toUInt64 4 = some (lePut h.boot.toUInt64 4) from put06 _ 4 (by decide) hm, some_bind, show f_ref06_put n h.seq 8 = some (lePut h.seq 8) from put06 _ 8 (by decide) hm, some_bind, catS_eq (by simp [lePut_length]), some_bind]
  unfold nonceA
  exact Eq.refl _
theorem Put06 (h : HeadA) {n : Nat} (hm : 8 < n) : f_ref06_Put n h = some (putA h) := by
  unfold f_ref06_Put
  have p4 : ∀ x : UInt64, f_ref06_put n x 4 = some (lePut x 4) := fun x => put06 _ 4 (by decide) hm
  have p8 : ∀ x : UInt64, f_ref06_put n x 8 = some (lePut x 8) := fun x => put06 _ 8 (by decide) hm
  rw [p4, some_bind, p4, some_bind, catS_eq (by simp [lePut_length]), some_bind, p4, some_bind, catS_eq (by simp [lePut_length]), some_bind, p8, some_bind, catS_eq (by simp [lePut_length]), some_bind, catS_eq (by simp [lePut_length]), some_bind]
  simp [putA, nonceA]
theorem toU32_back {x : UInt64} (h : x.toNat < 4294967296) : x.toUInt32.toUInt64 = x := by
  apply UInt64.toNat_inj.1
  rw [UInt32.toNat_toUInt64, UInt64.toNat_toUInt32]
  exact Nat.mod_eq_of_lt h
theorem put_head {s : List UInt8} (hl : s.length = 24) (hz : s.drop 20 = [0, 0, 0, 0]) : putA (headA s) = s := by
  have o : offA 0 = 0 ∧ offA 1 = 4 ∧ offA 2 = 8 ∧ offA 3 = 12 := ⟨rfl, rfl, rfl, rfl⟩
  have w : widA 0 = 4 ∧ widA 1 = 4 ∧ widA 2 = 4 ∧ widA 3 = 8 := ⟨rfl, rfl, rfl, rfl⟩
  have lt : ∀ k, k + 4 ≤ 24 → (leGetN (s.drop k) 4).toNat < 4294967296 := fun k hk => by
    rw [leGet_val _ 4 (by decide) (by simp; omega)]
    have := leV_lt ((s.drop k).take 4)
    rw [show ((s.drop k).take 4).length = 4 by simp; omega] at this
    exact this
  rw [putA_eq]
  simp only [headA, fieldA, o, w]
  rw [toU32_back (lt 0 (by omega)), toU32_back (lt 4 (by omega)), toU32_back (lt 8 (by omega)), put_get _ 4 (by decide) (by simp; omega), put_get _ 4 (by decide) (by simp; omega), put_get _ 4 (by decide) (by simp; omega), put_get _ 8 (by decide) (by simp; omega), ← hz]
  have d : ∀ a b : Nat, (s.drop a).take b ++ s.drop (a + b) = s.drop a := fun a b => by rw [← List.drop_drop, List.take_append_drop]
  rw [d 12 8, d 8 4, d 4 4]
  have := d 0 4
  rwa [List.drop_zero] at this
theorem Get06 (s : List UInt8) {n : Nat} (hm : 8 < n) : f_ref06_Get n s = some (getA s) := by
  unfold f_ref06_Get
  by_cases hl : s.length = 24
  · rw [show (!decide ((s.length : Int) = 24)) = false by simp; omega, show orO false ((slcI s 20 (s.length : Int)).bind fun s1 => some (!decide (s1 = [0, 0, 0, 0]))) = some (!decide (s.drop 20 = [0, 0, 0, 0])) by
      rw [show slcI s 20 (s.length : Int) = some ((s.drop 20).take (24 - 20)) from slcI_of (p := 20) (q := 24) rfl (by omega) (by omega) (by omega), some_bind, List.take_of_length_le (by simp; omega)]
      rfl, some_bind]
    by_cases hz : s.drop 20 = [0, 0, 0, 0]
    · rw [show (!decide (s.drop 20 = [0, 0, 0, 0])) = false by simp [hz]]
      simp only [cond_false]
      have g : ∀ (p q : Nat), p + q ≤ 24 → q ≤ 8 → f_ref06_get n ((s.drop p).take q) = some (leGetN (s.drop p) q) := fun p q h1 h2 => by
        have hll : ((s.drop p).take q).length = q := by simp; omega
        rw [get06 _ (by omega) hm, hll, leGet_take _ _ _ (Nat.le_refl _)]
      have s1 : slcI s 0 4 = some ((s.drop 0).take 4) := slcI_of (p := 0) (q := 4) rfl rfl (by omega) (by omega)
      have s2 : slcI s 4 8 = some ((s.drop 4).take 4) := slcI_of (p := 4) (q := 8) rfl rfl (by omega) (by omega)
      have s3 : slcI s 8 12 = some ((s.drop 8).take 4) := slcI_of (p := 8) (q := 12) rfl rfl (by omega) (by omega)
      have s4 : slcI s 12 20 = some ((s.drop 12).take 8) := slcI_of (p := 12) (q := 20) rfl rfl (by omega) (by omega)
      rw [s1, some_bind, g 0 4 (by omega) (by omega), some_bind, s2, some_bind, g 4 4 (by omega) (by omega), some_bind, s3, some_bind, g 8 4 (by omega) (by omega), some_bind, s4, some_bind, g 12 8 (by omega) (by omega), some_bind]
      unfold getA
      rw [if_pos ⟨hl, put_head hl hz⟩]
      exact Eq.refl _
    · rw [show (!decide (s.drop 20 = [0, 0, 0, 0])) = true by simp [hz]]
      simp only [cond_true]
      unfold getA
      rw [if_neg]
      · rfl
      · rintro ⟨_, he⟩
        apply hz
        rw [← he, putA_eq]
        rw [show 20 = 4 + (4 + (4 + 8)) from rfl, ← List.drop_drop, drop_lePut, ← List.drop_drop, drop_lePut, ← List.drop_drop, drop_lePut, drop_lePut]
  · rw [show (!decide ((s.length : Int) = 24)) = true by simp; omega]
    show (some true).bind _ = _
    rw [some_bind]
    simp only [cond_true]
    unfold getA
    rw [if_neg (fun h => hl h.1)]
    rfl

/-! ### Keys -/
theorem right04 (l : List KeyA) (hl : l.length ≤ 1048576) {n : Nat} (hm : 16 < n) : f_ref04_Right n l = some (rightA l) := by
  unfold f_ref04_Right rightA
  by_cases h16 : l.length ≤ 16
  · rw [show decide (16 < (l.length : Int)) = false by simp; omega, show decide (l.length ≤ 16) = true by simp [h16]]
    simp only [cond_false, Bool.true_and]
    unfold f_ref04_Right_l1
    refine (congrArg (loopN _ n) ?_).trans ((loop_ind (fun i => (prevGen l i, (i : Int))) (fun i => some (((gensA l).drop i).all (·.2))) l.length (fun i hi k hk => ?_) (fun k => ?_) (by omega)).trans ?_)
    · rfl
    · have ei : ((i + 1 : Nat) : Int) = (i : Int) + 1 := by omega
      have st : (gensA l).drop i = ((l.getD i key0).gen, keyOk l i) :: (gensA l).drop (i + 1) := by
        rw [List.drop_eq_getElem_cons (by rw [gensA_length]; exact hi)]
        congr 1
        exact Option.some.inj ((List.getElem?_eq_getElem _).symm.trans (gensA_get l i hi))
      dsimp only at hk ⊢
      rw [st, List.all_cons]
      simp only [f_ref04_Right_l1_b, show decide ((i : Int) < (l.length : Int)) = true by simp; omega, cond_true]
      rw [nthI_getD (k := i) key0 rfl hi, some_bind, some_bind]
      have hko : keyOk l i = !((decide ((l.getD i key0).gen ≤ prevGen l i)) || (!decide (((l.getD i key0).secret.length : Int) = 32))) := by
        unfold keyOk
        rw [Bool.not_or, Bool.not_not]
        congr 1
        rw [Bool.eq_iff_iff]
        simp [UInt32.not_le]
      generalize hg : (decide ((l.getD i key0).gen ≤ prevGen l i)) = p at hko
      generalize (!decide (((l.getD i key0).secret.length : Int) = 32)) = q at hko
      have ho : orO p (some q) = some (p || q) := by cases p <;> rfl
      rw [ho, some_bind, hko]
      cases hpq : (p || q) with
      | true => simp only [cond_true, Bool.not_true, Bool.false_and]
      | false =>
        simp only [cond_false, Bool.not_false, Bool.true_and]
        rw [some_bind, ret_eq, wI_eq (by omega) (by omega), ← ei]
        exact hk
    · simp only [f_ref04_Right_l1_b, show decide ((l.length : Int) < (l.length : Int)) = false by simp, cond_false, f_ref04_Right_j1]
      rw [List.drop_of_length_le (by rw [gensA_length]; exact Nat.le_refl _)]
      rfl
    · simp
  · rw [show decide (16 < (l.length : Int)) = true by simp; omega, show decide (l.length ≤ 16) = false by simp; omega]
    rfl
theorem find04 (l : List KeyA) (g : UInt32) (hl : l.length ≤ 1048576) {n : Nat} (hm : 16 < n) : f_ref04_Find n l g = some (findA l g) := by
  unfold f_ref04_Find
  rw [right04 l hl hm, some_bind]
  cases hr : rightA l with
  | false =>
    simp only [Bool.not_false, cond_true]
    unfold findA
    rw [if_pos hr]
    rfl
  | true =>
    simp only [Bool.not_true, cond_false]
    have h16 := ((rightA_iff l).1 hr).1
    unfold f_ref04_Find_l1
    have hno : (∀ k ∈ l, k.gen ≠ g) → findA l g = (key0, 41) := fun h => by
      unfold findA
      rw [if_neg (by simp [hr])]
      split
      · rename_i k hk
        rw [if_neg (h k (List.mem_of_getElem? hk))]
      · rfl
    refine (congrArg (loopN _ n) ?_).trans (loop_pre (fun i => ((0 : UInt32), ([] : List UInt8), (i : Int))) (fun i => ∀ k ∈ l.take i, k.gen ≠ g) l.length (fun i hi hp k hk => ?_) (fun hp k => ?_) (by simp) (by omega))
    · rfl
    · have ei : ((i + 1 : Nat) : Int) = (i : Int) + 1 := by omega
      have hgi : l[i]? = some (l.getD i key0) := get_getD key0 hi
      dsimp only at hk ⊢
      simp only [f_ref04_Find_l1_b, show decide ((i : Int) < (l.length : Int)) = true by simp; omega, cond_true]
      rw [nthI_getD (k := i) key0 rfl hi, some_bind]
      by_cases hg : (l.getD i key0).gen = g
      · rw [show decide ((l.getD i key0).gen = g) = true by simp only [hg, decide_true]]
        simp only [cond_true]
        rw [some_bind, find_iff.2 ⟨hr, List.mem_of_getElem? hgi, hg⟩]
      · rw [show decide ((l.getD i key0).gen = g) = false by simp only [hg, decide_false]]
        simp only [cond_false]
        rw [ret_eq, wI_eq (by omega) (by omega), ← ei]
        refine hk fun k' hk' => ?_
        rw [List.take_add_one, hgi] at hk'
        rcases List.mem_append.1 hk' with h | h
        · exact hp k' h
        · simp only [Option.toList_some, List.mem_singleton] at h
          rw [h]; exact hg
    · simp only [f_ref04_Find_l1_b, show decide ((l.length : Int) < (l.length : Int)) = false by simp, cond_false, f_ref04_Find_j1]
      rw [List.take_length] at hp
      rw [hno hp]
      rfl
theorem subs04 (T : List UInt32) (k : KeyA) (hT : T.length = 64) (hr : rightA [k] = true) {n : Nat} (hm : 2097152 < n) : f_ref04_Subs n T k = some (subA T k sealW, subA T k bindW, 0) := by
  have hl := rightA_one hr
  unfold f_ref04_Subs
  rw [right04 [k] (by simp) (by omega), some_bind, hr]
  simp only [Bool.not_true, cond_false]
  rw [catS_eq (by simp), some_bind, exp03 T k.secret _ hT (by omega) (by simp) hm, some_bind, catS_eq (by simp), some_bind, exp03 T k.secret _ hT (by omega) (by simp) hm, some_bind]
  exact Eq.refl _

/-! ### Padding -/
set_option maxRecDepth 20000 in
theorem pad05 (s : List UInt8) {n : Nat} (hm : 256 < n) : f_ref05_Pad n s = some (padR s) := by
  unfold f_ref05_Pad padR
  by_cases h : 198 < s.length
  · rw [show decide (198 < (s.length : Int)) = true by simp; omega, if_pos h]
    simp only [cond_true]
  · rw [show decide (198 < (s.length : Int)) = false by simp; omega, if_neg h]
    simp only [cond_false]
    rw [show quoI (s.length : Int) 256 = some ((s.length / 256 : Nat) : Int) from quoI_of (b := 256) (by decide) (by omega), some_bind, show remI (s.length : Int) 256 = some ((s.length % 256 : Nat) : Int) from remI_of (b := 256) (by decide), some_bind, catS_eq (by simp; omega), some_bind]
    have hp : padA s = [toU8 ((s.length / 256 : Nat) : Int), toU8 ((s.length % 256 : Nat) : Int)] ++ s ++ List.replicate (198 - s.length) 0 := by
      unfold padA
      congr 3
      simp only [toU8]
      congr 2
      omega
    rw [hp]
    have hl : ([toU8 ((s.length / 256 : Nat) : Int), toU8 ((s.length % 256 : Nat) : Int)] ++ s).length = s.length + 2 := by simp
    generalize [toU8 ((s.length / 256 : Nat) : Int), toU8 ((s.length % 256 : Nat) : Int)] ++ s = u at hl
    unfold f_ref05_Pad_l1
    refine (congrArg (loopN _ n) ?_).trans (loop_all (fun i => u ++ List.replicate i 0) (198 - s.length) (fun i hi k => ?_) (fun k => ?_) (by omega))
    · simp
    · have st : u ++ List.replicate (i + 1) (0 : UInt8) = u ++ List.replicate i 0 ++ [0] := by rw [List.replicate_succ', List.append_assoc]
      have hl2 : (u ++ List.replicate i (0 : UInt8)).length = s.length + 2 + i := by simp; omega
      rw [st]
      generalize u ++ List.replicate i (0 : UInt8) = y at hl2
      unfold f_ref05_Pad_l1_b
      rw [show decide ((y.length : Int) < 200) = true by simp; omega]
      simp only [cond_true]
      rw [catS_eq (by simp; omega), some_bind]
    · have hl2 : (u ++ List.replicate (198 - s.length) (0 : UInt8)).length = 200 := by simp; omega
      generalize u ++ List.replicate (198 - s.length) (0 : UInt8) = y at hl2
      unfold f_ref05_Pad_l1_b
      rw [show decide ((y.length : Int) < 200) = false by simp; omega]
      simp only [cond_false]
      unfold f_ref05_Pad_j1
      exact Eq.refl _
theorem unpad05 (b : List UInt8) {n : Nat} (hm : 256 < n) : f_ref05_Unpad n b = some (unpadA b) := by
  unfold f_ref05_Unpad unpadA
  by_cases h : b.length = 200
  · rw [show (!decide ((b.length : Int) = 200)) = false by simp; omega, if_neg (by simpa using h)]
    simp only [cond_false]
    have c0 := (b.getD 0 0).toNat_lt
    have c1 := (b.getD 1 0).toNat_lt
    have hL : wI (wI (256 * ((b.getD 0 0).toNat : Int)) + ((b.getD 1 0).toNat : Int)) = ((lenA b : Nat) : Int) := by
      rw [show wI (256 * ((b.getD 0 0).toNat : Int)) = 256 * ((b.getD 0 0).toNat : Int) from wI_eq (by omega) (by omega), wI_eq (by omega) (by omega)]
      unfold lenA
      omega
    rw [show nthI b 0 = some (b.getD 0 0) from nthI_getD (k := 0) 0 rfl (by omega), some_bind, show nthI b 1 = some (b.getD 1 0) from nthI_getD (k := 1) 0 rfl (by omega), some_bind, ret_eq, hL]
    by_cases h2 : 198 < lenA b
    · rw [show decide (198 < ((lenA b : Nat) : Int)) = true by simp; omega, if_pos h2]
      simp only [cond_true]
    · rw [show decide (198 < ((lenA b : Nat) : Int)) = false by simp; omega, if_neg h2]
      simp only [cond_false]
      rw [ret_eq, wI_eq (by omega) (by omega)]
      unfold f_ref05_Unpad_l1
      refine (congrArg (loopN _ n) ?_).trans (loop_pre (fun i => ((2 + lenA b + i : Nat) : Int)) (fun i => ∀ j, j < i → b.getD (2 + lenA b + j) 0 = 0) (198 - lenA b) (fun i hi hp k hk => ?_) (fun hp k => ?_) (fun j hj => by omega) (by omega))
      · omega
      · have ei : ((2 + lenA b + (i + 1) : Nat) : Int) = ((2 + lenA b + i : Nat) : Int) + 1 := by omega
        simp only [f_ref05_Unpad_l1_b, show decide (((2 + lenA b + i : Nat) : Int) < (b.length : Int)) = true by simp; omega, cond_true]
        rw [nthI_getD (k := 2 + lenA b + i) 0 rfl (by omega), some_bind]
        by_cases hz : b.getD (2 + lenA b + i) 0 = 0
        · rw [show (!decide (b.getD (2 + lenA b + i) 0 = 0)) = false by simp only [hz]; decide]
          simp only [cond_false]
          rw [ret_eq, wI_eq (by omega) (by omega), ← ei]
          refine hk fun j hj => ?_
          rcases Nat.lt_or_ge j i with h | h
          · exact hp j h
          · rw [show j = i by omega]; exact hz
        · rw [show (!decide (b.getD (2 + lenA b + i) 0 = 0)) = true by simp only [hz]; decide]
          simp only [cond_true]
          rw [if_neg]
          intro hc
          exact hz (hc i hi)
      · simp only [f_ref05_Unpad_l1_b, show decide (((2 + lenA b + (198 - lenA b) : Nat) : Int) < (b.length : Int)) = false by simp; omega, cond_false, f_ref05_Unpad_j1]
        rw [if_pos (show cleanA b from hp), wI_eq (by omega) (by omega), show slcI b 2 (2 + ((lenA b : Nat) : Int)) = some ((b.drop 2).take (2 + lenA b - 2)) from slcI_of (p := 2) (q := 2 + lenA b) rfl (by omega) (by omega) (by omega), some_bind, show 2 + lenA b - 2 = lenA b by omega]
  · rw [show (!decide ((b.length : Int) = 200)) = true by simp; omega, if_pos (by simpa using h)]
    simp only [cond_true]
end Go.Proofs.YtnpnmdbleopikaaDoor

/- The program's contracts in the printed functions' words. Condition: the plain function yields. -/
namespace Go.Proofs.YtnpnmdbleopikaaDoor
open Go
variable {K : Nat → Prop} {w0 : World} {H : List Chunk}

def shownO : Option Bool := some true
theorem w_shown {T : List UInt32} {r : Bool} (h : shownO = some r) (hS : ShaT K w0 T) : Con Tryd.prog K w0 10 [] [] H (fun u M => u = vB r ∧ M = []) := by
  obtain rfl := Option.some.inj h
  exact c_law06_shown T hS
def getO (s : List UInt8) : Option (HeadA × Bool) := some (getA s)
theorem w_get {s : List UInt8} {r : HeadA × Bool} (h : getO s = some r) : Con Tryd.prog K w0 11 [vS s] [] H (fun u M => u = .tuple #[.agg (encHead r.1).toArray, vB r.2] ∧ M = []) := by
  obtain rfl := Option.some.inj h
  exact c_seal_Get s
def putO (h : HeadA) : Option (List UInt8) := some (putA h)
theorem w_put {x : HeadA} {r : List UInt8} (h : putO x = some r) : Con Tryd.prog K w0 13 [.agg (encHead x).toArray] [] H (fun u M => u = vS r ∧ M = []) := by
  obtain rfl := Option.some.inj h
  exact c_seal_Put x
def tagO (s : List UInt8) : Option (List UInt8) := if s.length ≤ 9223372036854775807 then some (s.drop (s.length - 32)) else none
theorem w_tag {s r : List UInt8} (h : tagO s = some r) : Con Tryd.prog K w0 15 [vS s] [] H (fun u M => u = vS r ∧ M = []) := by
  unfold tagO at h
  split at h
  · rename_i hl
    obtain rfl := Option.some.inj h
    exact c_seal_Tag s hl
  · cases h
def cutO (l : List KeyA) : Option (List KeyA) := if l.length ≤ 9223372036854775807 then some (l.take (min l.length 30)) else none
theorem w_cut {v : Value} {l r : List KeyA} (h : cutO l = some r) (hk : SlOf K w0 encKey 2 v l) : Con Tryd.prog K w0 17 [v] [] H (fun u M => ∃ v0 : Value, u = v0 ∧ SlOf K w0 encKey 2 v0 r ∧ M = []) := by
  unfold cutO at h
  split at h
  · rename_i hl
    obtain rfl := Option.some.inj h
    refine (c_law06_cut v l hk hl).mono ?_
    rintro u M ⟨⟨v', rfl, h1⟩, rfl⟩
    exact ⟨_, rfl, h1, rfl⟩
  · cases h
def sealO (T : List UInt32) (l : List KeyA) (h : HeadA) (s : List UInt8) : Option (List UInt8 × Int) := if l.length ≤ 1099511627776 ∧ s.length ≤ 9223372036854775807 then some (sealA T l h s) else none
theorem w_seal {T : List UInt32} {v : Value} {l : List KeyA} {x : HeadA} {s : List UInt8} {r : List UInt8 × Int} (h : sealO T l x s = some r) (hS : ShaT K w0 T) (hk : SlOf K w0 encKey 2 v l) : Con Tryd.prog K w0 16 [v, .agg (encHead x).toArray, vS s] [] H (fun u M => u = .tuple #[vS r.1, vI r.2] ∧ M = []) := by
  unfold sealO at h
  split at h
  · rename_i hl
    obtain rfl := Option.some.inj h
    exact c_seal_Seal T v l x s hS hk hk.cells1 hl.1 hl.2
  · cases h
def openO (T : List UInt32) (l : List KeyA) (s : List UInt8) : Option (HeadA × List UInt8 × Int) := if l.length ≤ 1099511627776 ∧ s.length ≤ 9223372036854775807 then some (openA T l s) else none
theorem w_open {T : List UInt32} {v : Value} {l : List KeyA} {s : List UInt8} {r : HeadA × List UInt8 × Int} (h : openO T l s = some r) (hS : ShaT K w0 T) (hk : SlOf K w0 encKey 2 v l) : Con Tryd.prog K w0 19 [v, vS s] [] H (fun u M => u = .tuple #[.agg (encHead r.1).toArray, vS r.2.1, vI r.2.2] ∧ M = []) := by
  unfold openO at h
  split at h
  · rename_i hl
    obtain rfl := Option.some.inj h
    exact c_seal_Open T v l s hS hk hk.cells1 hl.1 hl.2
  · cases h
end Go.Proofs.YtnpnmdbleopikaaDoor

/- Plain functions of the references and the laws, printed from the loaded program, and the walks that show that the program computes them. Condition: the plain function yields. -/
namespace Go.Proofs.YtnpnmdbleopikaaDoor
open Go
variable {K : Nat → Prop} {w0 : World} {H : List Chunk}

def f_law06_SealHeads (n : Nat) (p0 : HeadA) (p1 : List UInt8) : Option Bool :=
  (shownO).bind fun y1 =>
  (getO p1).bind fun y2 =>
  (f_ref06_Get n p1).bind fun y3 =>
  (andO y1 ((putO p0).bind fun y4 => (f_ref06_Put n p0).bind fun y5 => some (decide (y4 = y5)))).bind fun y6 =>
  (andO ((y6 && (decide (y2.1.page = y3.1.page) && (decide (y2.1.gen = y3.1.gen) && (decide (y2.1.boot = y3.1.boot) && (decide (y2.1.seq = y3.1.seq) && true))))) && (y2.2 == y3.2)) ((tagO p1).bind fun y7 => (slcI p1 (max 0 (wI ((p1.length : Int) - 32))) (p1.length : Int)).bind fun s1 => some (decide (y7 = s1)))).bind fun y8 =>
  some y8
set_option maxRecDepth 100000 in
theorem c_law06_SealHeads {n : Nat} {T : List UInt32} {p0 : HeadA} {p1 : List UInt8} {r : Bool} (h : f_law06_SealHeads n p0 p1 = some r) (hS : ShaT K w0 T) : Con Tryd.prog K w0 3 [.agg (encHead p0).toArray, vS p1] [] H (fun u M => u = vB r ∧ M = []) := by
  unfold f_law06_SealHeads at h
  refine Con.enter Tryd.func3 rfl rfl ?_
  refine SX.sr ?_
  refine SL.box ⟨rfl, rfl, rfl, rfl⟩ rfl (fun _ => trivial) fun b1 => ?_
  refine SL.asg ⟨rfl, rfl, rfl, rfl⟩ rfl ?_
  refine SL.nx ?_
  refine SX.sr ?_
  obtain ⟨y1, hy1, h⟩ := bnd h
  refine SL.call (vs := []) (Hin := []) (Hr := _ :: _) ⟨rfl, rfl, rfl, rfl⟩ rfl trivial cal10 rfl rfl (w_shown hy1 hS) ?_
  rintro _ _ ⟨rfl, rfl⟩
  refine ⟨trivial, ?_⟩
  refine SL.asg ⟨rfl, rfl, rfl, rfl⟩ rfl ?_
  refine SL.nx ?_
  refine SX.sr ?_
  obtain ⟨y2, hy2, h⟩ := bnd h
  refine SL.mv ⟨rfl, rfl, rfl, rfl⟩ rfl ?_
  refine SL.call (vs := [_]) (Hin := []) (Hr := _ :: _) ⟨rfl, rfl, rfl, rfl⟩ rfl ⟨rfl, trivial⟩ cal11 rfl rfl (w_get hy2) ?_
  rintro _ _ ⟨rfl, rfl⟩
  refine ⟨trivial, ?_⟩
  refine SL.mv ⟨rfl, rfl, rfl, rfl⟩ rfl ?_
  refine SL.ext ⟨rfl, rfl, rfl, rfl⟩ rfl rfl ?_
  refine SL.ext ⟨rfl, rfl, rfl, rfl⟩ rfl rfl ?_
  refine SL.alloc ⟨rfl, rfl, rfl, rfl⟩ ze25 (fun _ => trivial) fun b2 => ?_
  refine SL.st 0 ⟨rfl, rfl, rfl⟩ rfl rfl rfl sz25 rfl rfl rfl trivial ?_
  refine SL.asg ⟨rfl, rfl, rfl, rfl⟩ rfl ?_
  refine SL.nx ?_
  refine SX.sr ?_
  obtain ⟨y3, hy3, h⟩ := bnd h
  refine SL.mv ⟨rfl, rfl, rfl, rfl⟩ rfl ?_
  refine SL.call (vs := [_]) (Hin := []) (Hr := _ :: _ :: _) ⟨rfl, rfl, rfl, rfl⟩ rfl ⟨rfl, trivial⟩ cal12 rfl rfl (c_ref06_Get hy3) ?_
  rintro _ _ ⟨rfl, rfl⟩
  refine ⟨trivial, ?_⟩
  refine SL.mv ⟨rfl, rfl, rfl, rfl⟩ rfl ?_
  refine SL.ext ⟨rfl, rfl, rfl, rfl⟩ rfl rfl ?_
  refine SL.ext ⟨rfl, rfl, rfl, rfl⟩ rfl rfl ?_
  refine SL.alloc ⟨rfl, rfl, rfl, rfl⟩ ze25 (fun _ => trivial) fun b3 => ?_
  refine SL.st 0 ⟨rfl, rfl, rfl⟩ rfl rfl rfl sz25 rfl rfl rfl trivial ?_
  refine SL.asg ⟨rfl, rfl, rfl, rfl⟩ rfl ?_
  refine SL.nx ?_
  refine SX.seq ?_
  obtain ⟨y6, hy6, h⟩ := bnd h
  obtain ⟨y8, hy8, h⟩ := bnd h
  refine SX.drawI mix [0, 1, 2] (Pl.of [(true, 0), (true, 1), (true, 2), (true, 4), (false, 3), (false, 5), (true, 6), (true, 7), (true, 8), (true, 9), (true, 10), (true, 11), (true, 12), (true, 13), (true, 14), (true, 15), (true, 16), (true, 17), (true, 18), (true, 19), (true, 21), (true, 22), (true, 23), (true, 24), (true, 25), (true, 26), (false, 20), (false, 27), (false, 28), (false, 29)]) (by kernel_rfl) ?_
  refine SL.mv ⟨rfl, rfl, rfl, rfl⟩ rfl ?_
  refine SL.mv ⟨rfl, rfl, rfl, rfl⟩ rfl ?_
  refine SL.andN 22 6 28 hy6 rfl (fun hb hg1 k => ?_) (fun hb k => ?_) ?_
  · skip
    obtain ⟨y4, hy4, hg1⟩ := bnd hg1
    obtain ⟨y5, hy5, hg1⟩ := bnd hg1
    obtain rfl := Option.some.inj hg1
    refine SL.ldA [vU32 p0.page, vU32 p0.gen, vU32 p0.boot, vU64 p0.seq] ⟨rfl, rfl, rfl, rfl⟩ ag25 rfl rfl (cells_all 2 rfl) ?_
    refine SL.ldA [vU32 p0.page, vU32 p0.gen, vU32 p0.boot, vU64 p0.seq] ⟨rfl, rfl, rfl, rfl⟩ ag25 rfl rfl (cells_all 2 rfl) ?_
    refine SL.call (vs := [_]) (Hin := []) (Hr := _ :: _ :: _ :: _) ⟨rfl, rfl, rfl, rfl⟩ rfl ⟨rfl, trivial⟩ cal13 rfl rfl (w_put hy4) ?_
    rintro _ _ ⟨rfl, rfl⟩
    refine ⟨⟨⟨0, rfl⟩, ⟨1, rfl⟩, ⟨2, rfl⟩, trivial⟩, ?_⟩
    refine SL.call (vs := [_]) (Hin := []) (Hr := _ :: _ :: _ :: _) ⟨rfl, rfl, rfl, rfl⟩ rfl ⟨rfl, trivial⟩ cal14 rfl rfl (c_ref06_Put hy5) ?_
    rintro _ _ ⟨rfl, rfl⟩
    refine ⟨⟨⟨0, rfl⟩, ⟨1, rfl⟩, ⟨2, rfl⟩, trivial⟩, ?_⟩
    refine SL.bin ⟨rfl, rfl, rfl, rfl⟩ rfl rfl Bin.eqS ?_
    refine SL.pk ⟨rfl, rfl, rfl, rfl⟩ rfl rfl ?_
    exact k.mono (by repeat' (first | exact trivial | refine And.intro rfl ?_))
  · skip
    refine SL.pass rfl rfl rfl ?_
    refine SL.pass rfl rfl rfl ?_
    refine SL.pass rfl rfl rfl ?_
    refine SL.pass rfl rfl rfl ?_
    refine SL.pass rfl rfl rfl ?_
    refine SL.pk ⟨rfl, rfl, rfl, rfl⟩ rfl rfl ?_
    exact k.mono (by repeat' (first | exact trivial | refine And.intro rfl ?_))
  refine SL.mv ⟨rfl, rfl, rfl, rfl⟩ rfl ?_
  refine SL.and (c := decide (y2.1.page = y3.1.page) && (decide (y2.1.gen = y3.1.gen) && (decide (y2.1.boot = y3.1.boot) && (decide (y2.1.seq = y3.1.seq) && true)))) 29 4 33 rfl (fun hb k => ?_) (fun hb k => ?_) ?_
  · skip
    refine SL.ldA [vU32 y2.1.page, vU32 y2.1.gen, vU32 y2.1.boot, vU64 y2.1.seq] ⟨rfl, rfl, rfl, rfl⟩ ag25 rfl rfl (cells_all 1 rfl) ?_
    refine SL.ldA [vU32 y3.1.page, vU32 y3.1.gen, vU32 y3.1.boot, vU64 y3.1.seq] ⟨rfl, rfl, rfl, rfl⟩ ag25 rfl rfl (cells_all 0 rfl) ?_
    refine SL.eqAgg ⟨rfl, rfl, rfl, rfl⟩ fl25 rfl rfl (flatE_cons rfl rfl (eqV_32 (a := y2.1.page) (b := y3.1.page)) (flatE_cons rfl rfl (eqV_32 (a := y2.1.gen) (b := y3.1.gen)) (flatE_cons rfl rfl (eqV_32 (a := y2.1.boot) (b := y3.1.boot)) (flatE_cons rfl rfl (eqV_64 (a := y2.1.seq) (b := y3.1.seq)) flatE_nil)))) ?_
    refine SL.pk ⟨rfl, rfl, rfl, rfl⟩ rfl rfl ?_
    exact k.mono (by repeat' (first | exact trivial | refine And.intro rfl ?_))
  · skip
    refine SL.pass rfl rfl rfl ?_
    refine SL.pass rfl rfl rfl ?_
    refine SL.pass rfl rfl rfl ?_
    refine SL.pk ⟨rfl, rfl, rfl, rfl⟩ rfl rfl ?_
    exact k.mono (by repeat' (first | exact trivial | refine And.intro rfl ?_))
  refine SL.mv ⟨rfl, rfl, rfl, rfl⟩ rfl ?_
  refine SL.and (c := y2.2 == y3.2) 34 4 38 rfl (fun hb k => ?_) (fun hb k => ?_) ?_
  · skip
    refine SL.mv ⟨rfl, rfl, rfl, rfl⟩ rfl ?_
    refine SL.mv ⟨rfl, rfl, rfl, rfl⟩ rfl ?_
    refine SL.eqB ⟨rfl, rfl, rfl, rfl⟩ ty4 rfl rfl ?_
    refine SL.pk ⟨rfl, rfl, rfl, rfl⟩ rfl rfl ?_
    exact k.mono (by repeat' (first | exact trivial | refine And.intro rfl ?_))
  · skip
    refine SL.pass rfl rfl rfl ?_
    refine SL.pass rfl rfl rfl ?_
    refine SL.pass rfl rfl rfl ?_
    refine SL.pk ⟨rfl, rfl, rfl, rfl⟩ rfl rfl ?_
    exact k.mono (by repeat' (first | exact trivial | refine And.intro rfl ?_))
  refine SL.mv ⟨rfl, rfl, rfl, rfl⟩ rfl ?_
  refine SL.andN 39 10 49 hy8 rfl (fun hb hg4 k => ?_) (fun hb k => ?_) ?_
  · skip
    obtain ⟨y7, hy7, hg4⟩ := bnd hg4
    obtain ⟨s1, hs1, hg4⟩ := bnd hg4
    obtain rfl := Option.some.inj hg4
    refine SL.mv ⟨rfl, rfl, rfl, rfl⟩ rfl ?_
    refine SL.mv ⟨rfl, rfl, rfl, rfl⟩ rfl ?_
    refine SL.mv ⟨rfl, rfl, rfl, rfl⟩ rfl ?_
    refine SL.lenS ⟨rfl, rfl, rfl, rfl⟩ ty9 rfl ?_
    refine SL.bin ⟨rfl, rfl, rfl, rfl⟩ rfl rfl Bin.subW ?_
    refine SL.maxI ⟨rfl, rfl, rfl, rfl⟩ rfl rfl ?_
    refine SL.slNl hs1 ⟨rfl, rfl, rfl, rfl⟩ ty9 rfl rfl ?_
    refine SL.call (vs := [_]) (Hin := []) (Hr := _ :: _ :: _ :: _) ⟨rfl, rfl, rfl, rfl⟩ rfl ⟨rfl, trivial⟩ cal15 rfl rfl (w_tag hy7) ?_
    rintro _ _ ⟨rfl, rfl⟩
    refine ⟨⟨⟨0, rfl⟩, ⟨1, rfl⟩, ⟨2, rfl⟩, trivial⟩, ?_⟩
    refine SL.bin ⟨rfl, rfl, rfl, rfl⟩ rfl rfl Bin.eqS ?_
    refine SL.pk ⟨rfl, rfl, rfl, rfl⟩ rfl rfl ?_
    exact k.mono (by repeat' (first | exact trivial | refine And.intro rfl ?_))
  · skip
    refine SL.pass rfl rfl rfl ?_
    refine SL.pass rfl rfl rfl ?_
    refine SL.pass rfl rfl rfl ?_
    refine SL.pass rfl rfl rfl ?_
    refine SL.pass rfl rfl rfl ?_
    refine SL.pass rfl rfl rfl ?_
    refine SL.pass rfl rfl rfl ?_
    refine SL.pass rfl rfl rfl ?_
    refine SL.pass rfl rfl rfl ?_
    refine SL.pk ⟨rfl, rfl, rfl, rfl⟩ rfl rfl ?_
    exact k.mono (by repeat' (first | exact trivial | refine And.intro rfl ?_))
  refine SL.asg ⟨rfl, rfl, rfl, rfl⟩ rfl ?_
  refine SL.nx ?_
  refine SX.ret ?_
  obtain rfl := Option.some.inj h
  exact SQ.fret (res1 rfl rfl) (ret_of (M := []) ⟨rfl, rfl⟩ fun _ hw => HpOk.pick (H := [_, _, _]) hw [] 3 rfl)

def f_law06_SealSeals (n : Nat) (T : List UInt32) (p0 : List KeyA) (p1 : HeadA) (p2 : List UInt8) : Option Bool :=
  (shownO).bind fun y1 =>
  (cutO p0).bind fun y2 =>
  (sealO T y2 p1 p2).bind fun y3 =>
  (cutO p0).bind fun y4 =>
  (f_ref06_Seal n T y4 p1 p2).bind fun y5 =>
  ret ((y1 && (decide (y3.1 = y5.1))) && (decide (y3.2 = y5.2))) fun x1 =>
  some x1
set_option maxRecDepth 100000 in
theorem c_law06_SealSeals {n : Nat} {T : List UInt32} {v0_ : Value} {p0 : List KeyA} {p1 : HeadA} {p2 : List UInt8} {r : Bool} (h : f_law06_SealSeals n T p0 p1 p2 = some r) (hS : ShaT K w0 T) (hT : TabN K w0 1 64 T) (hs0_ : SlOf K w0 encKey 2 v0_ p0) : Con Tryd.prog K w0 4 [v0_, .agg (encHead p1).toArray, vS p2] [] H (fun u M => u = vB r ∧ M = []) := by
  unfold f_law06_SealSeals at h
  refine Con.enter Tryd.func4 rfl rfl ?_
  refine SX.sr ?_
  refine SL.box ⟨rfl, rfl, rfl, rfl⟩ rfl (fun _ => trivial) fun b1 => ?_
  refine SL.asg ⟨rfl, rfl, rfl, rfl⟩ rfl ?_
  refine SL.nx ?_
  refine SX.sr ?_
  obtain ⟨y1, hy1, h⟩ := bnd h
  refine SL.call (vs := []) (Hin := []) (Hr := _ :: _) ⟨rfl, rfl, rfl, rfl⟩ rfl trivial cal10 rfl rfl (w_shown hy1 hS) ?_
  rintro _ _ ⟨rfl, rfl⟩
  refine ⟨trivial, ?_⟩
  refine SL.asg ⟨rfl, rfl, rfl, rfl⟩ rfl ?_
  refine SL.nx ?_
  refine SX.seq ?_
  obtain ⟨y2, hy2, h⟩ := bnd h
  obtain ⟨y3, hy3, h⟩ := bnd h
  refine SX.drawI mix [0] (Pl.ap [(true, 0), (true, 2), (true, 3), (false, 1), (false, 4), (false, 5), (true, 6), (true, 7), (false, 8)] (.last 9 .nil)) (by kernel_rfl) ?_
  refine SL.mv ⟨rfl, rfl, rfl, rfl⟩ rfl ?_
  refine SL.ldA [vU32 p1.page, vU32 p1.gen, vU32 p1.boot, vU64 p1.seq] ⟨rfl, rfl, rfl, rfl⟩ ag25 rfl rfl (cells_all 0 rfl) ?_
  refine SL.mv ⟨rfl, rfl, rfl, rfl⟩ rfl ?_
  refine SL.call (vs := [_]) (Hin := []) (Hr := _ :: _) ⟨rfl, rfl, rfl, rfl⟩ rfl ⟨rfl, trivial⟩ cal17 rfl rfl (w_cut hy2 hs0_) ?_
  rintro v1 _ ⟨_, rfl, hs1, rfl⟩
  refine ⟨⟨⟨0, rfl⟩, trivial⟩, ?_⟩
  refine SL.call (vs := [_, _, _]) (Hin := []) (Hr := _ :: _) ⟨rfl, rfl, rfl, rfl⟩ rfl ⟨rfl, rfl, rfl, trivial⟩ cal16 rfl rfl (w_seal hy3 hS hs1) ?_
  rintro _ _ ⟨rfl, rfl⟩
  refine ⟨⟨⟨0, rfl⟩, trivial⟩, ?_⟩
  refine SL.mv ⟨rfl, rfl, rfl, rfl⟩ rfl ?_
  refine SL.ext ⟨rfl, rfl, rfl, rfl⟩ rfl rfl ?_
  refine SL.ext ⟨rfl, rfl, rfl, rfl⟩ rfl rfl ?_
  refine SL.asg ⟨rfl, rfl, rfl, rfl⟩ rfl ?_
  refine SL.last ?_
  refine SL.asg ⟨rfl, rfl, rfl, rfl⟩ rfl ?_
  refine SL.nx ?_
  refine SX.seq ?_
  obtain ⟨y4, hy4, h⟩ := bnd h
  obtain ⟨y5, hy5, h⟩ := bnd h
  refine SX.drawI mix [0] (Pl.ap [(true, 0), (true, 2), (true, 3), (false, 1), (false, 4), (false, 5), (true, 6), (true, 7), (false, 8)] (.last 9 .nil)) (by kernel_rfl) ?_
  refine SL.mv ⟨rfl, rfl, rfl, rfl⟩ rfl ?_
  refine SL.ldA [vU32 p1.page, vU32 p1.gen, vU32 p1.boot, vU64 p1.seq] ⟨rfl, rfl, rfl, rfl⟩ ag25 rfl rfl (cells_all 0 rfl) ?_
  refine SL.mv ⟨rfl, rfl, rfl, rfl⟩ rfl ?_
  refine SL.call (vs := [_]) (Hin := []) (Hr := _ :: _) ⟨rfl, rfl, rfl, rfl⟩ rfl ⟨rfl, trivial⟩ cal17 rfl rfl (w_cut hy4 hs0_) ?_
  rintro v2 _ ⟨_, rfl, hs2, rfl⟩
  refine ⟨⟨⟨0, rfl⟩, trivial⟩, ?_⟩
  refine SL.call (vs := [_, _, _]) (Hin := []) (Hr := _ :: _) ⟨rfl, rfl, rfl, rfl⟩ rfl ⟨rfl, rfl, rfl, trivial⟩ cal18 rfl rfl (c_ref06_Seal hy5 hT hs2) ?_
  rintro _ _ ⟨rfl, rfl⟩
  refine ⟨⟨⟨0, rfl⟩, trivial⟩, ?_⟩
  refine SL.mv ⟨rfl, rfl, rfl, rfl⟩ rfl ?_
  refine SL.ext ⟨rfl, rfl, rfl, rfl⟩ rfl rfl ?_
  refine SL.ext ⟨rfl, rfl, rfl, rfl⟩ rfl rfl ?_
  refine SL.asg ⟨rfl, rfl, rfl, rfl⟩ rfl ?_
  refine SL.last ?_
  refine SL.asg ⟨rfl, rfl, rfl, rfl⟩ rfl ?_
  refine SL.nx ?_
  refine SX.sr ?_
  obtain ⟨x1, ex1, h⟩ := retE h
  refine SL.mv ⟨rfl, rfl, rfl, rfl⟩ rfl ?_
  refine SL.mv ⟨rfl, rfl, rfl, rfl⟩ rfl ?_
  refine SL.and (c := decide (y3.1 = y5.1)) 30 4 34 rfl (fun hb k => ?_) (fun hb k => ?_) ?_
  · skip
    refine SL.mv ⟨rfl, rfl, rfl, rfl⟩ rfl ?_
    refine SL.mv ⟨rfl, rfl, rfl, rfl⟩ rfl ?_
    refine SL.bin ⟨rfl, rfl, rfl, rfl⟩ rfl rfl Bin.eqS ?_
    refine SL.pk ⟨rfl, rfl, rfl, rfl⟩ rfl rfl ?_
    exact k.mono (by repeat' (first | exact trivial | refine And.intro rfl ?_))
  · skip
    refine SL.pass rfl rfl rfl ?_
    refine SL.pass rfl rfl rfl ?_
    refine SL.pass rfl rfl rfl ?_
    refine SL.pk ⟨rfl, rfl, rfl, rfl⟩ rfl rfl ?_
    exact k.mono (by repeat' (first | exact trivial | refine And.intro rfl ?_))
  refine SL.mv ⟨rfl, rfl, rfl, rfl⟩ rfl ?_
  refine SL.and (c := decide (y3.2 = y5.2)) 35 4 39 rfl (fun hb k => ?_) (fun hb k => ?_) ?_
  · skip
    refine SL.mv ⟨rfl, rfl, rfl, rfl⟩ rfl ?_
    refine SL.mv ⟨rfl, rfl, rfl, rfl⟩ rfl ?_
    refine SL.bin ⟨rfl, rfl, rfl, rfl⟩ rfl rfl Bin.eqI ?_
    refine SL.pk ⟨rfl, rfl, rfl, rfl⟩ rfl rfl ?_
    exact k.mono (by repeat' (first | exact trivial | refine And.intro rfl ?_))
  · skip
    refine SL.pass rfl rfl rfl ?_
    refine SL.pass rfl rfl rfl ?_
    refine SL.pass rfl rfl rfl ?_
    refine SL.pk ⟨rfl, rfl, rfl, rfl⟩ rfl rfl ?_
    exact k.mono (by repeat' (first | exact trivial | refine And.intro rfl ?_))
  refine SL.asgX (u := vB x1) ⟨rfl, rfl, rfl, rfl⟩ rfl (by rw [ex1]) ?_
  refine SL.nx ?_
  refine SX.ret ?_
  obtain rfl := Option.some.inj h
  exact SQ.fret (res1 rfl rfl) (ret_of (M := []) ⟨rfl, rfl⟩ fun _ hw => HpOk.pick (H := [_]) hw [] 1 rfl)

def f_law06_SealOpens (n : Nat) (T : List UInt32) (p0 : List KeyA) (p1 : List UInt8) : Option Bool :=
  (shownO).bind fun y1 =>
  (cutO p0).bind fun y2 =>
  (openO T y2 p1).bind fun y3 =>
  (cutO p0).bind fun y4 =>
  (f_ref06_Open n T y4 p1).bind fun y5 =>
  ret (((y1 && (decide (y3.1.page = y5.1.page) && (decide (y3.1.gen = y5.1.gen) && (decide (y3.1.boot = y5.1.boot) && (decide (y3.1.seq = y5.1.seq) && true))))) && (decide (y3.2.1 = y5.2.1))) && (decide (y3.2.2 = y5.2.2))) fun x1 =>
  some x1
set_option maxRecDepth 100000 in
theorem c_law06_SealOpens {n : Nat} {T : List UInt32} {v0_ : Value} {p0 : List KeyA} {p1 : List UInt8} {r : Bool} (h : f_law06_SealOpens n T p0 p1 = some r) (hS : ShaT K w0 T) (hT : TabN K w0 1 64 T) (hs0_ : SlOf K w0 encKey 2 v0_ p0) : Con Tryd.prog K w0 5 [v0_, vS p1] [] H (fun u M => u = vB r ∧ M = []) := by
  unfold f_law06_SealOpens at h
  refine Con.enter Tryd.func5 rfl rfl ?_
  refine SX.sr ?_
  refine SL.asg ⟨rfl, rfl, rfl, rfl⟩ rfl ?_
  refine SL.nx ?_
  refine SX.sr ?_
  obtain ⟨y1, hy1, h⟩ := bnd h
  refine SL.call (vs := []) (Hin := []) (Hr := _) ⟨rfl, rfl, rfl, rfl⟩ rfl trivial cal10 rfl rfl (w_shown hy1 hS) ?_
  rintro _ _ ⟨rfl, rfl⟩
  refine ⟨trivial, ?_⟩
  refine SL.asg ⟨rfl, rfl, rfl, rfl⟩ rfl ?_
  refine SL.nx ?_
  refine SX.sr ?_
  obtain ⟨y2, hy2, h⟩ := bnd h
  obtain ⟨y3, hy3, h⟩ := bnd h
  refine SL.mv ⟨rfl, rfl, rfl, rfl⟩ rfl ?_
  refine SL.call (vs := [_]) (Hin := []) (Hr := _) ⟨rfl, rfl, rfl, rfl⟩ rfl ⟨rfl, trivial⟩ cal17 rfl rfl (w_cut hy2 hs0_) ?_
  rintro v1 _ ⟨_, rfl, hs1, rfl⟩
  refine ⟨trivial, ?_⟩
  refine SL.mv ⟨rfl, rfl, rfl, rfl⟩ rfl ?_
  refine SL.call (vs := [_, _]) (Hin := []) (Hr := _) ⟨rfl, rfl, rfl, rfl⟩ rfl ⟨rfl, rfl, trivial⟩ cal19 rfl rfl (w_open hy3 hS hs1) ?_
  rintro _ _ ⟨rfl, rfl⟩
  refine ⟨trivial, ?_⟩
  refine SL.mv ⟨rfl, rfl, rfl, rfl⟩ rfl ?_
  refine SL.ext ⟨rfl, rfl, rfl, rfl⟩ rfl rfl ?_
  refine SL.ext ⟨rfl, rfl, rfl, rfl⟩ rfl rfl ?_
  refine SL.ext ⟨rfl, rfl, rfl, rfl⟩ rfl rfl ?_
  refine SL.alloc ⟨rfl, rfl, rfl, rfl⟩ ze25 (fun _ => trivial) fun b1 => ?_
  refine SL.st 0 ⟨rfl, rfl, rfl⟩ rfl rfl rfl sz25 rfl rfl rfl trivial ?_
  refine SL.asg ⟨rfl, rfl, rfl, rfl⟩ rfl ?_
  refine SL.asg ⟨rfl, rfl, rfl, rfl⟩ rfl ?_
  refine SL.nx ?_
  refine SX.sr ?_
  obtain ⟨y4, hy4, h⟩ := bnd h
  obtain ⟨y5, hy5, h⟩ := bnd h
  refine SL.mv ⟨rfl, rfl, rfl, rfl⟩ rfl ?_
  refine SL.call (vs := [_]) (Hin := []) (Hr := _ :: _) ⟨rfl, rfl, rfl, rfl⟩ rfl ⟨rfl, trivial⟩ cal17 rfl rfl (w_cut hy4 hs0_) ?_
  rintro v2 _ ⟨_, rfl, hs2, rfl⟩
  refine ⟨trivial, ?_⟩
  refine SL.mv ⟨rfl, rfl, rfl, rfl⟩ rfl ?_
  refine SL.call (vs := [_, _]) (Hin := []) (Hr := _ :: _) ⟨rfl, rfl, rfl, rfl⟩ rfl ⟨rfl, rfl, trivial⟩ cal20 rfl rfl (c_ref06_Open hy5 hT hs2) ?_
  rintro _ _ ⟨rfl, rfl⟩
  refine ⟨trivial, ?_⟩
  refine SL.mv ⟨rfl, rfl, rfl, rfl⟩ rfl ?_
  refine SL.ext ⟨rfl, rfl, rfl, rfl⟩ rfl rfl ?_
  refine SL.ext ⟨rfl, rfl, rfl, rfl⟩ rfl rfl ?_
  refine SL.ext ⟨rfl, rfl, rfl, rfl⟩ rfl rfl ?_
  refine SL.alloc ⟨rfl, rfl, rfl, rfl⟩ ze25 (fun _ => trivial) fun b2 => ?_
  refine SL.st 0 ⟨rfl, rfl, rfl⟩ rfl rfl rfl sz25 rfl rfl rfl trivial ?_
  refine SL.asg ⟨rfl, rfl, rfl, rfl⟩ rfl ?_
  refine SL.asg ⟨rfl, rfl, rfl, rfl⟩ rfl ?_
  refine SL.nx ?_
  refine SX.sr ?_
  obtain ⟨x1, ex1, h⟩ := retE h
  refine SL.mv ⟨rfl, rfl, rfl, rfl⟩ rfl ?_
  refine SL.mv ⟨rfl, rfl, rfl, rfl⟩ rfl ?_
  refine SL.and (c := decide (y3.1.page = y5.1.page) && (decide (y3.1.gen = y5.1.gen) && (decide (y3.1.boot = y5.1.boot) && (decide (y3.1.seq = y5.1.seq) && true)))) 30 4 34 rfl (fun hb k => ?_) (fun hb k => ?_) ?_
  · skip
    refine SL.ldA [vU32 y3.1.page, vU32 y3.1.gen, vU32 y3.1.boot, vU64 y3.1.seq] ⟨rfl, rfl, rfl, rfl⟩ ag25 rfl rfl (cells_all 1 rfl) ?_
    refine SL.ldA [vU32 y5.1.page, vU32 y5.1.gen, vU32 y5.1.boot, vU64 y5.1.seq] ⟨rfl, rfl, rfl, rfl⟩ ag25 rfl rfl (cells_all 0 rfl) ?_
    refine SL.eqAgg ⟨rfl, rfl, rfl, rfl⟩ fl25 rfl rfl (flatE_cons rfl rfl (eqV_32 (a := y3.1.page) (b := y5.1.page)) (flatE_cons rfl rfl (eqV_32 (a := y3.1.gen) (b := y5.1.gen)) (flatE_cons rfl rfl (eqV_32 (a := y3.1.boot) (b := y5.1.boot)) (flatE_cons rfl rfl (eqV_64 (a := y3.1.seq) (b := y5.1.seq)) flatE_nil)))) ?_
    refine SL.pk ⟨rfl, rfl, rfl, rfl⟩ rfl rfl ?_
    exact k.mono (by repeat' (first | exact trivial | refine And.intro rfl ?_))
  · skip
    refine SL.pass rfl rfl rfl ?_
    refine SL.pass rfl rfl rfl ?_
    refine SL.pass rfl rfl rfl ?_
    refine SL.pk ⟨rfl, rfl, rfl, rfl⟩ rfl rfl ?_
    exact k.mono (by repeat' (first | exact trivial | refine And.intro rfl ?_))
  refine SL.mv ⟨rfl, rfl, rfl, rfl⟩ rfl ?_
  refine SL.and (c := decide (y3.2.1 = y5.2.1)) 35 4 39 rfl (fun hb k => ?_) (fun hb k => ?_) ?_
  · skip
    refine SL.mv ⟨rfl, rfl, rfl, rfl⟩ rfl ?_
    refine SL.mv ⟨rfl, rfl, rfl, rfl⟩ rfl ?_
    refine SL.bin ⟨rfl, rfl, rfl, rfl⟩ rfl rfl Bin.eqS ?_
    refine SL.pk ⟨rfl, rfl, rfl, rfl⟩ rfl rfl ?_
    exact k.mono (by repeat' (first | exact trivial | refine And.intro rfl ?_))
  · skip
    refine SL.pass rfl rfl rfl ?_
    refine SL.pass rfl rfl rfl ?_
    refine SL.pass rfl rfl rfl ?_
    refine SL.pk ⟨rfl, rfl, rfl, rfl⟩ rfl rfl ?_
    exact k.mono (by repeat' (first | exact trivial | refine And.intro rfl ?_))
  refine SL.mv ⟨rfl, rfl, rfl, rfl⟩ rfl ?_
  refine SL.and (c := decide (y3.2.2 = y5.2.2)) 40 4 44 rfl (fun hb k => ?_) (fun hb k => ?_) ?_
  · skip
    refine SL.mv ⟨rfl, rfl, rfl, rfl⟩ rfl ?_
    refine SL.mv ⟨rfl, rfl, rfl, rfl⟩ rfl ?_
    refine SL.bin ⟨rfl, rfl, rfl, rfl⟩ rfl rfl Bin.eqI ?_
    refine SL.pk ⟨rfl, rfl, rfl, rfl⟩ rfl rfl ?_
    exact k.mono (by repeat' (first | exact trivial | refine And.intro rfl ?_))
  · skip
    refine SL.pass rfl rfl rfl ?_
    refine SL.pass rfl rfl rfl ?_
    refine SL.pass rfl rfl rfl ?_
    refine SL.pk ⟨rfl, rfl, rfl, rfl⟩ rfl rfl ?_
    exact k.mono (by repeat' (first | exact trivial | refine And.intro rfl ?_))
  refine SL.asgX (u := vB x1) ⟨rfl, rfl, rfl, rfl⟩ rfl (by rw [ex1]) ?_
  refine SL.nx ?_
  refine SX.ret ?_
  obtain rfl := Option.some.inj h
  exact SQ.fret (res1 rfl rfl) (ret_of (M := []) ⟨rfl, rfl⟩ fun _ hw => HpOk.pick (H := [_, _]) hw [] 2 rfl)


end Go.Proofs.YtnpnmdbleopikaaDoor

/- The references of sealing and opening answer as the plain ones; so the laws SealHeads, SealSeals, SealOpens are true. No program in sight. No condition beyond the laws' own. -/
namespace Go.Proofs.YtnpnmdbleopikaaDoor
open Go

theorem bound06 (T : List UInt32) (k : KeyA) (h : HeadA) (body : List UInt8) (hT : T.length = 64) (hr : rightA [k] = true) (hb : body.length = 200) {n : Nat} (hm : 2097152 < n) : f_ref06_Bound n T k h body = some (boundA T k h body) := by
  unfold f_ref06_Bound
  rw [subs04 T k hT hr hm, some_bind, nonce06 h (by omega), some_bind, xor01 _ _ _ (subA_length T k sealW) (nonceA_length h) (by omega) (by omega) (by omega), some_bind, Put06 h (by omega), some_bind, catS_eq (by rw [putA_length, xorA_length]; omega), some_bind]
  rfl
theorem seal06 (T : List UInt32) (l : List KeyA) (h : HeadA) (s : List UInt8) (hT : T.length = 64) (hl : l.length ≤ 1048576) {n : Nat} (hm : 2097152 < n) : f_ref06_Seal n T l h s = some (sealA T l h s) := by
  unfold f_ref06_Seal
  rw [find04 l h.gen hl (by omega), some_bind]
  unfold sealA
  by_cases hf : (findA l h.gen).2 = 0
  · obtain ⟨_, _, _, hr⟩ := find_ok hf
    rw [show (!decide ((findA l h.gen).2 = 0)) = false by simp [hf], if_neg (by simp [hf])]
    simp only [cond_false]
    rw [pad05 s (by omega), some_bind]
    by_cases h1 : 198 < s.length
    · rw [if_pos h1, show padR s = ([], 50) by unfold padR; rw [if_pos h1]]
      rfl
    · rw [if_neg h1, show padR s = (padA s, 0) by unfold padR; rw [if_neg h1]]
      have hp := padA_length (s := s) (by omega)
      rw [show (!decide (((padA s, (0 : Int)) : List UInt8 × Int).2 = 0)) = false from rfl]
      simp only [cond_false]
      have hbl := boundA_length T (findA l h.gen).1 h hp
      rw [bound06 T _ h _ hT hr hp hm, some_bind, subs04 T _ hT hr hm, some_bind]
      dsimp only
      rw [mac03 T _ _ hT (by rw [subA_length]; omega) (by rw [hbl]; omega) hm, some_bind, catS_eq (by rw [hbl, macA_length]; omega), some_bind]
      unfold blkA
      exact Eq.refl _
  · rw [show (!decide ((findA l h.gen).2 = 0)) = true by simp [hf], if_pos hf]
    simp only [cond_true]
theorem pad_unpad {b : List UInt8} (h : (unpadA b).2 = 0) : padA (unpadA b).1 = b ∧ (unpadA b).1.length ≤ 198 := by
  unfold unpadA at h ⊢
  split at h
  · simp at h
  · rename_i h1
    rw [if_neg h1]
    split at h
    · simp at h
    · rename_i h2
      rw [if_neg h2]
      split at h
      · rename_i h3
        rw [if_pos h3]
        have hbl : b.length = 200 := by simpa using h1
        have hl : ((b.drop 2).take (lenA b)).length = lenA b := by simp; omega
        refine ⟨?_, by dsimp only; omega⟩
        dsimp only
        unfold padA
        rw [hl]
        obtain ⟨x, y, r, rfl⟩ : ∃ x y r, b = x :: y :: r := by
          cases b with
          | nil => simp at hbl
          | cons x t => cases t with
            | nil => simp at hbl
            | cons y r => exact ⟨x, y, r, rfl⟩
        · skip
          have hx := x.toNat_lt
          have hy := y.toNat_lt
          have hL : lenA (x :: y :: r) = x.toNat * 256 + y.toNat := by unfold lenA; rw [List.getD_cons_zero, List.getD_cons_succ, List.getD_cons_zero]
          have hr : r.length = 198 := by simpa using hbl
          have e0 : toU8 (((lenA (x :: y :: r) : Nat) : Int) / 256) = x := by
            apply UInt8.toNat_inj.1
            simp only [toU8, UInt8.toNat_ofNat', hL]
            omega
          have e1 : toU8 ((lenA (x :: y :: r) : Nat) : Int) = y := by
            apply UInt8.toNat_inj.1
            simp only [toU8, UInt8.toNat_ofNat', hL]
            omega
          rw [e0, e1]
          have hz : ∀ j, j < 198 - lenA (x :: y :: r) → r.getD (lenA (x :: y :: r) + j) 0 = 0 := fun j hj => by
            have := h3 j hj
            rwa [show 2 + lenA (x :: y :: r) + j = (lenA (x :: y :: r) + j) + 1 + 1 by omega, List.getD_cons_succ, List.getD_cons_succ] at this
          generalize lenA (x :: y :: r) = m at hz h2
          have he : r.drop m = List.replicate (198 - m) 0 := by
            refine List.ext_getElem (by simp; omega) fun j h4 h5 => ?_
            have := hz j (by simpa using h5)
            rw [List.getD_eq_getElem?_getD, List.getElem?_eq_getElem (by simp at h5; omega)] at this
            simpa using this
          show x :: y :: (r.take m ++ List.replicate (198 - m) 0) = _
          rw [← he, List.take_append_drop]
      · simp at h
theorem open06 (T : List UInt32) (l : List KeyA) (b : List UInt8) (hT : T.length = 64) (hl : l.length ≤ 1048576) {n : Nat} (hm : 2097152 < n) : f_ref06_Open n T l b = some (openA T l b) := by
  unfold f_ref06_Open openA
  rw [right04 l hl (by omega), some_bind]
  cases hr : rightA l with
  | false =>
    rw [if_pos rfl]
    simp only [Bool.not_false, cond_true]
    rfl
  | true =>
    rw [if_neg (by simp)]
    simp only [Bool.not_true, cond_false]
    by_cases h2 : b.length = 256
    · rw [show (!decide ((b.length : Int) = 256)) = false by simp; omega, if_neg (by simpa using h2)]
      simp only [cond_false]
      rw [show slcI b 0 24 = some (b.take 24) by rw [show slcI b 0 24 = some ((b.drop 0).take (24 - 0)) from slcI_of (p := 0) (q := 24) rfl rfl (by omega) (by omega)]; rfl, some_bind, Get06 _ (by omega), some_bind]
      generalize hg : getA (b.take 24) = g
      obtain ⟨hd, ok⟩ := g
      cases ok with
      | false =>
        rw [if_pos rfl]
        rfl
      | true =>
        rw [if_neg (by simp)]
        simp only [Bool.not_true, cond_false]
        rw [find04 l hd.gen hl (by omega), some_bind]
        by_cases hf : (findA l hd.gen).2 = 0
        · obtain ⟨_, _, hgen, hrk⟩ := find_ok hf
          rw [show (!decide ((findA l hd.gen).2 = 0)) = false by simp [hf], if_neg (by simp [hf])]
          simp only [cond_false]
          generalize hk : (findA l hd.gen).1 = k at hrk hgen
          rw [subs04 T k hT hrk hm, some_bind, show slcI b 0 224 = some (b.take 224) by rw [show slcI b 0 224 = some ((b.drop 0).take (224 - 0)) from slcI_of (p := 0) (q := 224) rfl rfl (by omega) (by omega)]; rfl, some_bind]
          dsimp only
          rw [mac03 T _ _ hT (by rw [subA_length]; omega) (by simp; omega) hm, some_bind, show slcI b 224 (b.length : Int) = some (b.drop 224) by rw [show slcI b 224 (b.length : Int) = some ((b.drop 224).take (256 - 224)) from slcI_of (p := 224) (q := 256) rfl (by omega) (by omega) (by omega), List.take_of_length_le (by simp; omega)], some_bind]
          by_cases hmac : macA T (subA T k bindW) (b.take 224) = b.drop 224
          · rw [show (!decide (macA T (subA T k bindW) (b.take 224) = b.drop 224)) = false by simp only [hmac, decide_true, Bool.not_true], if_neg (fun hne => hne hmac)]
            simp only [cond_false]
            have hbody : ((b.drop 24).take 200).length = 200 := by simp; omega
            rw [nonce06 hd (by omega), some_bind, show slcI b 24 224 = some ((b.drop 24).take 200) from slcI_of (p := 24) (q := 224) rfl rfl (by omega) (by omega), some_bind, xor01 _ _ _ (subA_length T k sealW) (nonceA_length hd) (by omega) (by omega) (by omega), some_bind]
            dsimp only
            rw [unpad05 _ (by omega), some_bind]
            generalize hu : unpadA (xorA (subA T k sealW) (nonceA hd) ((b.drop 24).take 200)) = u
            by_cases h0 : u.2 = 0
            · rw [show (!decide (u.2 = 0)) = false by simp [h0]]
              simp only [cond_false]
              rw [if_neg]
              have hpu := pad_unpad (b := xorA (subA T k sealW) (nonceA hd) ((b.drop 24).take 200)) (by rw [hu]; exact h0)
              rw [hu] at hpu
              have hputs : putA hd = b.take 24 := by
                unfold getA at hg
                split at hg
                · rename_i hh
                  obtain ⟨rfl, _⟩ := Prod.mk.inj hg
                  exact hh.2
                · simp at hg
              have hbd : boundA T k hd (padA u.1) = b.take 224 := by
                unfold boundA
                rw [hpu.1, xorA_xorA, hputs, show b.take 224 = b.take (24 + 200) from rfl, List.take_add]
              have hse : sealA T l hd u.1 = (b, 0) := by
                unfold sealA
                rw [if_neg (by simp [hf]), if_neg (by omega), hk]
                unfold blkA
                rw [hbd, hmac, List.take_append_drop]
              rw [hse]
              simp [h0]
            · rw [show (!decide (u.2 = 0)) = true by simp [h0], if_pos (Or.inl h0)]
              rfl
          · rw [show (!decide (macA T (subA T k bindW) (b.take 224) = b.drop 224)) = true by simp only [hmac, decide_false, Bool.not_false], if_pos hmac]
            rfl
        · rw [show (!decide ((findA l hd.gen).2 = 0)) = true by simp [hf], if_pos hf]
          rfl
    · rw [show (!decide ((b.length : Int) = 256)) = true by simp; omega, if_pos (by simpa using h2)]
      rfl
theorem headA_eqs (x y : HeadA) : (decide (x.page = y.page) && (decide (x.gen = y.gen) && (decide (x.boot = y.boot) && (decide (x.seq = y.seq) && true)))) = decide (x = y) := by
  obtain ⟨a, b, c, d⟩ := x
  obtain ⟨a', b', c', d'⟩ := y
  rw [Bool.eq_iff_iff]
  simp
theorem p_SealSeals (T : List UInt32) (l : List KeyA) (h : HeadA) (s : List UInt8) (hT : T.length = 64) (hl : l.length ≤ 9223372036854775807) (hs : s.length ≤ 9223372036854775807) : f_law06_SealSeals 2097153 T l h s = some true := by
  have hc : (l.take (min l.length 30)).length ≤ 30 := by simp; omega
  unfold f_law06_SealSeals
  rw [show shownO = some true from rfl, some_bind, show cutO l = some (l.take (min l.length 30)) from if_pos hl, some_bind, show sealO T (l.take (min l.length 30)) h s = some (sealA T (l.take (min l.length 30)) h s) from if_pos ⟨by omega, by omega⟩, some_bind, some_bind, seal06 T _ h s hT (by omega) (by omega), some_bind, ret_eq]
  simp
theorem p_SealOpens (T : List UInt32) (l : List KeyA) (b : List UInt8) (hT : T.length = 64) (hl : l.length ≤ 9223372036854775807) (hb : b.length ≤ 9223372036854775807) : f_law06_SealOpens 2097153 T l b = some true := by
  have hc : (l.take (min l.length 30)).length ≤ 30 := by simp; omega
  unfold f_law06_SealOpens
  rw [show shownO = some true from rfl, some_bind, show cutO l = some (l.take (min l.length 30)) from if_pos hl, some_bind, show openO T (l.take (min l.length 30)) b = some (openA T (l.take (min l.length 30)) b) from if_pos ⟨by omega, by omega⟩, some_bind, some_bind, open06 T _ b hT (by omega) (by omega), some_bind, ret_eq]
  simp
theorem p_SealHeads (h : HeadA) (s : List UInt8) (hs : s.length ≤ 9223372036854775807) : f_law06_SealHeads 9 h s = some true := by
  unfold f_law06_SealHeads
  rw [show shownO = some true from rfl, some_bind, show getO s = some (getA s) from rfl, some_bind, Get06 s (by omega), some_bind, show putO h = some (putA h) from rfl]
  rw [show andO true ((some (putA h)).bind fun y4 => (f_ref06_Put 9 h).bind fun y5 => some (decide (y4 = y5))) = some true by
    rw [some_bind, Put06 h (by omega), some_bind]
    simp [andO], some_bind]
  rw [headA_eqs, show tagO s = some (s.drop (s.length - 32)) from if_pos (by omega)]
  rw [show slcI s (max 0 (wI ((s.length : Int) - 32))) (s.length : Int) = some (s.drop (s.length - 32)) by
    rw [wI_eq (by omega) (by omega), slcI_of (p := s.length - 32) (q := s.length) (by omega) rfl (by omega) (Nat.le_refl _), List.take_of_length_le (by simp)]]
  simp [andO]
end Go.Proofs.YtnpnmdbleopikaaDoor
