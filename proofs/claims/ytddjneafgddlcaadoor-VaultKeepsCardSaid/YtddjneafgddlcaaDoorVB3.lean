/- The texts E0, E1, G0, G1, G2, H0, H1, I0, I1, R1, R2, X0, V0, one behind the other: each bears its own sentence. Conditions: as each says. -/
import Derived.Test.YtddjneafgddlcaaDoorVB1
import Derived.Test.YtddjneafgddlcaaDoorVB2

/- Walks of HMAC and of what a key expands to (thirty-two bytes). Condition: texts of at most 2^39 bytes. -/
namespace Go.Proofs.YtddjneafgddlcaaDoor
open Go
variable {K : Nat → Prop} {w0 : World} {H : List Chunk}

/-- the program's tables of the sum, kept -/
structure ShaT (K : Nat → Prop) (w0 : World) (T : List UInt32) : Prop where
  tab : Tab K w0 2 T
  len : T.length = 64
  first : Tab K w0 1 firstA.list
theorem ShaT.keeps {T : List UInt32} {K' : Nat → Prop} {w1 : World} (h : ShaT K w0 T) (hk : Keeps K w0 K' w1) : ShaT K' w1 T := ⟨h.tab.keeps hk, h.len, h.first.keeps hk⟩
theorem flatMap_encS (ls : List (List UInt8)) : ls.flatMap encS = ls.map vS := by
  induction ls with
  | nil => rfl
  | cons s r ih => rw [List.flatMap_cons, ih]; rfl
theorem getD_append0 (k : List UInt8) (n i : Nat) : (k ++ List.replicate n 0).getD i 0 = k.getD i 0 := by
  simp only [List.getD_eq_getElem?_getD]
  rcases Nat.lt_or_ge i k.length with h | h
  · rw [List.getElem?_append_left h]
  · rw [List.getElem?_append_right h, List.getElem?_eq_none h]
    rw [List.getElem?_replicate]
    split <;> rfl
/-- a sum of a row's texts -/
theorem c_sha_AddR (T : List UInt32) (v : Value) (ls : List (List UInt8)) (hT : ShaT K w0 T) (hn : ls.flatten.length ≤ 1099511627776) (hl : ls.length ≤ 1099511627776) : Con Tryd.prog K w0 80 [v] [rowC 9 1 v ls.length (ls.flatMap encS)] H (fun r M => r = vS (sumA T ls.flatten) ∧ M = [rowC 9 1 v ls.length (ls.flatMap encS)]) := by
  intro w hw
  have h1 := Con.lend (P := Tryd.prog) (K := K) (w0 := w0) (f := 80) (args := [v]) (H := H) (B := [rowC 9 1 v ls.length (ls.flatMap encS)]) (Hin := []) (post := fun r M => r = vS (sumA T ls.flatten) ∧ M = []) (fun K' w1 hk hB => c_sha_Add T v ls (hT.keeps hk).tab hT.len (hT.keeps hk).first (SlOf.lentR (fun _ => rfl) (hB _ (List.mem_cons_self ..))) hn hl) w hw
  refine h1.mono ?_
  rintro e w' ⟨r, M, rfl, ⟨M', rfl, hr, rfl⟩, hw'⟩
  exact ⟨r, _, rfl, ⟨hr, rfl⟩, hw'⟩
/-- a sum of a literal's texts -/
theorem c_sha_AddL (T : List UInt32) (b : Nat) (ls : List (List UInt8)) (hT : ShaT K w0 T) (hn : ls.flatten.length ≤ 1099511627776) (hl : ls.length ≤ 1099511627776) : Con Tryd.prog K w0 80 [.slice (some ⟨b, 0, none⟩) ls.length ls.length] [own b (.cells (arr vS ls) 9)] H (fun r M => r = vS (sumA T ls.flatten) ∧ M = [own b (.cells (arr vS ls) 9)]) := by
  intro w hw
  have h1 := Con.lend (P := Tryd.prog) (K := K) (w0 := w0) (f := 80) (args := [.slice (some ⟨b, 0, none⟩) ls.length ls.length]) (H := H) (B := [own b (.cells (arr vS ls) 9)]) (Hin := []) (post := fun r M => r = vS (sumA T ls.flatten) ∧ M = []) (fun K' w1 hk hB => c_sha_Add T _ ls (hT.keeps hk).tab hT.len (hT.keeps hk).first (SlOf.lent (enc := encS) (sz := 1) (fun _ => rfl) (Nat.le_refl _) (by rw [flatMap_encS, arr_toList]; exact List.take_of_length_le (by simp)) (hB _ (List.mem_cons_self ..))) hn hl) w hw
  refine h1.mono ?_
  rintro e w' ⟨r, M, rfl, ⟨M', rfl, hr, rfl⟩, hw'⟩
  exact ⟨r, _, rfl, ⟨hr, rfl⟩, hw'⟩
theorem c_mac_part (T : List UInt32) (key : List UInt8) (c : UInt8) (hT : ShaT K w0 T) (hn : key.length ≤ 549755813888) : Con Tryd.prog K w0 81 [vS key, vU8 c] [] H (fun r M => r = vS (partA T key c) ∧ M = []) := by
  refine Con.enter Tryd.func81 rfl rfl ?_
  refine SX.sr ?_
  refine SL.asg ⟨rfl, rfl, rfl, rfl⟩ rfl ?_
  refine SL.nx ?_
  refine SX.meet (α := Unit) (fun _ => True) (fun _ => [(0, vS (macKeyOf T key)), (1, vU8 c)]) (fun _ => H) ?_ (fun x hx => ?_)
  · skip
    refine SX.sr ?_
    refine SL.mv ⟨rfl, rfl, rfl, rfl⟩ rfl ?_
    refine SL.lenS ⟨rfl, rfl, rfl, rfl⟩ ty9 rfl ?_
    refine SL.bin ⟨rfl, rfl, rfl, rfl⟩ rfl rfl Bin.gtI ?_
    refine SL.nx ?_
    refine SX.cond rfl (fun hc1 => ?_) (fun hc1 => ?_)
    · skip
      refine SX.region ?_
      refine SL.mv ⟨rfl, rfl, rfl, rfl⟩ rfl ?_
      refine SL.call (vs := [_]) (Hin := []) ⟨rfl, rfl, rfl, rfl⟩ rfl ⟨rfl, trivial⟩ cal89 rfl rfl (c_sha_Sum T key hT.tab hT.len hT.first (by omega)) ?_
      rintro _ _ ⟨rfl, rfl⟩
      refine ⟨trivial, ?_⟩
      refine SL.asg ⟨rfl, rfl, rfl, rfl⟩ rfl ?_
      refine SL.nil ?_
      have hk : macKeyOf T key = sumA T key := by unfold macKeyOf; rw [if_pos (by simp at hc1; omega)]
      exact SQ.mid () trivial (by rw [hk]; exact ⟨rfl, rfl, trivial⟩)
    · skip
      refine SX.skip ?_
      have hk : macKeyOf T key = key := by unfold macKeyOf; rw [if_neg (by simp at hc1; omega)]
      exact SQ.mid () trivial (by rw [hk]; exact ⟨rfl, rfl, trivial⟩)
  -- live: (0, _), (1, TODOp1), (4, _)
  · skip
    have hkl := macKeyOf_length T key
    refine SX.sr ?_
    refine SL.mv ⟨rfl, rfl, rfl, rfl⟩ rfl ?_
    refine SL.mv ⟨rfl, rfl, rfl, rfl⟩ rfl ?_
    refine SL.lenS ⟨rfl, rfl, rfl, rfl⟩ ty9 rfl ?_
    refine SL.bin ⟨rfl, rfl, rfl, rfl⟩ rfl rfl (Bin.subI (by omega) (by omega)) ?_
    refine SL.call (vs := [_, _]) (Hin := []) ⟨rfl, rfl, rfl, rfl⟩ rfl ⟨rfl, rfl, trivial⟩ cal26 (by rw [show (64 - (((macKeyOf T key).length : Nat) : Int)) = ((64 - (macKeyOf T key).length : Nat) : Int) by omega]; rfl) rfl (c_Repeat0 (64 - (macKeyOf T key).length) (by omega)) ?_
    rintro _ _ ⟨rfl, rfl⟩
    refine ⟨trivial, ?_⟩
    refine SL.bin ⟨rfl, rfl, rfl, rfl⟩ rfl rfl (Bin.cat (by simp; omega)) ?_
    refine SL.asg ⟨rfl, rfl, rfl, rfl⟩ rfl ?_
    refine SL.nx ?_
    refine SX.sr ?_
    refine SL.alloc ⟨rfl, rfl, rfl, rfl⟩ ze95 (fun _ => trivial) fun b0 => ?_
    refine SL.nx ?_
    refine SX.seq ?_
    refine SX.sr ?_
    refine SL.mv ⟨rfl, rfl, rfl, rfl⟩ rfl ?_
    refine SL.nx ?_
    refine SX.block ?_
    refine SX.nilRow 5 1 ?_
    refine SX.pick [1, 0] 2 ?_
    refine SX.mono (SX.loop (α := Nat × Value × Value) (fun x => x.1 ≤ 64 ∧ adr b0 x.2.1) (fun x => [(0, vS (macKeyOf T key ++ List.replicate (64 - (macKeyOf T key).length) 0)), (1, vU8 c), (5, vP b0 0), (18, vI x.1)]) (fun x => own b0 (.cells #[x.2.1, x.2.2] 95) :: rowC 5 1 x.2.2 x.1 (((partA T key c).take x.1).map fun b => vU8 b) :: H) (fun x => 64 - x.1) (fun x D hp => ?_) (0, .pointer none, .slice none 0 0) ⟨by decide, .inl rfl⟩) (by repeat' (first | exact trivial | refine And.intro rfl ?_))
    obtain ⟨i, p, v⟩ := x
    obtain ⟨hp, hadr⟩ := hp
    simp only at hp hadr
    refine SX.sr ?_
    refine SL.bin ⟨rfl, rfl, rfl, rfl⟩ rfl rfl Bin.ltI ?_
    refine SL.nx ?_
    refine SX.seq ?_
    refine SX.cond rfl (fun hc2 => ?_) (fun hc2 => ?_)
    · skip
      have hi : i < 64 := by simp at hc2; omega
      refine SX.skip ?_
      refine SQ.thn ?_
      refine SX.seq ?_
      refine SX.block ?_
      refine SX.sr ?_
      refine SL.mv ⟨rfl, rfl, rfl, rfl⟩ rfl ?_
      refine SL.asg ⟨rfl, rfl, rfl, rfl⟩ rfl ?_
      refine SL.nx ?_
      refine SX.region ?_
      refine SL.mv ⟨rfl, rfl, rfl, rfl⟩ rfl ?_
      refine SL.mv ⟨rfl, rfl, rfl, rfl⟩ rfl ?_
      refine SL.ixS i ⟨rfl, rfl, rfl, rfl⟩ ty9 rfl rfl (by omega) (by simp; omega) ?_
      refine SL.mv ⟨rfl, rfl, rfl, rfl⟩ rfl ?_
      refine SL.bin ⟨rfl, rfl, rfl, rfl⟩ rfl rfl Bin.xor8 ?_
      refine SL.call (vs := [_, _]) (Hin := [_, _]) ⟨rfl, rfl, rfl, rfl⟩ rfl ⟨rfl, rfl, trivial⟩ cal78 rfl rfl (c_WriteByte 95 b0 p v i _ _ hadr li95 (by omega)) ?_
      rintro _ _ ⟨rfl, v', rfl⟩
      refine ⟨trivial, ?_⟩
      refine SL.nil ?_
      refine SQ.blk ?_
      refine SQ.thn ?_
      refine SX.region ?_
      refine SL.bin ⟨rfl, rfl, rfl, rfl⟩ rfl rfl (Bin.addI (by omega) (by omega)) ?_
      refine SL.mv ⟨rfl, rfl, rfl, rfl⟩ rfl ?_
      refine SL.nil ?_
      refine SQ.again (i + 1, vP b0 0, v') ⟨by simp only; omega, .inr rfl⟩ (by simp only; omega) (by repeat' (first | exact trivial | refine And.intro rfl ?_)) (fun w hw => by
        have e1 : (partA T key c).take (i + 1) = (partA T key c).take i ++ [(macKeyOf T key ++ List.replicate (64 - (macKeyOf T key).length) 0).getD i 0 ^^^ c] := by
          rw [List.take_add_one, getD_append0]
          simp [partA, hi]
        simp only
        rw [e1, List.map_append]
        exact hw)
    · skip
      have hi : i = 64 := by simp at hc2; omega
      subst hi
      have ht : (partA T key c).take 64 = partA T key c := List.take_of_length_le (by rw [partA_length]; omega)
      rw [ht]
      refine SX.exit ?_
      refine SQ.thnE ?_
      refine SQ.lpE ?_
      refine SQ.blkE ?_
      refine SQ.thn ?_
      refine SX.sr ?_
      refine SL.call (vs := [_]) (Hin := [_, _]) ⟨rfl, rfl, rfl, rfl⟩ rfl ⟨rfl, trivial⟩ cal44 rfl rfl (c_String 95 b0 p v 64 (partA T key c) (by omega)) ?_
      rintro _ _ ⟨rfl, rfl⟩
      refine ⟨trivial, ?_⟩
      refine SL.asg ⟨rfl, rfl, rfl, rfl⟩ rfl ?_
      refine SL.nx ?_
      refine SX.ret ?_
      exact SQ.fret (res1 rfl rfl) (ret_of (M := []) ⟨rfl, rfl⟩ fun _ h => h.skip [_, _])

theorem c_mac_Mac (T : List UInt32) (key : List UInt8) (ls : List (List UInt8)) (bs : Nat) (hT : ShaT K w0 T) (hn : key.length ≤ 549755813888) (hls : ls.flatten.length ≤ 549755813888) (hl : ls.length ≤ 549755813888) : Con Tryd.prog K w0 68 [vS key, .slice (some ⟨bs, 0, none⟩) ls.length ls.length] [own bs (.cells (arr vS ls) 9)] H (fun r M => r = vS (macA T key ls.flatten) ∧ M = []) := by
  refine Con.enter Tryd.func68 rfl rfl ?_
  refine SX.sr ?_
  refine SL.asg ⟨rfl, rfl, rfl, rfl⟩ rfl ?_
  refine SL.nx ?_
  refine SX.sr ?_
  refine SL.mv ⟨rfl, rfl, rfl, rfl⟩ rfl ?_
  refine SL.call (vs := [_, _]) (Hin := []) ⟨rfl, rfl, rfl, rfl⟩ rfl ⟨rfl, rfl, trivial⟩ cal81 rfl rfl (c_mac_part T key 54 hT hn) ?_
  rintro _ _ ⟨rfl, rfl⟩
  refine ⟨trivial, ?_⟩
  refine SL.bsl [_] ⟨rfl, rfl, rfl, rfl⟩ ty49 sz9 ze9 ⟨rfl, trivial⟩ rfl rfl rfl (by simp [Value.cells]) rfl rfl (fun _ => trivial) fun b0 => ?_
  refine SL.mv ⟨rfl, rfl, rfl, rfl⟩ rfl ?_
  refine SL.heap (H' := rowC 9 1 (.slice (some ⟨b0, 0, none⟩) 1 1) 1 [vS (partA T key 54)] :: own bs (.cells (arr vS ls) 9) :: H) ?_ (fun w hw => HpOk.asRowF hw rfl (Nat.le_refl 1) (by decide))
  refine SL.app 0 ⟨rfl, rfl, rfl, rfl⟩ (m := ls.length) (news := ls.map vS) ty49 sz9 by9 ze9 rfl (by decide) rfl rfl rfl (by simp) (cells_all 1 rfl) (by intro u hu; obtain ⟨x, _, rfl⟩ := List.mem_map.1 hu; rfl) (by omega) (by omega) (fun _ => trivial) fun v' => ?_
  have e1 : rowC 9 1 v' (1 + ls.length) ([vS (partA T key 54)] ++ ls.map vS) = rowC 9 1 v' (partA T key 54 :: ls).length ((partA T key 54 :: ls).flatMap encS) := by
    rw [flatMap_encS, List.length_cons, Nat.add_comm]; rfl
  rw [e1]
  refine SL.call (vs := [_]) (Hin := [_]) ⟨rfl, rfl, rfl, rfl⟩ rfl ⟨rfl, trivial⟩ cal80 rfl rfl (c_sha_AddR T v' (partA T key 54 :: ls) hT (by simp only [List.flatten_cons, List.length_append, partA_length]; omega) (by simp only [List.length_cons]; omega)) ?_
  rintro _ _ ⟨rfl, rfl⟩
  refine ⟨trivial, ?_⟩
  refine SL.asg ⟨rfl, rfl, rfl, rfl⟩ rfl ?_
  refine SL.nx ?_
  refine SX.sr ?_
  refine SL.mv ⟨rfl, rfl, rfl, rfl⟩ rfl ?_
  refine SL.call (vs := [_, _]) (Hin := []) ⟨rfl, rfl, rfl, rfl⟩ rfl ⟨rfl, rfl, trivial⟩ cal81 rfl rfl (c_mac_part T key 92 hT hn) ?_
  rintro _ _ ⟨rfl, rfl⟩
  refine ⟨trivial, ?_⟩
  refine SL.mv ⟨rfl, rfl, rfl, rfl⟩ rfl ?_
  refine SL.bsl [_, _] ⟨rfl, rfl, rfl, rfl⟩ ty49 sz9 ze9 ⟨rfl, rfl, trivial⟩ rfl rfl rfl (by simp [Value.cells]) rfl rfl (fun _ => trivial) fun b1 => ?_
  refine SL.call (vs := [_]) (Hin := [_]) ⟨rfl, rfl, rfl, rfl⟩ rfl ⟨rfl, trivial⟩ cal80 rfl rfl (c_sha_AddL T b1 [partA T key 92, sumA T (partA T key 54 :: ls).flatten] hT (by simp [partA_length, sumA_length]) (by simp)) ?_
  rintro _ _ ⟨rfl, rfl⟩
  refine ⟨trivial, ?_⟩
  refine SL.asg ⟨rfl, rfl, rfl, rfl⟩ rfl ?_
  refine SL.nx ?_
  refine SX.ret ?_
  exact SQ.fret (res1 rfl rfl) (ret_of (M := []) ⟨by simp [macA], rfl⟩ fun _ h => h.skip [_, _, _])

theorem c_mac_Equal (a b : List UInt8) (ha : a.length ≤ 549755813888) : Con Tryd.prog K w0 71 [vS a, vS b] [] H (fun r M => r = vB (decide (a = b)) ∧ M = []) := by
  refine Con.enter Tryd.func71 rfl rfl ?_
  refine SX.sr ?_
  refine SL.asg ⟨rfl, rfl, rfl, rfl⟩ rfl ?_
  refine SL.nx ?_
  refine SX.sr ?_
  refine SL.asg ⟨rfl, rfl, rfl, rfl⟩ rfl ?_
  refine SL.nx ?_
  refine SX.seq ?_
  refine SX.sr ?_
  refine SL.mv ⟨rfl, rfl, rfl, rfl⟩ rfl ?_
  refine SL.lenS ⟨rfl, rfl, rfl, rfl⟩ ty9 rfl ?_
  refine SL.mv ⟨rfl, rfl, rfl, rfl⟩ rfl ?_
  refine SL.lenS ⟨rfl, rfl, rfl, rfl⟩ ty9 rfl ?_
  refine SL.minI ⟨rfl, rfl, rfl, rfl⟩ rfl rfl ?_
  refine SL.mv ⟨rfl, rfl, rfl, rfl⟩ rfl ?_
  refine SL.nx ?_
  refine SX.block ?_
  refine SX.mono (SX.loop (α := Nat × UInt8) (fun x => x.1 ≤ min a.length b.length ∧ (x.2 = 0 ↔ ∀ j, j < x.1 → a.getD j 0 = b.getD j 0)) (fun x => [(0, vS a), (1, vS b), (5, vU8 x.2), (11, vI (min (a.length : Int) b.length)), (12, vI x.1)]) (fun x => H) (fun x => min a.length b.length - x.1) (fun x D hp => ?_) (0, 0) ⟨Nat.zero_le _, by simp⟩) (by repeat' (first | exact trivial | refine And.intro rfl ?_))
  obtain ⟨i, x⟩ := x
  obtain ⟨hi, hx⟩ := hp
  simp only at hi hx
  refine SX.sr ?_
  refine SL.bin ⟨rfl, rfl, rfl, rfl⟩ rfl rfl Bin.ltI ?_
  refine SL.nx ?_
  refine SX.seq ?_
  refine SX.cond rfl (fun hc1 => ?_) (fun hc1 => ?_)
  · skip
    have hlt : i < min a.length b.length := by simp at hc1; omega
    refine SX.skip ?_
    refine SQ.thn ?_
    refine SX.seq ?_
    refine SX.block ?_
    refine SX.sr ?_
    refine SL.mv ⟨rfl, rfl, rfl, rfl⟩ rfl ?_
    refine SL.asg ⟨rfl, rfl, rfl, rfl⟩ rfl ?_
    refine SL.nx ?_
    refine SX.drawI mix [] (Pl.of [(true, 0), (true, 1), (true, 2), (true, 3), (true, 4), (true, 5), (true, 6), (true, 7), (true, 8), (true, 9)]) (by kernel_rfl) ?_
    refine SL.mv ⟨rfl, rfl, rfl, rfl⟩ rfl ?_
    refine SL.mv ⟨rfl, rfl, rfl, rfl⟩ rfl ?_
    refine SL.mv ⟨rfl, rfl, rfl, rfl⟩ rfl ?_
    refine SL.ixS i ⟨rfl, rfl, rfl, rfl⟩ ty9 rfl rfl (by omega) (by omega) ?_
    refine SL.mv ⟨rfl, rfl, rfl, rfl⟩ rfl ?_
    refine SL.mv ⟨rfl, rfl, rfl, rfl⟩ rfl ?_
    refine SL.ixS i ⟨rfl, rfl, rfl, rfl⟩ ty9 rfl rfl (by omega) (by omega) ?_
    refine SL.bin ⟨rfl, rfl, rfl, rfl⟩ rfl rfl Bin.xor8 ?_
    refine SL.bin ⟨rfl, rfl, rfl, rfl⟩ rfl rfl Bin.or8 ?_
    refine SL.asg ⟨rfl, rfl, rfl, rfl⟩ rfl ?_
    refine SL.nil ?_
    refine SQ.blk ?_
    refine SQ.thn ?_
    refine SX.region ?_
    refine SL.bin ⟨rfl, rfl, rfl, rfl⟩ rfl rfl (Bin.addI (by omega) (by omega)) ?_
    refine SL.mv ⟨rfl, rfl, rfl, rfl⟩ rfl ?_
    refine SL.nil ?_
    refine SQ.again (i + 1, x ||| (a.getD i 0 ^^^ b.getD i 0)) ⟨hlt, ?_⟩ (by simp only; omega) (by repeat' (first | exact trivial | refine And.intro rfl ?_))
    simp only
    rw [or_zero8, xor_zero8, hx]
    constructor
    · rintro ⟨h1, h2⟩ j hj
      rcases Nat.lt_or_ge j i with h | h
      · exact h1 j h
      · obtain rfl : j = i := by omega
        exact h2
    · intro h
      exact ⟨fun j hj => h j (by omega), h i (by omega)⟩
  · skip
    have hie : i = min a.length b.length := by simp at hc1; omega
    refine SX.exit ?_
    refine SQ.thnE ?_
    refine SQ.lpE ?_
    refine SQ.blkE ?_
    refine SQ.thn ?_
    refine SX.sr ?_
    refine SL.mv ⟨rfl, rfl, rfl, rfl⟩ rfl ?_
    refine SL.bin ⟨rfl, rfl, rfl, rfl⟩ rfl rfl (Bin.eq8 (b := 0)) ?_
    refine SL.mv ⟨rfl, rfl, rfl, rfl⟩ rfl ?_
    refine SL.and (c := decide ((a.length : Int) = b.length)) 27 6 33 rfl (fun hb k => ?_) (fun hb k => ?_) ?_
    · skip
      refine SL.mv ⟨rfl, rfl, rfl, rfl⟩ rfl ?_
      refine SL.lenS ⟨rfl, rfl, rfl, rfl⟩ ty9 rfl ?_
      refine SL.mv ⟨rfl, rfl, rfl, rfl⟩ rfl ?_
      refine SL.lenS ⟨rfl, rfl, rfl, rfl⟩ ty9 rfl ?_
      refine SL.bin ⟨rfl, rfl, rfl, rfl⟩ rfl rfl Bin.eqI ?_
      refine SL.pk ⟨rfl, rfl, rfl, rfl⟩ rfl rfl ?_
      exact k.mono (by repeat' (first | exact trivial | refine And.intro rfl ?_))
    · skip
      refine SL.pass rfl rfl rfl ?_
      refine SL.pass rfl rfl rfl ?_
      refine SL.pass rfl rfl rfl ?_
      refine SL.pass rfl rfl rfl ?_
      refine SL.pass rfl rfl rfl ?_
      refine SL.pk ⟨rfl, rfl, rfl, rfl⟩ rfl rfl ?_
      exact k.mono (by repeat' (first | exact trivial | refine And.intro rfl ?_))
    refine SL.asg ⟨rfl, rfl, rfl, rfl⟩ rfl ?_
    refine SL.nx ?_
    refine SX.ret ?_
    refine SQ.fret (res1 rfl rfl) (ret_of (M := []) ⟨?_, rfl⟩ fun _ h => h.skip [])
    congr 1
    rw [Bool.eq_iff_iff, Bool.and_eq_true, decide_eq_true_eq, decide_eq_true_eq, decide_eq_true_eq, hx]
    constructor
    · rintro ⟨h1, h2⟩
      have hl : a.length = b.length := by omega
      refine List.ext_getElem hl fun j hj hj' => ?_
      have := h1 j (by omega)
      simpa [List.getD_eq_getElem?_getD, hj, hj'] using this
    · rintro rfl
      exact ⟨fun _ _ => rfl, rfl⟩

theorem q_mac_expanded (T : List UInt32) (key label : List UInt8) (bk bl : Nat) (hT : ShaT K w0 T) (hn : key.length ≤ 549755813888) (hl : label.length ≤ 274877906944) : Seq Tryd.prog K w0 91 [vP bk 0, vP bl 0] [own bl (.cells #[vS label] 9), own bk (.cells #[vS key] 9)] encS (expA T key label) := by
  intro lp J X T1 hy G h0
  refine Con.enter Tryd.func91 rfl rfl ?_
  refine SX.sr ?_
  refine SL.asg ⟨rfl, rfl, rfl, rfl⟩ rfl ?_
  refine SL.nx ?_
  refine SX.sr ?_
  refine SL.asg ⟨rfl, rfl, rfl, rfl⟩ rfl ?_
  refine SL.nx ?_
  refine SX.block ?_
  refine SX.mono (SX.loop (α := Nat × List Chunk) (fun x => x.1 ≤ 255 ∧ J ((expA T key label).take x.1) x.2) (fun x => [(0, vY lp), (1, vP bk 0), (2, vP bl 0), (4, vS (expN T key label x.1)), (5, vI (x.1 + 1 : Nat))]) (fun x => own bl (.cells #[vS label] 9) :: own bk (.cells #[vS key] 9) :: (x.2 ++ T1)) (fun x => 255 - x.1) (fun x D hp => ?_) (0, G) ⟨by simp, h0⟩) (by repeat' (first | exact trivial | refine And.intro rfl ?_))
  obtain ⟨i, G⟩ := x
  obtain ⟨hi, hJ⟩ := hp
  simp only at hi hJ
  refine SX.seq ?_
  refine SX.sr ?_
  refine SL.mv ⟨rfl, rfl, rfl, rfl⟩ rfl ?_
  refine SL.bin ⟨rfl, rfl, rfl, rfl⟩ rfl rfl Bin.leI ?_
  refine SL.nx ?_
  refine SX.cond rfl (fun hc1 => ?_) (fun hc1 => ?_)
  · skip
    have hlt : i < 255 := by simp at hc1; omega
    have hg := expA_get T key label i hlt
    have hel := expN_length T key label i
    refine SX.skip ?_
    refine SQ.thn ?_
    refine SX.seq ?_
    refine SX.block ?_
    refine SX.sr ?_
    refine SL.ld ⟨rfl, rfl, rfl, rfl⟩ sc9 rfl (cell_own 1 rfl rfl) ?_
    refine SL.mv ⟨rfl, rfl, rfl, rfl⟩ rfl ?_
    refine SL.ld ⟨rfl, rfl, rfl, rfl⟩ sc9 rfl (cell_own 0 rfl rfl) ?_
    refine SL.mv ⟨rfl, rfl, rfl, rfl⟩ rfl ?_
    refine SL.cv ⟨rfl, rfl, rfl, rfl⟩ rfl (Cv.i_8 ty3 ty5) ?_
    refine SL.bsl [_] ⟨rfl, rfl, rfl, rfl⟩ ty51 sz5 ze5 ⟨rfl, trivial⟩ rfl rfl rfl (by simp [Value.cells]) rfl rfl (fun _ => trivial) fun b0 => ?_
    refine SL.bts [_] ⟨rfl, rfl, rfl, rfl⟩ ty51 ty5 ty9 rfl rfl (cells_all 0 rfl) ?_
    refine SL.bsl [_, _, _] ⟨rfl, rfl, rfl, rfl⟩ ty49 sz9 ze9 ⟨rfl, rfl, rfl, trivial⟩ rfl rfl rfl (by simp [Value.cells]) rfl rfl (fun _ => trivial) fun b1 => ?_
    refine SL.call (vs := [_, _]) (Hin := [_]) ⟨rfl, rfl, rfl, rfl⟩ rfl ⟨rfl, rfl, trivial⟩ cal68 rfl rfl (c_mac_Mac T key [expN T key label i, label, [toU8 ((i + 1 : Nat) : Int)]] _ hT hn (by simp; omega) (by simp)) ?_
    rintro _ _ ⟨rfl, rfl⟩
    refine ⟨trivial, ?_⟩
    refine SL.asg ⟨rfl, rfl, rfl, rfl⟩ rfl ?_
    refine SL.nx ?_
    refine SX.sr ?_
    refine SL.mv ⟨rfl, rfl, rfl, rfl⟩ rfl ?_
    refine SL.mv ⟨rfl, rfl, rfl, rfl⟩ rfl ?_
    have e1 : macA T key [expN T key label i, label, [toU8 ((i + 1 : Nat) : Int)]].flatten = expN T key label (i + 1) := by simp [expN]
    rw [e1]
    refine SL.yld (M2 := [_, _, _]) (G := G) (T := T1) (vs := [_]) (ok := fun G1 => J ((expA T key label).take (i + 1)) G1) (no := X) ⟨rfl, rfl, rfl, rfl⟩ rfl ⟨rfl, trivial⟩ rfl ?_ (fun bb G1 hG1 => ⟨trivial, ?_⟩)
    · intro M
      have := hy _ _ _ (take_split hg).1 G hJ M
      rw [← (take_split hg).2] at this
      exact this
    refine SL.not ⟨rfl, rfl, rfl, rfl⟩ rfl ?_
    refine SL.nx ?_
    refine SX.cond rfl (fun hc2 => ?_) (fun hc2 => ?_)
    · skip
      obtain rfl : bb = false := by simpa using hc2
      refine SX.ret ?_
      refine SQ.blkR ?_
      refine SQ.thnR ?_
      refine SQ.lpR ?_
      refine SQ.blkR ?_
      exact SQ.fret (res0 rfl) (ret_of (M := G1) (.inr hG1) fun _ h => h.skip [_, _, _])
    · skip
      obtain rfl : bb = true := by simpa using hc2
      refine SX.skip ?_
      refine SQ.blk ?_
      refine SQ.thn ?_
      refine SX.region ?_
      refine SL.mv ⟨rfl, rfl, rfl, rfl⟩ rfl ?_
      refine SL.bin ⟨rfl, rfl, rfl, rfl⟩ rfl rfl (Bin.addI (by omega) (by omega)) ?_
      refine SL.asg ⟨rfl, rfl, rfl, rfl⟩ rfl ?_
      refine SL.nil ?_
      exact SQ.again (i + 1, G1) ⟨hlt, hG1⟩ (by simp only; omega) (by repeat' (first | exact trivial | refine And.intro rfl ?_)) (fun w hw => hw.skip [_])
  · skip
    refine SX.exit ?_
    refine SQ.thnE ?_
    refine SQ.lpE ?_
    refine SQ.blkE ?_
    have hle : i = 255 := by simp at hc1; omega
    exact SQ.fend (res0 rfl) (ret_of (M := G) (.inl (by rw [List.take_of_length_le (by rw [expA_length]; omega)] at hJ; exact hJ)) fun _ h => h.skip [_, _])

theorem c_mac_expanded (key label : List UInt8) : Con Tryd.prog K w0 83 [vS key, vS label] [] H (fun r M => ∃ bk bl, r = .func (.func 91) #[] #[vP bk 0, vP bl 0] ∧ M = [own bl (.cells #[vS label] 9), own bk (.cells #[vS key] 9)]) := by
  refine Con.enter Tryd.func83 rfl rfl ?_
  refine SX.sr ?_
  refine SL.box ⟨rfl, rfl, rfl, rfl⟩ rfl (fun _ => trivial) fun b0 => ?_
  refine SL.box ⟨rfl, rfl, rfl, rfl⟩ rfl (fun _ => trivial) fun b1 => ?_
  refine SL.asg ⟨rfl, rfl, rfl, rfl⟩ rfl ?_
  refine SL.nx ?_
  refine SX.sr ?_
  refine SL.mkf (fv := #[]) (cv := #[_, _]) ⟨rfl, rfl, rfl, rfl⟩ rfl rfl ?_
  refine SL.asg ⟨rfl, rfl, rfl, rfl⟩ rfl ?_
  refine SL.nx ?_
  refine SX.ret ?_
  exact SQ.fret (res1 rfl rfl) (ret_of (M := [_, _]) ⟨b0, b1, rfl, rfl⟩ fun _ h => h)

theorem c_mac_Expand (T : List UInt32) (key label : List UInt8) (hT : ShaT K w0 T) (hn : key.length ≤ 549755813888) (hl : label.length ≤ 274877906944) : Con Tryd.prog K w0 76 [vS key, vS label, vI 32] [] H (fun r M => r = .tuple #[vS (exp32 T key label), vI 0] ∧ M = []) := by
  refine Con.enter Tryd.func76 rfl rfl ?_
  refine SX.sr ?_
  refine SL.box ⟨rfl, rfl, rfl, rfl⟩ rfl (fun _ => trivial) fun b0 => ?_
  refine SL.asg ⟨rfl, rfl, rfl, rfl⟩ rfl ?_
  refine SL.asg ⟨rfl, rfl, rfl, rfl⟩ rfl ?_
  refine SL.nx ?_
  refine SX.scope ?_
  refine SX.seq ?_
  refine SX.sr ?_
  refine SL.ld ⟨rfl, rfl, rfl, rfl⟩ sc3 rfl (cell_own 0 rfl rfl) ?_
  refine SL.bin ⟨rfl, rfl, rfl, rfl⟩ rfl rfl Bin.ltI ?_
  refine SL.mv ⟨rfl, rfl, rfl, rfl⟩ rfl ?_
  refine SL.or (c := decide ((8160 : Int) < 32)) 12 3 15 rfl (fun hb k => ?_) (fun hb k => ?_) ?_
  · skip
    refine SL.pass rfl rfl rfl ?_
    refine SL.pass rfl rfl rfl ?_
    refine SL.pk ⟨rfl, rfl, rfl, rfl⟩ rfl rfl ?_
    exact k.mono (by repeat' (first | exact trivial | refine And.intro rfl ?_))
  · skip
    refine SL.ld ⟨rfl, rfl, rfl, rfl⟩ sc3 rfl (cell_own 0 rfl rfl) ?_
    refine SL.bin ⟨rfl, rfl, rfl, rfl⟩ rfl rfl Bin.gtI ?_
    refine SL.pk ⟨rfl, rfl, rfl, rfl⟩ rfl rfl ?_
    exact k.mono (by repeat' (first | exact trivial | refine And.intro rfl ?_))
  refine SL.nx ?_
  refine SX.cond rfl (fun hc1 => absurd hc1 (by decide)) (fun hc1 => ?_)
  refine SX.skip ?_
  refine SQ.thn ?_
  refine SX.sr ?_
  refine SL.alloc ⟨rfl, rfl, rfl, rfl⟩ ze95 (fun _ => trivial) fun b1 => ?_
  refine SL.nx ?_
  refine SX.seq ?_
  refine SX.label ?_
  refine SQ.thn ?_
  refine SX.seq ?_
  refine SX.sr ?_
  refine SL.mv ⟨rfl, rfl, rfl, rfl⟩ rfl ?_
  refine SL.mv ⟨rfl, rfl, rfl, rfl⟩ rfl ?_
  refine SL.call (vs := [_, _]) (Hin := []) ⟨rfl, rfl, rfl, rfl⟩ rfl ⟨rfl, rfl, trivial⟩ cal83 rfl rfl (c_mac_expanded key label) ?_
  rintro _ _ ⟨bk, bl, rfl, rfl⟩
  refine ⟨trivial, ?_⟩
  refine SL.nx ?_
  refine SX.nilRow 5 1 ?_
  refine SX.pick [1, 2, 3, 0, 4] 5 ?_
  refine SX.block ?_
  refine SX.range (enc := encS) (expA T key label) (fun pre G => pre.length ≤ 1 ∧ ∃ p v, adr b1 p ∧ G = own b1 (.cells #[p, v] 95) :: rowC 5 1 v pre.flatten.length (pre.flatten.map fun b => vU8 b) :: own b0 (.cells #[vI 32] 3) :: H) (fun c G => c = .exit 0 ∧ ∃ p v, adr b1 p ∧ G = own b1 (.cells #[p, v] 95) :: rowC 5 1 v 32 ((exp32 T key label).map fun b => vU8 b) :: own b0 (.cells #[vI 32] 3) :: H) rfl cal91 rfl (fun _ => rfl) (q_mac_expanded T key label bk bl hT hn hl) rfl ⟨Nat.zero_le _, _, _, .inl rfl, rfl⟩ (fun pre x suf G hxs hJ r lp Rest => ?_) (fun G D hJ => ?_) (fun c G D hX => ?_)
  · obtain ⟨hpl, p, v, hadr, rfl⟩ := hJ
    have hx0 : (expA T key label)[0]? = some (exp32 T key label) := by rw [expA_get T key label 0 (by decide), expN_one]
    have he : (exp32 T key label).length = 32 := macA_length ..
    refine SX.region ?_
    refine SL.asg ⟨rfl, rfl, rfl, rfl⟩ rfl ?_
    refine SL.nil ?_
    refine SQ.bgn ?_
    refine SX.block ?_
    refine SX.seq ?_
    refine SX.seq ?_
    refine SX.drawI mix [2] (Pl.of [(true, 1), (false, 0), (true, 2)]) (by kernel_rfl) ?_
    refine SL.ld ⟨rfl, rfl, rfl, rfl⟩ sc3 rfl (cell_own 0 rfl rfl) ?_
    refine SL.call (vs := [_]) (Hin := [_, _]) ⟨rfl, rfl, rfl, rfl⟩ rfl ⟨rfl, trivial⟩ cal43 rfl rfl (c_Len 95 b1 p v _ _) ?_
    rintro _ _ ⟨rfl, rfl⟩
    refine ⟨⟨⟨2, rfl⟩, trivial⟩, ?_⟩
    refine SL.bin ⟨rfl, rfl, rfl, rfl⟩ rfl rfl Bin.geI ?_
    refine SL.nx ?_
    refine SX.cond rfl (fun hc2 => ?_) (fun hc2 => ?_)
    · skip
      have hpre : pre = [exp32 T key label] := by
        match pre, hpl with
        | [], _ => simp at hc2
        | [y], _ => rw [hxs] at hx0; simpa using hx0
      subst hpre
      refine SX.exit ?_
      refine SQ.thnE ?_
      refine SQ.blkO ?_
      refine SQ.rndE (G := own b1 (.cells #[p, v] 95) :: rowC 5 1 v 32 ((exp32 T key label).map fun b => vU8 b) :: own b0 (.cells #[vI 32] 3) :: H) ⟨rfl, p, v, hadr, rfl⟩ (fun w hw => ?_)
      have e1 : [exp32 T key label].flatten = exp32 T key label := by simp
      rw [e1, he] at hw
      exact hw
    · skip
      have hpre : pre = [] := by
        match pre, hpl with
        | [], _ => rfl
        | [y], _ =>
          rw [hxs] at hx0
          obtain rfl : y = exp32 T key label := by simpa using hx0
          simp [he] at hc2
      subst hpre
      obtain rfl : x = exp32 T key label := by rw [hxs] at hx0; simpa using hx0
      refine SX.skip ?_
      refine SQ.thn ?_
      refine SX.region ?_
      refine SL.mv ⟨rfl, rfl, rfl, rfl⟩ rfl ?_
      refine SL.call (vs := [_, _]) (Hin := [_, _]) ⟨rfl, rfl, rfl, rfl⟩ rfl ⟨rfl, rfl, trivial⟩ cal42 rfl rfl (c_WriteString 95 b1 p v _ _ (exp32 T key label) hadr li95 (by simp [he])) ?_
      rintro _ _ ⟨rfl, v', rfl⟩
      refine ⟨trivial, ?_⟩
      refine SL.nil ?_
      refine SQ.blk ?_
      refine SQ.rndN (G := own b1 (.cells #[vP b1 0, v'] 95) :: rowC 5 1 v' ([] ++ [exp32 T key label]).flatten.length (([] ++ [exp32 T key label]).flatten.map fun b => vU8 b) :: own b0 (.cells #[vI 32] 3) :: H) ⟨by simp, _, v', .inr rfl, rfl⟩ (fun w hw => ?_)
      have e1 : ([] ++ [exp32 T key label]).flatten = exp32 T key label := by simp
      rw [e1]
      simpa using hw
  · exact absurd hJ.1 (by rw [expA_length]; omega)
  · obtain ⟨rfl, p, v, hadr, rfl⟩ := hX
    have he : (exp32 T key label).length = 32 := macA_length ..
    refine SX.exit ?_
    refine SQ.blkE ?_
    refine SQ.thn ?_
    refine SX.seq ?_
    refine SX.drawI mix [2] (Pl.of [(true, 1), (false, 0), (true, 2), (true, 3), (true, 4)]) (by kernel_rfl) ?_
    refine SL.ld ⟨rfl, rfl, rfl, rfl⟩ sc3 rfl (cell_own 0 rfl rfl) ?_
    refine SL.call (vs := [_]) (Hin := [_, _]) ⟨rfl, rfl, rfl, rfl⟩ rfl ⟨rfl, trivial⟩ cal44 rfl rfl (c_String 95 b1 p v 32 (exp32 T key label) (by omega)) ?_
    rintro _ _ ⟨rfl, rfl⟩
    refine ⟨⟨⟨2, rfl⟩, trivial⟩, ?_⟩
    refine SL.slSh 32 ⟨rfl, rfl, rfl, rfl⟩ ty9 rfl rfl (by omega) (by omega) ?_
    refine SL.asg ⟨rfl, rfl, rfl, rfl⟩ rfl ?_
    refine SL.asg ⟨rfl, rfl, rfl, rfl⟩ rfl ?_
    refine SL.nx ?_
    refine SX.ret ?_
    refine SQ.scpR ?_
    exact SQ.fret (res2 rfl rfl rfl) (ret_of (M := []) ⟨by rw [List.take_of_length_le (by omega)], rfl⟩ fun _ h => h.skip [_, _, _])

end Go.Proofs.YtddjneafgddlcaaDoor

/- Walks of a key's subkeys, and of texts filled to one size and back. Condition: none but the sizes stated. -/
namespace Go.Proofs.YtddjneafgddlcaaDoor
open Go
variable {K : Nat → Prop} {w0 : World} {H : List Chunk}
theorem c_keys_Subs (T : List UInt32) (k : KeyA) (hT : ShaT K w0 T) : Con Tryd.prog K w0 64 [.agg (encKey k).toArray] [] H (fun r M => r = (if rightA [k] = true then .tuple #[vS (subA T k sealW), vS (subA T k bindW), vI 0] else .tuple #[vS [], vS [], vI 40]) ∧ M = []) := by
  refine Con.enter Tryd.func64 rfl rfl ?_
  refine SX.sr ?_
  refine SL.box ⟨rfl, rfl, rfl, rfl⟩ rfl (fun _ => trivial) fun b0 => ?_
  refine SL.asg ⟨rfl, rfl, rfl, rfl⟩ rfl ?_
  refine SL.asg ⟨rfl, rfl, rfl, rfl⟩ rfl ?_
  refine SL.asg ⟨rfl, rfl, rfl, rfl⟩ rfl ?_
  refine SL.nx ?_
  refine SX.seq ?_
  refine SX.sr ?_
  refine SL.ldA (encKey k) ⟨rfl, rfl, rfl, rfl⟩ ag70 rfl rfl (cells_all 0 rfl) ?_
  refine SL.bsl [_] ⟨rfl, rfl, rfl, rfl⟩ ty31 sz70 ze70 ⟨rfl, trivial⟩ rfl rfl rfl (by simp [Value.cells, encKey]) rfl rfl (fun _ => trivial) fun b1 => ?_
  refine SL.call (vs := [_]) (Hin := [_]) ⟨rfl, rfl, rfl, rfl⟩ rfl ⟨rfl, trivial⟩ cal45 rfl rfl (Con.lend (B := [own b1 (.cells (encKey k).toArray 70)]) (Hin := []) fun K' w1 hk hB => c_keys_Right _ [k] (SlOf.lent (enc := encKey) (sz := 2) (xs := [k]) (fun _ => rfl) (Nat.le_refl 1) rfl (hB _ (List.mem_cons_self ..))) rfl (by simp)) ?_
  rintro _ _ ⟨M', rfl, rfl, rfl⟩
  refine ⟨trivial, ?_⟩
  refine SL.not ⟨rfl, rfl, rfl, rfl⟩ rfl ?_
  refine SL.nx ?_
  refine SX.cond rfl (fun hc1 => ?_) (fun hc1 => ?_)
  · skip
    have hr : rightA [k] = false := by simpa using hc1
    refine SX.sr ?_
    refine SL.asg ⟨rfl, rfl, rfl, rfl⟩ rfl ?_
    refine SL.asg ⟨rfl, rfl, rfl, rfl⟩ rfl ?_
    refine SL.asg ⟨rfl, rfl, rfl, rfl⟩ rfl ?_
    refine SL.nx ?_
    refine SX.ret ?_
    refine SQ.thnR ?_
    exact SQ.fret (res3 rfl rfl rfl rfl) (ret_of (M := []) ⟨by rw [hr]; rfl, rfl⟩ fun _ h => h.skip [_, _])
  · skip
    have hr : rightA [k] = true := by simpa using hc1
    have hkl := rightA_one hr
    refine SX.skip ?_
    refine SQ.thn ?_
    refine SX.sr ?_
    refine SL.fa ⟨rfl, rfl, rfl, rfl⟩ rfl fo70_0 ?_
    refine SL.ld ⟨rfl, rfl, rfl, rfl⟩ sc22 rfl (cell_own 1 rfl rfl) ?_
    refine SL.cv ⟨rfl, rfl, rfl, rfl⟩ rfl (Cv.u32_8 ty22 ty5) ?_
    refine SL.fa ⟨rfl, rfl, rfl, rfl⟩ rfl fo70_0 ?_
    refine SL.ld ⟨rfl, rfl, rfl, rfl⟩ sc22 rfl (cell_own 1 rfl rfl) ?_
    refine SL.bin ⟨rfl, rfl, rfl, rfl⟩ rfl rfl (Bin.shr32 (n := 8)) ?_
    refine SL.cv ⟨rfl, rfl, rfl, rfl⟩ rfl (Cv.u32_8 ty22 ty5) ?_
    refine SL.fa ⟨rfl, rfl, rfl, rfl⟩ rfl fo70_0 ?_
    refine SL.ld ⟨rfl, rfl, rfl, rfl⟩ sc22 rfl (cell_own 1 rfl rfl) ?_
    refine SL.bin ⟨rfl, rfl, rfl, rfl⟩ rfl rfl (Bin.shr32 (n := 16)) ?_
    refine SL.cv ⟨rfl, rfl, rfl, rfl⟩ rfl (Cv.u32_8 ty22 ty5) ?_
    refine SL.fa ⟨rfl, rfl, rfl, rfl⟩ rfl fo70_0 ?_
    refine SL.ld ⟨rfl, rfl, rfl, rfl⟩ sc22 rfl (cell_own 1 rfl rfl) ?_
    refine SL.bin ⟨rfl, rfl, rfl, rfl⟩ rfl rfl (Bin.shr32 (n := 24)) ?_
    refine SL.cv ⟨rfl, rfl, rfl, rfl⟩ rfl (Cv.u32_8 ty22 ty5) ?_
    refine SL.bsl [_, _, _, _] ⟨rfl, rfl, rfl, rfl⟩ ty51 sz5 ze5 ⟨rfl, rfl, rfl, rfl, trivial⟩ rfl rfl rfl (by simp [Value.cells]) rfl rfl (fun _ => trivial) fun b2 => ?_
    refine SL.bts [_, _, _, _] ⟨rfl, rfl, rfl, rfl⟩ ty51 ty5 ty9 rfl rfl (cells_all 0 rfl) ?_
    refine SL.asg ⟨rfl, rfl, rfl, rfl⟩ rfl ?_
    refine SL.nx ?_
    refine SX.sr ?_
    refine SL.fa ⟨rfl, rfl, rfl, rfl⟩ rfl fo70_1 ?_
    refine SL.ld ⟨rfl, rfl, rfl, rfl⟩ sc9 rfl (cell_own 2 rfl rfl) ?_
    refine SL.mv ⟨rfl, rfl, rfl, rfl⟩ rfl ?_
    refine SL.bin ⟨rfl, rfl, rfl, rfl⟩ rfl rfl (Bin.cat (s := sealW) (t := le32 k.gen) (by simp [le32, sealW])) ?_
    refine SL.call (vs := [_, _, _]) (Hin := []) ⟨rfl, rfl, rfl, rfl⟩ rfl ⟨rfl, rfl, rfl, trivial⟩ cal76 rfl rfl (c_mac_Expand T k.secret (sealW ++ le32 k.gen) hT (by omega) (by simp [le32, sealW])) ?_
    rintro _ _ ⟨rfl, rfl⟩
    refine ⟨trivial, ?_⟩
    refine SL.mv ⟨rfl, rfl, rfl, rfl⟩ rfl ?_
    refine SL.ext ⟨rfl, rfl, rfl, rfl⟩ rfl rfl ?_
    refine SL.ext ⟨rfl, rfl, rfl, rfl⟩ rfl rfl ?_
    refine SL.asg ⟨rfl, rfl, rfl, rfl⟩ rfl ?_
    refine SL.asg ⟨rfl, rfl, rfl, rfl⟩ rfl ?_
    refine SL.nx ?_
    refine SX.sr ?_
    refine SL.fa ⟨rfl, rfl, rfl, rfl⟩ rfl fo70_1 ?_
    refine SL.ld ⟨rfl, rfl, rfl, rfl⟩ sc9 rfl (cell_own 2 rfl rfl) ?_
    refine SL.mv ⟨rfl, rfl, rfl, rfl⟩ rfl ?_
    refine SL.bin ⟨rfl, rfl, rfl, rfl⟩ rfl rfl (Bin.cat (s := bindW) (t := le32 k.gen) (by simp [le32, bindW])) ?_
    refine SL.call (vs := [_, _, _]) (Hin := []) ⟨rfl, rfl, rfl, rfl⟩ rfl ⟨rfl, rfl, rfl, trivial⟩ cal76 rfl rfl (c_mac_Expand T k.secret (bindW ++ le32 k.gen) hT (by omega) (by simp [le32, bindW])) ?_
    rintro _ _ ⟨rfl, rfl⟩
    refine ⟨trivial, ?_⟩
    refine SL.mv ⟨rfl, rfl, rfl, rfl⟩ rfl ?_
    refine SL.ext ⟨rfl, rfl, rfl, rfl⟩ rfl rfl ?_
    refine SL.ext ⟨rfl, rfl, rfl, rfl⟩ rfl rfl ?_
    refine SL.asg ⟨rfl, rfl, rfl, rfl⟩ rfl ?_
    refine SL.asg ⟨rfl, rfl, rfl, rfl⟩ rfl ?_
    refine SL.nx ?_
    refine SX.sr ?_
    refine SL.mv ⟨rfl, rfl, rfl, rfl⟩ rfl ?_
    refine SL.mv ⟨rfl, rfl, rfl, rfl⟩ rfl ?_
    refine SL.asg ⟨rfl, rfl, rfl, rfl⟩ rfl ?_
    refine SL.asg ⟨rfl, rfl, rfl, rfl⟩ rfl ?_
    refine SL.asg ⟨rfl, rfl, rfl, rfl⟩ rfl ?_
    refine SL.nx ?_
    refine SX.ret ?_
    exact SQ.fret (res3 rfl rfl rfl rfl) (ret_of (M := []) ⟨by rw [hr]; rfl, rfl⟩ fun _ h => h.skip [_, _, _])

theorem c_pad_Pad (s : List UInt8) (hn : s.length ≤ 9223372036854775807) : Con Tryd.prog K w0 63 [vS s] [] H (fun r M => r = (if 198 < s.length then .tuple #[vS [], vI 50] else .tuple #[vS (padA s), vI 0]) ∧ M = []) := by
  refine Con.enter Tryd.func63 rfl rfl ?_
  refine SX.sr ?_
  refine SL.asg ⟨rfl, rfl, rfl, rfl⟩ rfl ?_
  refine SL.asg ⟨rfl, rfl, rfl, rfl⟩ rfl ?_
  refine SL.nx ?_
  refine SX.seq ?_
  refine SX.sr ?_
  refine SL.mv ⟨rfl, rfl, rfl, rfl⟩ rfl ?_
  refine SL.lenS ⟨rfl, rfl, rfl, rfl⟩ ty9 rfl ?_
  refine SL.bin ⟨rfl, rfl, rfl, rfl⟩ rfl rfl Bin.gtI ?_
  refine SL.nx ?_
  refine SX.cond rfl (fun hc1 => ?_) (fun hc1 => ?_)
  · skip
    have h0 : 198 < s.length := by simp at hc1; omega
    refine SX.sr ?_
    refine SL.asg ⟨rfl, rfl, rfl, rfl⟩ rfl ?_
    refine SL.asg ⟨rfl, rfl, rfl, rfl⟩ rfl ?_
    refine SL.nx ?_
    refine SX.ret ?_
    refine SQ.thnR ?_
    exact SQ.fret (res2 rfl rfl rfl) (ret_of (M := []) ⟨by rw [if_pos h0], rfl⟩ fun _ h => h.skip [])
  · skip
    have h0 : ¬ 198 < s.length := by simp at hc1; omega
    have e1 : (198 - (s.length : Int)) = ((198 - s.length : Nat) : Int) := by omega
    refine SX.skip ?_
    refine SQ.thn ?_
    refine SX.seq ?_
    refine SX.drawI mix [] (Pl.ap [(true, 0), (true, 1), (true, 2), (true, 3), (true, 4), (true, 5), (true, 6), (true, 9), (true, 11), (true, 12), (true, 13)] (.alt 7 (.alt 8 (Pl.of [(true, 10), (false, 14), (true, 15), (true, 16), (true, 17)]) (.cons (false, 14) (Pl.of [(false, 8), (true, 10), (true, 15), (true, 16), (true, 17)]))) (.cons (false, 14) (Pl.of [(false, 7), (false, 8), (true, 10), (true, 15), (true, 16), (true, 17)])))) (by kernel_rfl) ?_
    refine SL.mv ⟨rfl, rfl, rfl, rfl⟩ rfl ?_
    refine SL.lenS ⟨rfl, rfl, rfl, rfl⟩ ty9 rfl ?_
    refine SL.bin ⟨rfl, rfl, rfl, rfl⟩ rfl rfl (Bin.shrI (n := 8) (by omega) (by omega)) ?_
    refine SL.cv ⟨rfl, rfl, rfl, rfl⟩ rfl (Cv.i_8 ty3 ty5) ?_
    refine SL.mv ⟨rfl, rfl, rfl, rfl⟩ rfl ?_
    refine SL.lenS ⟨rfl, rfl, rfl, rfl⟩ ty9 rfl ?_
    refine SL.cv ⟨rfl, rfl, rfl, rfl⟩ rfl (Cv.i_8 ty3 ty5) ?_
    refine SL.mv ⟨rfl, rfl, rfl, rfl⟩ rfl ?_
    refine SL.mv ⟨rfl, rfl, rfl, rfl⟩ rfl ?_
    refine SL.lenS ⟨rfl, rfl, rfl, rfl⟩ ty9 rfl ?_
    refine SL.bin ⟨rfl, rfl, rfl, rfl⟩ rfl rfl (Bin.subI (by omega) (by omega)) ?_
    rw [e1]
    refine SL.two ?_ ?_
    · skip
      refine SL.bsl [_, _] ⟨rfl, rfl, rfl, rfl⟩ ty51 sz5 ze5 ⟨rfl, rfl, trivial⟩ rfl rfl rfl (by simp [Value.cells]) rfl rfl (fun _ => trivial) fun b0 => ?_
      refine SL.two ?_ ?_
      · skip
        refine SL.bts [_, _] ⟨rfl, rfl, rfl, rfl⟩ ty51 ty5 ty9 rfl rfl (cells_all 0 rfl) ?_
        refine SL.bin ⟨rfl, rfl, rfl, rfl⟩ rfl rfl (Bin.cat (by simp; omega)) ?_
        refine SL.call (vs := [_, _]) (Hin := []) ⟨rfl, rfl, rfl, rfl⟩ rfl ⟨rfl, rfl, trivial⟩ cal26 rfl rfl (c_Repeat0 (198 - s.length) (by omega)) ?_
        rintro _ _ ⟨rfl, rfl⟩
        refine ⟨trivial, ?_⟩
        refine SL.bin ⟨rfl, rfl, rfl, rfl⟩ rfl rfl (Bin.cat (by simp; omega)) ?_
        refine SL.asg ⟨rfl, rfl, rfl, rfl⟩ rfl ?_
        refine SL.asg ⟨rfl, rfl, rfl, rfl⟩ rfl ?_
        refine SL.nx ?_
        refine SX.ret ?_
        exact SQ.fret (res2 rfl rfl rfl) (ret_of (M := []) ⟨by rw [if_neg h0]; rfl, rfl⟩ fun _ h => h.skip [_])
      · skip
        refine SL.call (vs := [_, _]) (Hin := []) ⟨rfl, rfl, rfl, rfl⟩ rfl ⟨rfl, rfl, trivial⟩ cal26 rfl rfl (c_Repeat0 (198 - s.length) (by omega)) ?_
        rintro _ _ ⟨rfl, rfl⟩
        refine ⟨trivial, ?_⟩
        refine SL.bts [_, _] ⟨rfl, rfl, rfl, rfl⟩ ty51 ty5 ty9 rfl rfl (cells_all 0 rfl) ?_
        refine SL.bin ⟨rfl, rfl, rfl, rfl⟩ rfl rfl (Bin.cat (by simp; omega)) ?_
        refine SL.bin ⟨rfl, rfl, rfl, rfl⟩ rfl rfl (Bin.cat (by simp; omega)) ?_
        refine SL.asg ⟨rfl, rfl, rfl, rfl⟩ rfl ?_
        refine SL.asg ⟨rfl, rfl, rfl, rfl⟩ rfl ?_
        refine SL.nx ?_
        refine SX.ret ?_
        exact SQ.fret (res2 rfl rfl rfl) (ret_of (M := []) ⟨by rw [if_neg h0]; rfl, rfl⟩ fun _ h => h.skip [_])
    · skip
      refine SL.call (vs := [_, _]) (Hin := []) ⟨rfl, rfl, rfl, rfl⟩ rfl ⟨rfl, rfl, trivial⟩ cal26 rfl rfl (c_Repeat0 (198 - s.length) (by omega)) ?_
      rintro _ _ ⟨rfl, rfl⟩
      refine ⟨trivial, ?_⟩
      refine SL.bsl [_, _] ⟨rfl, rfl, rfl, rfl⟩ ty51 sz5 ze5 ⟨rfl, rfl, trivial⟩ rfl rfl rfl (by simp [Value.cells]) rfl rfl (fun _ => trivial) fun b0 => ?_
      refine SL.bts [_, _] ⟨rfl, rfl, rfl, rfl⟩ ty51 ty5 ty9 rfl rfl (cells_all 0 rfl) ?_
      refine SL.bin ⟨rfl, rfl, rfl, rfl⟩ rfl rfl (Bin.cat (by simp; omega)) ?_
      refine SL.bin ⟨rfl, rfl, rfl, rfl⟩ rfl rfl (Bin.cat (by simp; omega)) ?_
      refine SL.asg ⟨rfl, rfl, rfl, rfl⟩ rfl ?_
      refine SL.asg ⟨rfl, rfl, rfl, rfl⟩ rfl ?_
      refine SL.nx ?_
      refine SX.ret ?_
      exact SQ.fret (res2 rfl rfl rfl) (ret_of (M := []) ⟨by rw [if_neg h0]; rfl, rfl⟩ fun _ h => h.skip [_])

theorem c_pad_Unpad (b : List UInt8) : Con Tryd.prog K w0 72 [vS b] [] H (fun r M => r = .tuple #[vS (unpadA b).1, vI (unpadA b).2] ∧ M = []) := by
  refine Con.enter Tryd.func72 rfl rfl ?_
  refine SX.sr ?_
  refine SL.asg ⟨rfl, rfl, rfl, rfl⟩ rfl ?_
  refine SL.asg ⟨rfl, rfl, rfl, rfl⟩ rfl ?_
  refine SL.nx ?_
  refine SX.seq ?_
  refine SX.sr ?_
  refine SL.mv ⟨rfl, rfl, rfl, rfl⟩ rfl ?_
  refine SL.lenS ⟨rfl, rfl, rfl, rfl⟩ ty9 rfl ?_
  refine SL.bin ⟨rfl, rfl, rfl, rfl⟩ rfl rfl Bin.neI ?_
  refine SL.nx ?_
  refine SX.cond rfl (fun hc1 => ?_) (fun hc1 => ?_)
  · skip
    have h0 : b.length ≠ 200 := by simp at hc1; omega
    have hu : unpadA b = ([], 50) := by unfold unpadA; rw [if_pos h0]
    rw [hu]
    refine SX.sr ?_
    refine SL.asg ⟨rfl, rfl, rfl, rfl⟩ rfl ?_
    refine SL.asg ⟨rfl, rfl, rfl, rfl⟩ rfl ?_
    refine SL.nx ?_
    refine SX.ret ?_
    refine SQ.thnR ?_
    exact SQ.fret (res2 rfl rfl rfl) (ret_of (M := []) ⟨rfl, rfl⟩ fun _ h => h.skip [])
  · skip
    have h0 : b.length = 200 := by simp at hc1; omega
    have e1 : ((b.getD 0 0).toNat : Int) * 2 ^ (min 8 64) = (((b.getD 0 0).toNat * 256 : Nat) : Int) := by simp
    have hb0 := (b.getD 0 0).toNat_lt
    have hb1 := (b.getD 1 0).toNat_lt
    refine SX.skip ?_
    refine SQ.thn ?_
    refine SX.seq ?_
    refine SX.drawI mix [] (Pl.of [(true, 0), (true, 1), (true, 2), (true, 3), (true, 4), (true, 5), (true, 6), (true, 7), (true, 8)]) (by kernel_rfl) ?_
    refine SL.mv ⟨rfl, rfl, rfl, rfl⟩ rfl ?_
    refine SL.ixS 0 ⟨rfl, rfl, rfl, rfl⟩ ty9 rfl rfl (by omega) (by omega) ?_
    refine SL.cv ⟨rfl, rfl, rfl, rfl⟩ rfl (Cv.u8_I ty5 ty3) ?_
    refine SL.bin ⟨rfl, rfl, rfl, rfl⟩ rfl rfl (Bin.shlI (n := 8) (by rw [e1]; omega) (by rw [e1]; omega)) ?_
    rw [e1]
    refine SL.mv ⟨rfl, rfl, rfl, rfl⟩ rfl ?_
    refine SL.ixS 1 ⟨rfl, rfl, rfl, rfl⟩ ty9 rfl rfl (by omega) (by omega) ?_
    refine SL.cv ⟨rfl, rfl, rfl, rfl⟩ rfl (Cv.u8_I ty5 ty3) ?_
    refine SL.bin ⟨rfl, rfl, rfl, rfl⟩ rfl rfl (Bin.orI (a := (b.getD 0 0).toNat * 256) (b := (b.getD 1 0).toNat) (by omega) (by omega)) ?_
    have e2 : (b.getD 0 0).toNat * 256 ||| (b.getD 1 0).toNat = lenA b := by
      have := Nat.shiftLeft_add_eq_or_of_lt (i := 8) (b := (b.getD 1 0).toNat) (by omega) (b.getD 0 0).toNat
      rw [Nat.shiftLeft_eq, show (2 : Nat) ^ 8 = 256 from rfl] at this
      unfold lenA
      omega
    rw [e2]
    have hla : lenA b < 65536 := by unfold lenA; omega
    refine SL.asg ⟨rfl, rfl, rfl, rfl⟩ rfl ?_
    refine SL.nx ?_
    refine SX.seq ?_
    refine SX.sr ?_
    refine SL.mv ⟨rfl, rfl, rfl, rfl⟩ rfl ?_
    refine SL.bin ⟨rfl, rfl, rfl, rfl⟩ rfl rfl Bin.gtI ?_
    refine SL.nx ?_
    refine SX.cond rfl (fun hc2 => ?_) (fun hc2 => ?_)
    · skip
      have h1 : 198 < lenA b := by simp at hc2; omega
      have hu : unpadA b = ([], 50) := by unfold unpadA; rw [if_neg (by omega), if_pos h1]
      rw [hu]
      refine SX.sr ?_
      refine SL.asg ⟨rfl, rfl, rfl, rfl⟩ rfl ?_
      refine SL.asg ⟨rfl, rfl, rfl, rfl⟩ rfl ?_
      refine SL.nx ?_
      refine SX.ret ?_
      refine SQ.thnR ?_
      exact SQ.fret (res2 rfl rfl rfl) (ret_of (M := []) ⟨rfl, rfl⟩ fun _ h => h.skip [])
    · skip
      have h1 : ¬ 198 < lenA b := by simp at hc2; omega
      refine SX.skip ?_
      refine SQ.thn ?_
      refine SX.sr ?_
      refine SL.asg ⟨rfl, rfl, rfl, rfl⟩ rfl ?_
      refine SL.nx ?_
      refine SX.seq ?_
      refine SX.sr ?_
      refine SL.mv ⟨rfl, rfl, rfl, rfl⟩ rfl ?_
      refine SL.bin ⟨rfl, rfl, rfl, rfl⟩ rfl rfl (Bin.subI (by omega) (by omega)) ?_
      refine SL.mv ⟨rfl, rfl, rfl, rfl⟩ rfl ?_
      refine SL.nx ?_
      refine SX.block ?_
      refine SX.mono (SX.loop (α := Nat × UInt8) (fun x => x.1 ≤ 198 - lenA b ∧ (x.2 = 0 ↔ ∀ j, j < x.1 → b.getD (2 + lenA b + j) 0 = 0)) (fun x => [(0, vS b), (4, vI (lenA b)), (5, vU8 x.2), (21, vI (198 - (lenA b : Int))), (22, vI x.1)]) (fun x => H) (fun x => 198 - lenA b - x.1) (fun x D hp => ?_) (0, 0) ⟨Nat.zero_le _, by simp⟩) (by repeat' (first | exact trivial | refine And.intro rfl ?_))
      obtain ⟨i, x⟩ := x
      obtain ⟨hi, hx⟩ := hp
      simp only at hi hx
      refine SX.sr ?_
      refine SL.bin ⟨rfl, rfl, rfl, rfl⟩ rfl rfl Bin.ltI ?_
      refine SL.nx ?_
      refine SX.seq ?_
      refine SX.cond rfl (fun hc3 => ?_) (fun hc3 => ?_)
      · skip
        have hlt : i < 198 - lenA b := by simp at hc3; omega
        refine SX.skip ?_
        refine SQ.thn ?_
        refine SX.seq ?_
        refine SX.block ?_
        refine SX.sr ?_
        refine SL.mv ⟨rfl, rfl, rfl, rfl⟩ rfl ?_
        refine SL.asg ⟨rfl, rfl, rfl, rfl⟩ rfl ?_
        refine SL.nx ?_
        refine SX.region ?_
        refine SL.mv ⟨rfl, rfl, rfl, rfl⟩ rfl ?_
        refine SL.mv ⟨rfl, rfl, rfl, rfl⟩ rfl ?_
        refine SL.mv ⟨rfl, rfl, rfl, rfl⟩ rfl ?_
        refine SL.bin ⟨rfl, rfl, rfl, rfl⟩ rfl rfl (Bin.addI (by omega) (by omega)) ?_
        refine SL.mv ⟨rfl, rfl, rfl, rfl⟩ rfl ?_
        refine SL.bin ⟨rfl, rfl, rfl, rfl⟩ rfl rfl (Bin.addI (by omega) (by omega)) ?_
        refine SL.ixS (2 + lenA b + i) ⟨rfl, rfl, rfl, rfl⟩ ty9 rfl rfl (by omega) (by omega) ?_
        refine SL.bin ⟨rfl, rfl, rfl, rfl⟩ rfl rfl Bin.or8 ?_
        refine SL.asg ⟨rfl, rfl, rfl, rfl⟩ rfl ?_
        refine SL.nil ?_
        refine SQ.blk ?_
        refine SQ.thn ?_
        refine SX.region ?_
        refine SL.bin ⟨rfl, rfl, rfl, rfl⟩ rfl rfl (Bin.addI (by omega) (by omega)) ?_
        refine SL.mv ⟨rfl, rfl, rfl, rfl⟩ rfl ?_
        refine SL.nil ?_
        refine SQ.again (i + 1, x ||| b.getD (2 + lenA b + i) 0) ⟨hlt, ?_⟩ (by simp only; omega) (by repeat' (first | exact trivial | refine And.intro rfl ?_))
        simp only
        rw [or_zero8, hx]
        constructor
        · rintro ⟨h1, h2⟩ j hj
          rcases Nat.lt_or_ge j i with h | h
          · exact h1 j h
          · obtain rfl : j = i := by omega
            exact h2
        · intro h
          exact ⟨fun j hj => h j (by omega), h i (by omega)⟩
      · skip
        have hie : i = 198 - lenA b := by simp at hc3; omega
        subst hie
        refine SX.exit ?_
        refine SQ.thnE ?_
        refine SQ.lpE ?_
        refine SQ.blkE ?_
        refine SQ.thn ?_
        refine SX.seq ?_
        refine SX.sr ?_
        refine SL.mv ⟨rfl, rfl, rfl, rfl⟩ rfl ?_
        refine SL.bin ⟨rfl, rfl, rfl, rfl⟩ rfl rfl (Bin.ne8 (b := 0)) ?_
        refine SL.nx ?_
        refine SX.cond rfl (fun hc4 => ?_) (fun hc4 => ?_)
        · skip
          have hu : unpadA b = ([], 50) := by
            unfold unpadA
            rw [if_neg (by omega), if_neg h1, if_neg (fun hc => by simp at hc4; exact hc4 (hx.2 hc))]
          rw [hu]
          refine SX.sr ?_
          refine SL.asg ⟨rfl, rfl, rfl, rfl⟩ rfl ?_
          refine SL.asg ⟨rfl, rfl, rfl, rfl⟩ rfl ?_
          refine SL.nx ?_
          refine SX.ret ?_
          refine SQ.thnR ?_
          exact SQ.fret (res2 rfl rfl rfl) (ret_of (M := []) ⟨rfl, rfl⟩ fun _ h => h.skip [])
        · skip
          have hu : unpadA b = ((b.drop 2).take (lenA b), 0) := by
            unfold unpadA
            rw [if_neg (by omega), if_neg h1, if_pos (show cleanA b from hx.1 (by simpa using hc4))]
          rw [hu]
          refine SX.skip ?_
          refine SQ.thn ?_
          refine SX.sr ?_
          refine SL.mv ⟨rfl, rfl, rfl, rfl⟩ rfl ?_
          refine SL.mv ⟨rfl, rfl, rfl, rfl⟩ rfl ?_
          refine SL.bin ⟨rfl, rfl, rfl, rfl⟩ rfl rfl (Bin.addI (by omega) (by omega)) ?_
          refine SL.slS 2 (2 + lenA b) ⟨rfl, rfl, rfl, rfl⟩ ty9 rfl rfl rfl (by omega) (by omega) (by omega) (by omega) ?_
          refine SL.asg ⟨rfl, rfl, rfl, rfl⟩ rfl ?_
          refine SL.asg ⟨rfl, rfl, rfl, rfl⟩ rfl ?_
          refine SL.nx ?_
          refine SX.ret ?_
          refine SQ.fret (res2 rfl rfl rfl) (ret_of (M := []) ⟨?_, rfl⟩ fun _ h => h.skip [])
          rw [show 2 + lenA b - 2 = lenA b by omega]

end Go.Proofs.YtddjneafgddlcaaDoor

/- Walks of ChaCha20's words and of the state that a block begins with. Condition: texts of at most 2^39 bytes. -/
namespace Go.Proofs.YtddjneafgddlcaaDoor
open Go
variable {K : Nat → Prop} {w0 : World} {H : List Chunk}

def encW (x : UInt32) : List Value := [vU32 x]
theorem wordsOf_get {s : List UInt8} {j : Nat} (h : j < s.length / 4) : (wordsOf s)[j]? = some (wordLE s (4 * j)) := by simp [wordsOf, h]
theorem c_arx_word (s : List UInt8) (hs : 4 ≤ s.length) : Con Tryd.prog K w0 98 [vS s] [] H (fun r M => r = vU32 (wordLE s 0) ∧ M = []) := by
  refine Con.enter Tryd.func98 rfl rfl ?_
  refine SX.sr ?_
  refine SL.asg ⟨rfl, rfl, rfl, rfl⟩ rfl ?_
  refine SL.nx ?_
  refine SX.seq ?_
  refine SX.drawI mix [] (Pl.of [(true, 0), (true, 1), (true, 2), (true, 3), (true, 4), (true, 5), (true, 6), (true, 7), (true, 8), (true, 9), (true, 10), (true, 11), (true, 12), (true, 13), (true, 14), (true, 15), (true, 16), (true, 17), (true, 18)]) (by kernel_rfl) ?_
  refine SL.mv ⟨rfl, rfl, rfl, rfl⟩ rfl ?_
  refine SL.ixS 0 ⟨rfl, rfl, rfl, rfl⟩ ty9 rfl rfl (by omega) (by omega) ?_
  refine SL.cv ⟨rfl, rfl, rfl, rfl⟩ rfl (Cv.u8_32 ty5 ty22) ?_
  refine SL.mv ⟨rfl, rfl, rfl, rfl⟩ rfl ?_
  refine SL.ixS 1 ⟨rfl, rfl, rfl, rfl⟩ ty9 rfl rfl (by omega) (by omega) ?_
  refine SL.cv ⟨rfl, rfl, rfl, rfl⟩ rfl (Cv.u8_32 ty5 ty22) ?_
  refine SL.bin ⟨rfl, rfl, rfl, rfl⟩ rfl rfl (Bin.shl32 (n := 8)) ?_
  refine SL.bin ⟨rfl, rfl, rfl, rfl⟩ rfl rfl Bin.or32 ?_
  refine SL.mv ⟨rfl, rfl, rfl, rfl⟩ rfl ?_
  refine SL.ixS 2 ⟨rfl, rfl, rfl, rfl⟩ ty9 rfl rfl (by omega) (by omega) ?_
  refine SL.cv ⟨rfl, rfl, rfl, rfl⟩ rfl (Cv.u8_32 ty5 ty22) ?_
  refine SL.bin ⟨rfl, rfl, rfl, rfl⟩ rfl rfl (Bin.shl32 (n := 16)) ?_
  refine SL.bin ⟨rfl, rfl, rfl, rfl⟩ rfl rfl Bin.or32 ?_
  refine SL.mv ⟨rfl, rfl, rfl, rfl⟩ rfl ?_
  refine SL.ixS 3 ⟨rfl, rfl, rfl, rfl⟩ ty9 rfl rfl (by omega) (by omega) ?_
  refine SL.cv ⟨rfl, rfl, rfl, rfl⟩ rfl (Cv.u8_32 ty5 ty22) ?_
  refine SL.bin ⟨rfl, rfl, rfl, rfl⟩ rfl rfl (Bin.shl32 (n := 24)) ?_
  refine SL.bin ⟨rfl, rfl, rfl, rfl⟩ rfl rfl Bin.or32 ?_
  refine SL.asg ⟨rfl, rfl, rfl, rfl⟩ rfl ?_
  refine SL.nx ?_
  refine SX.ret ?_
  exact SQ.fret (res1 rfl rfl) (ret_of (M := []) ⟨rfl, rfl⟩ fun _ h => h.skip [])

theorem q_arx_words (ls : List (List UInt8)) (bl bs : Nat) (hl : ls.length ≤ 549755813888) (hls : ∀ s ∈ ls, s.length ≤ 549755813888) : Seq Tryd.prog K w0 97 [vP bl 0] [own bl (.cells #[.slice (some ⟨bs, 0, none⟩) ls.length ls.length] 49), own bs (.cells (arr vS ls) 9)] encW (ls.flatMap wordsOf) := by
  intro lp J X T1 hy G h0
  refine Con.enter Tryd.func97 rfl rfl ?_
  refine SX.sr ?_
  refine SL.ld ⟨rfl, rfl, rfl, rfl⟩ sc49 rfl (cell_own 0 rfl rfl) ?_
  refine SL.lenL ⟨rfl, rfl, rfl, rfl⟩ ty49 rfl ?_
  refine SL.mv ⟨rfl, rfl, rfl, rfl⟩ rfl ?_
  refine SL.nx ?_
  refine SX.block ?_
  refine SX.mono (SX.loop (α := Nat × List Chunk) (fun x => x.1 ≤ ls.length ∧ J ((ls.take x.1).flatMap wordsOf) x.2) (fun x => [(0, vY lp), (5, .slice (some ⟨bs, 0, none⟩) ls.length ls.length), (6, vI ls.length), (7, vI x.1)]) (fun x => own bl (.cells #[.slice (some ⟨bs, 0, none⟩) ls.length ls.length] 49) :: own bs (.cells (arr vS ls) 9) :: (x.2 ++ T1)) (fun x => ls.length - x.1) (fun x D hp => ?_) (0, G) ⟨Nat.zero_le _, h0⟩) (by repeat' (first | exact trivial | refine And.intro rfl ?_))
  obtain ⟨i, G⟩ := x
  obtain ⟨hi, hJ⟩ := hp
  simp only at hi hJ
  refine SX.sr ?_
  refine SL.bin ⟨rfl, rfl, rfl, rfl⟩ rfl rfl Bin.ltI ?_
  refine SL.nx ?_
  refine SX.seq ?_
  refine SX.cond rfl (fun hc1 => ?_) (fun hc1 => ?_)
  · skip
    have hlt : i < ls.length := by simpa using hc1
    obtain ⟨s, hs⟩ := get_of_lt hlt
    have hsl := hls s (List.mem_of_getElem? hs)
    have hsplit := take_split hs
    refine SX.skip ?_
    refine SQ.thn ?_
    refine SX.seq ?_
    refine SX.block ?_
    refine SX.sr ?_
    refine SL.iap (n := i) ⟨rfl, rfl, rfl, rfl⟩ ty49 sz9 rfl rfl (by omega) (by omega) ?_
    refine SL.ld ⟨rfl, rfl, rfl, rfl⟩ sc9 rfl (cell_own 1 rfl (arr_get hs)) ?_
    refine SL.asg ⟨rfl, rfl, rfl, rfl⟩ rfl ?_
    refine SL.nx ?_
    refine SX.block ?_
    refine SX.mono (SX.loop (α := Nat × List Chunk) (fun x => x.1 ≤ s.length / 4 ∧ J ((ls.take i).flatMap wordsOf ++ (wordsOf s).take x.1) x.2) (fun x => [(0, vY lp), (4, vS (s.drop (4 * x.1))), (5, .slice (some ⟨bs, 0, none⟩) ls.length ls.length), (6, vI ls.length), (7, vI i)]) (fun x => own bl (.cells #[.slice (some ⟨bs, 0, none⟩) ls.length ls.length] 49) :: own bs (.cells (arr vS ls) 9) :: (x.2 ++ T1)) (fun x => s.length / 4 - x.1) (fun x D hp => ?_) (0, G) ⟨Nat.zero_le _, by simpa using hJ⟩) (by repeat' (first | exact trivial | refine And.intro rfl ?_))
    obtain ⟨j, G⟩ := x
    obtain ⟨hj, hJ2⟩ := hp
    simp only at hj hJ2
    refine SX.seq ?_
    refine SX.sr ?_
    refine SL.mv ⟨rfl, rfl, rfl, rfl⟩ rfl ?_
    refine SL.lenS ⟨rfl, rfl, rfl, rfl⟩ ty9 rfl ?_
    refine SL.bin ⟨rfl, rfl, rfl, rfl⟩ rfl rfl Bin.geI ?_
    refine SL.nx ?_
    refine SX.cond rfl (fun hc2 => ?_) (fun hc2 => ?_)
    · skip
      have hjlt : j < s.length / 4 := by simp at hc2; omega
      have hw := wordsOf_get hjlt
      have hws := take_split hw
      refine SX.skip ?_
      refine SQ.thn ?_
      refine SX.seq ?_
      refine SX.block ?_
      refine SX.sr ?_
      refine SL.mv ⟨rfl, rfl, rfl, rfl⟩ rfl ?_
      refine SL.mv ⟨rfl, rfl, rfl, rfl⟩ rfl ?_
      refine SL.call (vs := [_]) (Hin := []) ⟨rfl, rfl, rfl, rfl⟩ rfl ⟨rfl, trivial⟩ cal98 rfl rfl (c_arx_word (s.drop (4 * j)) (by simp; omega)) ?_
      rintro _ _ ⟨rfl, rfl⟩
      refine ⟨trivial, ?_⟩
      rw [wordLE_drop, Nat.add_zero]
      refine SL.yld (M2 := [_, _]) (G := G) (T := T1) (vs := [_]) (ok := fun G1 => J ((ls.take i).flatMap wordsOf ++ (wordsOf s).take (j + 1)) G1) (no := X) ⟨rfl, rfl, rfl, rfl⟩ rfl ⟨rfl, trivial⟩ rfl ?_ (fun bb G1 hG1 => ⟨trivial, ?_⟩)
      · intro M
        have e1 : ls.flatMap wordsOf = ((ls.take i).flatMap wordsOf ++ (wordsOf s).take j) ++ wordLE s (4 * j) :: ((wordsOf s).drop (j + 1) ++ (ls.drop (i + 1)).flatMap wordsOf) := by
          have h1 : ls.flatMap wordsOf = (ls.take i).flatMap wordsOf ++ (wordsOf s ++ (ls.drop (i + 1)).flatMap wordsOf) := by
            rw [← List.flatMap_cons, ← List.flatMap_append, ← hsplit.1]
          have h2 : wordsOf s ++ (ls.drop (i + 1)).flatMap wordsOf = (wordsOf s).take j ++ wordLE s (4 * j) :: ((wordsOf s).drop (j + 1) ++ (ls.drop (i + 1)).flatMap wordsOf) := by
            rw [← List.cons_append, ← List.append_assoc, ← hws.1]
          rw [h1, h2, List.append_assoc]
        have := hy _ _ _ e1 G hJ2 M
        rw [List.append_assoc, ← hws.2] at this
        exact this
      refine SL.not ⟨rfl, rfl, rfl, rfl⟩ rfl ?_
      refine SL.nx ?_
      refine SX.cond rfl (fun hc3 => ?_) (fun hc3 => ?_)
      · skip
        obtain rfl : bb = false := by simpa using hc3
        refine SX.ret ?_
        refine SQ.blkR ?_
        refine SQ.thnR ?_
        refine SQ.lpR ?_
        refine SQ.blkR ?_
        refine SQ.blkR ?_
        refine SQ.thnR ?_
        refine SQ.lpR ?_
        refine SQ.blkR ?_
        exact SQ.fret (res0 rfl) (ret_of (M := G1) (.inr hG1) fun _ h => h.skip [_, _])
      · skip
        obtain rfl : bb = true := by simpa using hc3
        refine SX.skip ?_
        refine SQ.blk ?_
        refine SQ.thn ?_
        refine SX.region ?_
        refine SL.mv ⟨rfl, rfl, rfl, rfl⟩ rfl ?_
        refine SL.slSl 4 ⟨rfl, rfl, rfl, rfl⟩ ty9 rfl rfl (by omega) (by simp; omega) ?_
        rw [List.drop_drop, show 4 * j + 4 = 4 * (j + 1) by omega]
        refine SL.asg ⟨rfl, rfl, rfl, rfl⟩ rfl ?_
        refine SL.nil ?_
        exact SQ.again (j + 1, G1) ⟨hjlt, hG1⟩ (by simp only; omega) (by repeat' (first | exact trivial | refine And.intro rfl ?_))
    · skip
      have hje : j = s.length / 4 := by simp at hc2; omega
      refine SX.exit ?_
      refine SQ.thnE ?_
      refine SQ.lpE ?_
      refine SQ.blkE ?_
      refine SQ.blk ?_
      refine SQ.thn ?_
      refine SX.region ?_
      refine SL.bin ⟨rfl, rfl, rfl, rfl⟩ rfl rfl (Bin.addI (by omega) (by omega)) ?_
      refine SL.mv ⟨rfl, rfl, rfl, rfl⟩ rfl ?_
      refine SL.nil ?_
      refine SQ.again (i + 1, G) ⟨hlt, ?_⟩ (by simp only; omega) (by repeat' (first | exact trivial | refine And.intro rfl ?_))
      simp only
      rw [hsplit.2, List.flatMap_append, List.flatMap_cons, List.flatMap_nil, List.append_nil]
      have ht : (wordsOf s).take j = wordsOf s := List.take_of_length_le (by rw [wordsOf_length]; omega)
      rw [ht] at hJ2
      exact hJ2
  · skip
    have hle : i = ls.length := by simp at hc1; omega
    refine SX.exit ?_
    refine SQ.thnE ?_
    refine SQ.lpE ?_
    refine SQ.blkE ?_
    exact SQ.fend (res0 rfl) (ret_of (M := G) (.inl (by rw [hle, List.take_length] at hJ; exact hJ)) fun _ h => h.skip [_, _])

theorem c_arx_words (ls : List (List UInt8)) (bs : Nat) : Con Tryd.prog K w0 92 [.slice (some ⟨bs, 0, none⟩) ls.length ls.length] [own bs (.cells (arr vS ls) 9)] H (fun r M => ∃ bl, r = .func (.func 97) #[] #[vP bl 0] ∧ M = [own bl (.cells #[.slice (some ⟨bs, 0, none⟩) ls.length ls.length] 49), own bs (.cells (arr vS ls) 9)]) := by
  refine Con.enter Tryd.func92 rfl rfl ?_
  refine SX.sr ?_
  refine SL.box ⟨rfl, rfl, rfl, rfl⟩ rfl (fun _ => trivial) fun b0 => ?_
  refine SL.asg ⟨rfl, rfl, rfl, rfl⟩ rfl ?_
  refine SL.nx ?_
  refine SX.sr ?_
  refine SL.mkf (fv := #[]) (cv := #[_]) ⟨rfl, rfl, rfl, rfl⟩ rfl rfl ?_
  refine SL.asg ⟨rfl, rfl, rfl, rfl⟩ rfl ?_
  refine SL.nx ?_
  refine SX.ret ?_
  exact SQ.fret (res1 rfl rfl) (ret_of (M := [_, _]) ⟨b0, rfl, rfl⟩ fun _ h => h)

theorem c_arx_begun (key nonce : List UInt8) (counter : UInt32) (hk : key.length = 32) (hn : nonce.length = 12) : Con Tryd.prog K w0 84 [vS key, vU32 counter, vS nonce] [] H (fun r M => r = .agg (arr vU32 (begunA key counter nonce)) ∧ M = []) := by
  refine Con.enter Tryd.func84 rfl rfl ?_
  refine SX.sr ?_
  refine SL.alloc ⟨rfl, rfl, rfl, rfl⟩ ze154 (fun _ => trivial) fun b0 => ?_
  refine SL.nx ?_
  refine SX.scope ?_
  refine SX.sr ?_
  refine SL.alloc ⟨rfl, rfl, rfl, rfl⟩ ze154 (fun _ => trivial) fun b1 => ?_
  refine SL.nx ?_
  refine SX.sr ?_
  refine SL.alloc ⟨rfl, rfl, rfl, rfl⟩ ze3 (fun _ => trivial) fun b2 => ?_
  refine SL.st 0 ⟨rfl, rfl, rfl⟩ rfl rfl rfl sz3 rfl rfl rfl trivial ?_
  refine SL.nx ?_
  refine SX.sr ?_
  refine SL.mv ⟨rfl, rfl, rfl, rfl⟩ rfl ?_
  refine SL.cv ⟨rfl, rfl, rfl, rfl⟩ rfl (Cv.u32_8 ty22 ty5) ?_
  refine SL.mv ⟨rfl, rfl, rfl, rfl⟩ rfl ?_
  refine SL.bin ⟨rfl, rfl, rfl, rfl⟩ rfl rfl (Bin.shr32 (n := 8)) ?_
  refine SL.cv ⟨rfl, rfl, rfl, rfl⟩ rfl (Cv.u32_8 ty22 ty5) ?_
  refine SL.mv ⟨rfl, rfl, rfl, rfl⟩ rfl ?_
  refine SL.bin ⟨rfl, rfl, rfl, rfl⟩ rfl rfl (Bin.shr32 (n := 16)) ?_
  refine SL.cv ⟨rfl, rfl, rfl, rfl⟩ rfl (Cv.u32_8 ty22 ty5) ?_
  refine SL.mv ⟨rfl, rfl, rfl, rfl⟩ rfl ?_
  refine SL.bin ⟨rfl, rfl, rfl, rfl⟩ rfl rfl (Bin.shr32 (n := 24)) ?_
  refine SL.cv ⟨rfl, rfl, rfl, rfl⟩ rfl (Cv.u32_8 ty22 ty5) ?_
  refine SL.bsl [_, _, _, _] ⟨rfl, rfl, rfl, rfl⟩ ty51 sz5 ze5 ⟨rfl, rfl, rfl, rfl, trivial⟩ rfl rfl rfl (by simp [Value.cells]) rfl rfl (fun _ => trivial) fun b3 => ?_
  refine SL.bts [_, _, _, _] ⟨rfl, rfl, rfl, rfl⟩ ty51 ty5 ty9 rfl rfl (cells_all 0 rfl) ?_
  refine SL.asg ⟨rfl, rfl, rfl, rfl⟩ rfl ?_
  refine SL.nx ?_
  refine SX.seq ?_
  refine SX.label ?_
  refine SQ.thn ?_
  refine SX.seq ?_
  refine SX.sr ?_
  refine SL.mv ⟨rfl, rfl, rfl, rfl⟩ rfl ?_
  refine SL.mv ⟨rfl, rfl, rfl, rfl⟩ rfl ?_
  refine SL.mv ⟨rfl, rfl, rfl, rfl⟩ rfl ?_
  refine SL.bsl [_, _, _, _] ⟨rfl, rfl, rfl, rfl⟩ ty49 sz9 ze9 ⟨rfl, rfl, rfl, rfl, trivial⟩ rfl rfl rfl (by simp [Value.cells]) rfl rfl (fun _ => trivial) fun b4 => ?_
  refine SL.call (vs := [_]) (Hin := [_]) ⟨rfl, rfl, rfl, rfl⟩ rfl ⟨rfl, trivial⟩ cal92 rfl rfl (c_arx_words [expandW, key, le32 counter, nonce] b4) ?_
  rintro _ _ ⟨bl, rfl, rfl⟩
  refine ⟨trivial, ?_⟩
  refine SL.nx ?_
  have hbl := begunA_length (counter := counter) hk hn
  have hfm : [expandW, key, le32 counter, nonce].flatMap wordsOf = begunA key counter nonce := by simp [begunA, List.flatMap_cons]
  refine SX.block ?_
  refine SX.range (enc := encW) ([expandW, key, le32 counter, nonce].flatMap wordsOf) (fun pre G => G = own b3 (.cells (arr vU8 (le32 counter)) 5) :: own b2 (.cells #[vI pre.length] 3) :: own b1 (.cells (arr vU32 (pre ++ List.replicate (16 - pre.length) 0)) 154) :: own b0 (.cells (arr vU32 (List.replicate 16 0)) 154) :: H) (fun c G => False) rfl cal97 rfl (fun _ => rfl) (q_arx_words [expandW, key, le32 counter, nonce] bl b4 (by simp) (by simp [hk, hn, expandW, le32])) rfl rfl (fun pre x suf G hxs hJ r lp Rest => ?_) (fun G D hJ => ?_) (fun c G D hX => hX.elim)
  · obtain rfl := hJ
    have hlt : pre.length < 16 := by
      rw [hfm] at hxs
      rw [hxs] at hbl
      simp at hbl
      omega
    refine SX.region ?_
    refine SL.asg ⟨rfl, rfl, rfl, rfl⟩ rfl ?_
    refine SL.nil ?_
    refine SQ.bgn ?_
    refine SX.block ?_
    refine SX.seq ?_
    refine SX.sr ?_
    refine SL.ld ⟨rfl, rfl, rfl, rfl⟩ sc3 rfl (cell_own 1 rfl rfl) ?_
    refine SL.bin ⟨rfl, rfl, rfl, rfl⟩ rfl rfl Bin.eqI ?_
    refine SL.nx ?_
    refine SX.cond rfl (fun hc1 => absurd hc1 (by simp; omega)) (fun hc1 => ?_)
    refine SX.skip ?_
    refine SQ.thn ?_
    refine SX.sr ?_
    refine SL.ld ⟨rfl, rfl, rfl, rfl⟩ sc3 rfl (cell_own 1 rfl rfl) ?_
    refine SL.mv ⟨rfl, rfl, rfl, rfl⟩ rfl ?_
    refine SL.iaAp (n := pre.length) ⟨rfl, rfl, rfl, rfl⟩ ty154 sz22 rfl rfl (by omega) (by omega) ?_
    refine SL.stA (f := vU32) 2 ⟨rfl, rfl, rfl⟩ rfl rfl rfl sz22 rfl rfl (by simp; omega) trivial ?_
    rw [fill_set pre 0 x 16 pre.length rfl hlt]
    refine SL.nx ?_
    refine SX.region ?_
    refine SL.ld ⟨rfl, rfl, rfl, rfl⟩ sc3 rfl (cell_own 1 rfl rfl) ?_
    refine SL.bin ⟨rfl, rfl, rfl, rfl⟩ rfl rfl (Bin.addI (by omega) (by omega)) ?_
    refine SL.st 1 ⟨rfl, rfl, rfl⟩ rfl rfl rfl sz3 rfl rfl rfl trivial ?_
    refine SL.nil ?_
    refine SQ.blk ?_
    refine SQ.rndN (G := _ :: _ :: _ :: _ :: H) ?_ (fun _ h => h)
    have e1 : (pre ++ [x]).length = pre.length + 1 := by simp
    rw [e1]
    rfl
  · obtain rfl := hJ
    rw [hfm, hbl]
    have e1 : begunA key counter nonce ++ List.replicate (16 - 16) 0 = begunA key counter nonce := by simp
    rw [e1]
    refine SQ.blk ?_
    refine SQ.thn ?_
    refine SX.sr ?_
    refine SL.ldA ((begunA key counter nonce).map vU32) ⟨rfl, rfl, rfl, rfl⟩ ag154 (by simp [hbl]) rfl (cells_own 2 rfl (fun j u hu => by simpa [arr] using hu)) ?_
    refine SL.stF 3 ⟨rfl, rfl, rfl⟩ rfl rfl rfl sz154 (by simp [hbl]) (by simp [arr]) (arr_one (fun _ => rfl) (begunA key counter nonce)) trivial ?_
    refine SL.nx ?_
    refine SX.ret ?_
    refine SQ.scpR ?_
    exact SQ.fret (resv1 rfl (resv.ag 3 ((begunA key counter nonce).map vU32) ag154 (by simp [hbl]) rfl rfl (by simp only [List.drop_zero]; exact List.take_of_length_le (by simp [hbl])))) (ret_of (M := []) ⟨rfl, rfl⟩ fun _ h => h.skip [_, _, _, _])

end Go.Proofs.YtddjneafgddlcaaDoor

/- Walks of ChaCha20's quarter turns and rounds. Condition: none but the sizes stated. -/
namespace Go.Proofs.YtddjneafgddlcaaDoor
open Go
variable {K : Nat → Prop} {w0 : World} {H : List Chunk}

theorem left_all : ∀ n : Fin 32, (toU64 (n.1 : Int) &&& 31).toNat = n.1 ∧ (32 - (toU64 (n.1 : Int) &&& 31)).toNat = 32 - n.1 := by decide
theorem rotl_pos (x : UInt32) (n : Nat) (h1 : n < 32) : rotl32 x (n : Int) = rl x n := by
  obtain ⟨e1, e2⟩ := left_all ⟨n, h1⟩
  simp only at e1 e2
  unfold rotl32 rl
  rw [e1, e2]
theorem turnA_lt : ∀ i, turnA i < 32 | 0 => (by decide : 16 < 32) | _ + 1 => (by decide : 8 < 32)
theorem turnB_lt : ∀ i, turnB i < 32 | 0 => (by decide : 12 < 32) | _ + 1 => (by decide : 7 < 32)
theorem c_arx_Quarter (q : Q4) : Con Tryd.prog K w0 93 [vU32 q.a, vU32 q.b, vU32 q.c, vU32 q.d] [] H (fun r M => r = .agg (arr vU32 q.quarter.list) ∧ M = []) := by
  refine Con.enter Tryd.func93 rfl rfl ?_
  refine SX.sr ?_
  refine SL.alloc ⟨rfl, rfl, rfl, rfl⟩ ze171 (fun _ => trivial) fun b0 => ?_
  refine SL.nx ?_
  refine SX.seq ?_
  refine SX.sr ?_
  refine SL.bldU [vI 16, vI 12] ⟨rfl, rfl, rfl, rfl⟩ ty177 sz3 ze177 rfl ⟨rfl, rfl, trivial⟩ rfl rfl (by simp [Value.cells]) ?_
  refine SL.bldU [vI 8, vI 7] ⟨rfl, rfl, rfl, rfl⟩ ty177 sz3 ze177 rfl ⟨rfl, rfl, trivial⟩ rfl rfl (by simp [Value.cells]) ?_
  refine SL.bld (r := #[vI 16, vI 12, vI 8, vI 7]) [_, _] ⟨rfl, rfl, rfl, rfl⟩ pl178 pk178 ze178 ⟨rfl, rfl, trivial⟩ rfl ?_
  refine SL.mv ⟨rfl, rfl, rfl, rfl⟩ rfl ?_
  refine SL.nx ?_
  refine SX.block ?_
  refine SX.mono (SX.loop (α := Nat) (fun i => i ≤ 2) (fun i => [(0, vU32 (q.steps i).a), (1, vU32 (q.steps i).b), (2, vU32 (q.steps i).c), (3, vU32 (q.steps i).d), (8, vP b0 0), (13, .agg #[vI 16, vI 12, vI 8, vI 7]), (14, vI i)]) (fun i => own b0 (.cells (arr vU32 [0, 0, 0, 0]) 171) :: H) (fun i => 2 - i) (fun i D hp => ?_) 0 (by omega)) (by repeat' (first | exact trivial | refine And.intro rfl ?_))
  refine SX.sr ?_
  refine SL.bin ⟨rfl, rfl, rfl, rfl⟩ rfl rfl Bin.ltI ?_
  refine SL.nx ?_
  refine SX.seq ?_
  refine SX.cond rfl (fun hc1 => ?_) (fun hc1 => ?_)
  · skip
    have hi : i < 2 := by simp at hc1; omega
    refine SX.skip ?_
    refine SQ.thn ?_
    refine SX.seq ?_
    refine SX.block ?_
    refine SX.sr ?_
    refine SL.ixAA (i := i) (c' := #[vI (turnA i : Int), vI (turnB i : Int)]) ⟨rfl, rfl, rfl, rfl⟩ ty178 ag177 rfl rfl (by omega) (by omega) (by rcases (by omega : i = 0 ∨ i = 1) with rfl | rfl <;> rfl) ?_
    refine SL.alloc ⟨rfl, rfl, rfl, rfl⟩ ze177 (fun _ => trivial) fun b1 => ?_
    refine SL.st 0 ⟨rfl, rfl, rfl⟩ rfl rfl rfl sz177 rfl rfl rfl trivial ?_
    refine SL.nx ?_
    refine SX.sr ?_
    refine SL.mv ⟨rfl, rfl, rfl, rfl⟩ rfl ?_
    refine SL.mv ⟨rfl, rfl, rfl, rfl⟩ rfl ?_
    refine SL.bin ⟨rfl, rfl, rfl, rfl⟩ rfl rfl Bin.add32 ?_
    refine SL.asg ⟨rfl, rfl, rfl, rfl⟩ rfl ?_
    refine SL.nx ?_
    refine SX.sr ?_
    refine SL.mv ⟨rfl, rfl, rfl, rfl⟩ rfl ?_
    refine SL.mv ⟨rfl, rfl, rfl, rfl⟩ rfl ?_
    refine SL.bin ⟨rfl, rfl, rfl, rfl⟩ rfl rfl Bin.xor32 ?_
    refine SL.iaAp (n := 0) ⟨rfl, rfl, rfl, rfl⟩ ty177 sz3 rfl rfl (by omega) (by omega) ?_
    refine SL.ld ⟨rfl, rfl, rfl, rfl⟩ sc3 rfl (cell_own 0 rfl rfl) ?_
    refine SL.call (vs := [_, _]) (Hin := []) ⟨rfl, rfl, rfl, rfl⟩ rfl ⟨rfl, rfl, trivial⟩ cal99 rfl rfl (c_math_bits_RotateLeft32 _ (turnA i : Int)) ?_
    rintro _ _ ⟨rfl, rfl⟩
    refine ⟨trivial, ?_⟩
    rw [rotl_pos _ _ (turnA_lt i)]
    refine SL.asg ⟨rfl, rfl, rfl, rfl⟩ rfl ?_
    refine SL.nx ?_
    refine SX.sr ?_
    refine SL.mv ⟨rfl, rfl, rfl, rfl⟩ rfl ?_
    refine SL.mv ⟨rfl, rfl, rfl, rfl⟩ rfl ?_
    refine SL.bin ⟨rfl, rfl, rfl, rfl⟩ rfl rfl Bin.add32 ?_
    refine SL.asg ⟨rfl, rfl, rfl, rfl⟩ rfl ?_
    refine SL.nx ?_
    refine SX.region ?_
    refine SL.mv ⟨rfl, rfl, rfl, rfl⟩ rfl ?_
    refine SL.mv ⟨rfl, rfl, rfl, rfl⟩ rfl ?_
    refine SL.bin ⟨rfl, rfl, rfl, rfl⟩ rfl rfl Bin.xor32 ?_
    refine SL.iaAp (n := 1) ⟨rfl, rfl, rfl, rfl⟩ ty177 sz3 rfl rfl (by omega) (by omega) ?_
    refine SL.ld ⟨rfl, rfl, rfl, rfl⟩ sc3 rfl (cell_own 0 rfl rfl) ?_
    refine SL.call (vs := [_, _]) (Hin := []) ⟨rfl, rfl, rfl, rfl⟩ rfl ⟨rfl, rfl, trivial⟩ cal99 rfl rfl (c_math_bits_RotateLeft32 _ (turnB i : Int)) ?_
    rintro _ _ ⟨rfl, rfl⟩
    refine ⟨trivial, ?_⟩
    rw [rotl_pos _ _ (turnB_lt i)]
    refine SL.asg ⟨rfl, rfl, rfl, rfl⟩ rfl ?_
    refine SL.nil ?_
    refine SQ.blk ?_
    refine SQ.thn ?_
    refine SX.region ?_
    refine SL.bin ⟨rfl, rfl, rfl, rfl⟩ rfl rfl (Bin.addI (by omega) (by omega)) ?_
    refine SL.mv ⟨rfl, rfl, rfl, rfl⟩ rfl ?_
    refine SL.nil ?_
    exact SQ.again (i + 1) (by omega) (by omega) (by repeat' (first | exact trivial | refine And.intro rfl ?_)) (fun w hw => hw.skip [_])
  · skip
    have hi : i = 2 := by simp at hc1; omega
    subst hi
    refine SX.exit ?_
    refine SQ.thnE ?_
    refine SQ.lpE ?_
    refine SQ.blkE ?_
    refine SQ.thn ?_
    refine SX.sr ?_
    refine SL.mv ⟨rfl, rfl, rfl, rfl⟩ rfl ?_
    refine SL.mv ⟨rfl, rfl, rfl, rfl⟩ rfl ?_
    refine SL.mv ⟨rfl, rfl, rfl, rfl⟩ rfl ?_
    refine SL.mv ⟨rfl, rfl, rfl, rfl⟩ rfl ?_
    refine SL.bldU (q.quarter.list.map vU32) ⟨rfl, rfl, rfl, rfl⟩ ty171 sz22 ze171 rfl ⟨rfl, rfl, rfl, rfl, trivial⟩ rfl rfl (fun v hv => by obtain ⟨x, _, rfl⟩ := List.mem_map.1 hv; rfl) ?_
    refine SL.stF 0 ⟨rfl, rfl, rfl⟩ rfl rfl rfl sz171 rfl rfl (arr_one (fun _ => rfl) q.quarter.list) trivial ?_
    refine SL.nx ?_
    refine SX.ret ?_
    exact SQ.fret (resv1 rfl (resv.ag 0 (q.quarter.list.map vU32) ag171 rfl rfl rfl rfl)) (ret_of (M := []) ⟨rfl, rfl⟩ fun _ h => h.skip [_])

theorem c_arx_round (ws : List UInt32) (step : Nat) (b : Nat) (e : TypeId) (hw : ws.length = 16) (hs : step ≤ 1) : Con Tryd.prog K w0 85 [vP b 0, vI step] [own b (.cells (arr vU32 ws) e)] H (fun r M => r = .tuple #[] ∧ M = [own b (.cells (arr vU32 (roundA ws step)) e)]) := by
  refine Con.enter Tryd.func85 rfl rfl ?_
  refine SX.sr ?_
  refine SL.mv ⟨rfl, rfl, rfl, rfl⟩ rfl ?_
  refine SL.nx ?_
  refine SX.block ?_
  refine SX.mono (SX.loop (α := Nat) (fun i => i ≤ 4) (fun i => [(0, vP b 0), (1, vI step), (10, vI i)]) (fun i => own b (.cells (arr vU32 (roundN ws step i)) e) :: H) (fun i => 4 - i) (fun i D hp => ?_) 0 (by omega)) (by repeat' (first | exact trivial | refine And.intro rfl ?_))
  have hwl : (roundN ws step i).length = 16 := (roundN_length ws step i).trans hw
  refine SX.sr ?_
  refine SL.bin ⟨rfl, rfl, rfl, rfl⟩ rfl rfl Bin.ltI ?_
  refine SL.nx ?_
  refine SX.seq ?_
  refine SX.cond rfl (fun hc1 => ?_) (fun hc1 => ?_)
  · skip
    have hi : i < 4 := by simp at hc1; omega
    have h16 : ∀ k, k < 4 → ixA step i k < 16 := fun k hk => by unfold ixA; omega
    refine SX.skip ?_
    refine SQ.thn ?_
    refine SX.seq ?_
    refine SX.block ?_
    refine SX.sr ?_
    refine SL.mv ⟨rfl, rfl, rfl, rfl⟩ rfl ?_
    refine SL.asg ⟨rfl, rfl, rfl, rfl⟩ rfl ?_
    refine SL.nx ?_
    refine SX.sr ?_
    refine SL.alloc ⟨rfl, rfl, rfl, rfl⟩ ze170 (fun _ => trivial) fun b0 => ?_
    refine SL.nx ?_
    refine SX.seq ?_
    refine SX.sr ?_
    refine SL.mv ⟨rfl, rfl, rfl, rfl⟩ rfl ?_
    refine SL.nx ?_
    refine SX.block ?_
    refine SX.mono (SX.loop (α := Nat) (fun k => k ≤ 4) (fun k => [(0, vP b 0), (1, vI step), (4, vI i), (5, vP b0 0), (10, vI i), (13, vI k)]) (fun k => own b0 (.cells (arr vI (((List.range k).map fun j => ((ixA step i j : Nat) : Int)) ++ List.replicate (4 - k) 0)) 170) :: own b (.cells (arr vU32 (roundN ws step i)) e) :: H) (fun k => 4 - k) (fun k D hp => ?_) 0 (by omega)) (by repeat' (first | exact trivial | refine And.intro rfl ?_))
    refine SX.sr ?_
    refine SL.bin ⟨rfl, rfl, rfl, rfl⟩ rfl rfl Bin.ltI ?_
    refine SL.nx ?_
    refine SX.seq ?_
    refine SX.cond rfl (fun hc2 => ?_) (fun hc2 => ?_)
    · skip
      have hk : k < 4 := by simp at hc2; omega
      have hks : k * step ≤ 3 := Nat.le_trans (Nat.mul_le_mul_left k hs) (by omega)
      have hks2 : ((k : Int) * step) = ((k * step : Nat) : Int) := by simp
      refine SX.skip ?_
      refine SQ.thn ?_
      refine SX.seq ?_
      refine SX.block ?_
      refine SX.sr ?_
      refine SL.mv ⟨rfl, rfl, rfl, rfl⟩ rfl ?_
      refine SL.asg ⟨rfl, rfl, rfl, rfl⟩ rfl ?_
      refine SL.nx ?_
      refine SX.region ?_
      refine SL.mv ⟨rfl, rfl, rfl, rfl⟩ rfl ?_
      refine SL.mv ⟨rfl, rfl, rfl, rfl⟩ rfl ?_
      refine SL.bin ⟨rfl, rfl, rfl, rfl⟩ rfl rfl (Bin.mulI (by omega) (by omega)) ?_
      refine SL.mv ⟨rfl, rfl, rfl, rfl⟩ rfl ?_
      refine SL.mv ⟨rfl, rfl, rfl, rfl⟩ rfl ?_
      refine SL.mv ⟨rfl, rfl, rfl, rfl⟩ rfl ?_
      refine SL.bin ⟨rfl, rfl, rfl, rfl⟩ rfl rfl (Bin.mulI (by omega) (by omega)) ?_
      refine SL.bin ⟨rfl, rfl, rfl, rfl⟩ rfl rfl (Bin.addI (by omega) (by omega)) ?_
      refine SL.bin ⟨rfl, rfl, rfl, rfl⟩ rfl rfl (Bin.modI (by omega) (by omega)) ?_
      refine SL.bin ⟨rfl, rfl, rfl, rfl⟩ rfl rfl (Bin.addI (by omega) (by omega)) ?_
      refine SL.iaAp (n := k) ⟨rfl, rfl, rfl, rfl⟩ ty170 sz3 rfl rfl (by omega) (by omega) ?_
      refine SL.stA (f := vI) 0 ⟨rfl, rfl, rfl⟩ rfl rfl rfl sz3 rfl rfl (by simp; omega) trivial ?_
      rw [fill_set _ _ _ 4 k (by simp) hk]
      refine SL.nil ?_
      refine SQ.blk ?_
      refine SQ.thn ?_
      refine SX.region ?_
      refine SL.bin ⟨rfl, rfl, rfl, rfl⟩ rfl rfl (Bin.addI (by omega) (by omega)) ?_
      refine SL.mv ⟨rfl, rfl, rfl, rfl⟩ rfl ?_
      refine SL.nil ?_
      refine SQ.again (k + 1) (by omega) (by omega) (by repeat' (first | exact trivial | refine And.intro rfl ?_)) (fun w hw => ?_)
      have e1 : (4 * (k : Int) + ((i : Int) + (k : Int) * step) % 4) = ((ixA step i k : Nat) : Int) := by simp [ixA]
      simp only [List.range_succ, List.map_append, List.map_cons, List.map_nil]
      rw [e1] at hw
      exact hw
    · skip
      have hk : k = 4 := by simp at hc2; omega
      subst hk
      have hat : ((List.range 4).map fun j => ((ixA step i j : Nat) : Int)) ++ List.replicate (4 - 4) 0 = [((ixA step i 0 : Nat) : Int), ((ixA step i 1 : Nat) : Int), ((ixA step i 2 : Nat) : Int), ((ixA step i 3 : Nat) : Int)] := by rfl
      rw [hat]
      refine SX.exit ?_
      refine SQ.thnE ?_
      refine SQ.lpE ?_
      refine SQ.blkE ?_
      refine SQ.thn ?_
      generalize hq : (⟨(roundN ws step i).getD (ixA step i 0) 0, (roundN ws step i).getD (ixA step i 1) 0, (roundN ws step i).getD (ixA step i 2) 0, (roundN ws step i).getD (ixA step i 3) 0⟩ : Q4) = q
      refine SX.meet (α := Nat) (fun _ => True) (fun x => [(0, vP b 0), (1, vI step), (5, vP b0 0), (7, vP x 0), (10, vI i)]) (fun x => own x (.cells (arr vU32 q.quarter.list) 171) :: own b0 (.cells (arr vI [((ixA step i 0 : Nat) : Int), ((ixA step i 1 : Nat) : Int), ((ixA step i 2 : Nat) : Int), ((ixA step i 3 : Nat) : Int)]) 170) :: own b (.cells (arr vU32 (roundN ws step i)) e) :: H) ?_ (fun x hx => ?_)
      · skip
        refine SX.drawI mix [0, 1] (Pl.ap [(true, 0), (true, 1), (true, 2), (true, 3), (true, 4), (true, 5), (true, 6), (true, 7), (true, 8), (true, 9), (true, 10), (true, 11), (true, 12), (true, 13), (true, 14), (true, 15), (true, 16), (true, 17), (true, 18), (true, 19), (true, 20), (true, 21), (true, 22), (true, 23)] (.alt 24 (Pl.of [(false, 25), (false, 26)]) (.cons (false, 25) (Pl.of [(false, 24), (false, 26)])))) (by kernel_rfl) ?_
        refine SL.mv ⟨rfl, rfl, rfl, rfl⟩ rfl ?_
        refine SL.iaAp (n := 0) ⟨rfl, rfl, rfl, rfl⟩ ty170 sz3 rfl rfl (by omega) (by omega) ?_
        refine SL.ld ⟨rfl, rfl, rfl, rfl⟩ sc3 rfl (cell_own 0 rfl rfl) ?_
        refine SL.nchk ⟨rfl, rfl, rfl, rfl⟩ rfl ?_
        refine SL.iaAp (n := ixA step i 0) ⟨rfl, rfl, rfl, rfl⟩ ty154 sz22 rfl rfl rfl (h16 _ (by omega)) ?_
        refine SL.ld ⟨rfl, rfl, rfl, rfl⟩ sc22 rfl (cell_own 1 rfl (arr_get (get_getD 0 (by rw [hwl]; exact h16 _ (by omega))))) ?_
        refine SL.mv ⟨rfl, rfl, rfl, rfl⟩ rfl ?_
        refine SL.iaAp (n := 1) ⟨rfl, rfl, rfl, rfl⟩ ty170 sz3 rfl rfl (by omega) (by omega) ?_
        refine SL.ld ⟨rfl, rfl, rfl, rfl⟩ sc3 rfl (cell_own 0 rfl rfl) ?_
        refine SL.nchk ⟨rfl, rfl, rfl, rfl⟩ rfl ?_
        refine SL.iaAp (n := ixA step i 1) ⟨rfl, rfl, rfl, rfl⟩ ty154 sz22 rfl rfl rfl (h16 _ (by omega)) ?_
        refine SL.ld ⟨rfl, rfl, rfl, rfl⟩ sc22 rfl (cell_own 1 rfl (arr_get (get_getD 0 (by rw [hwl]; exact h16 _ (by omega))))) ?_
        refine SL.mv ⟨rfl, rfl, rfl, rfl⟩ rfl ?_
        refine SL.iaAp (n := 2) ⟨rfl, rfl, rfl, rfl⟩ ty170 sz3 rfl rfl (by omega) (by omega) ?_
        refine SL.ld ⟨rfl, rfl, rfl, rfl⟩ sc3 rfl (cell_own 0 rfl rfl) ?_
        refine SL.nchk ⟨rfl, rfl, rfl, rfl⟩ rfl ?_
        refine SL.iaAp (n := ixA step i 2) ⟨rfl, rfl, rfl, rfl⟩ ty154 sz22 rfl rfl rfl (h16 _ (by omega)) ?_
        refine SL.ld ⟨rfl, rfl, rfl, rfl⟩ sc22 rfl (cell_own 1 rfl (arr_get (get_getD 0 (by rw [hwl]; exact h16 _ (by omega))))) ?_
        refine SL.mv ⟨rfl, rfl, rfl, rfl⟩ rfl ?_
        refine SL.iaAp (n := 3) ⟨rfl, rfl, rfl, rfl⟩ ty170 sz3 rfl rfl (by omega) (by omega) ?_
        refine SL.ld ⟨rfl, rfl, rfl, rfl⟩ sc3 rfl (cell_own 0 rfl rfl) ?_
        refine SL.nchk ⟨rfl, rfl, rfl, rfl⟩ rfl ?_
        refine SL.iaAp (n := ixA step i 3) ⟨rfl, rfl, rfl, rfl⟩ ty154 sz22 rfl rfl rfl (h16 _ (by omega)) ?_
        refine SL.ld ⟨rfl, rfl, rfl, rfl⟩ sc22 rfl (cell_own 1 rfl (arr_get (get_getD 0 (by rw [hwl]; exact h16 _ (by omega))))) ?_
        refine SL.two ?_ ?_
        · skip
          refine SL.call (vs := [_, _, _, _]) (Hin := []) ⟨rfl, rfl, rfl, rfl⟩ rfl ⟨rfl, rfl, rfl, rfl, trivial⟩ cal93 (by rw [← hq]; rfl) rfl (c_arx_Quarter q) ?_
          rintro _ _ ⟨rfl, rfl⟩
          refine ⟨⟨⟨0, rfl⟩, ⟨1, rfl⟩, trivial⟩, ?_⟩
          refine SL.alloc ⟨rfl, rfl, rfl, rfl⟩ ze171 (fun _ => ⟨⟨1, rfl⟩, ⟨2, rfl⟩, trivial⟩) fun b1 => ?_
          refine SL.stF 0 ⟨rfl, rfl, rfl⟩ rfl rfl rfl sz171 rfl rfl (arr_one (fun _ => rfl) q.quarter.list) ⟨⟨1, rfl⟩, ⟨2, rfl⟩, trivial⟩ ?_
          refine SL.nil ?_
          exact SQ.mid b1 trivial (by repeat' (first | exact trivial | refine And.intro rfl ?_))
        · skip
          refine SL.alloc ⟨rfl, rfl, rfl, rfl⟩ ze171 (fun _ => ⟨⟨1, rfl⟩, ⟨2, rfl⟩, trivial⟩) fun b1 => ?_
          refine SL.call (vs := [_, _, _, _]) (Hin := []) ⟨rfl, rfl, rfl, rfl⟩ rfl ⟨rfl, rfl, rfl, rfl, trivial⟩ cal93 (by rw [← hq]; rfl) rfl (c_arx_Quarter q) ?_
          rintro _ _ ⟨rfl, rfl⟩
          refine ⟨⟨⟨1, rfl⟩, ⟨2, rfl⟩, trivial⟩, ?_⟩
          refine SL.stF 0 ⟨rfl, rfl, rfl⟩ rfl rfl rfl sz171 rfl rfl (arr_one (fun _ => rfl) q.quarter.list) ⟨⟨1, rfl⟩, ⟨2, rfl⟩, trivial⟩ ?_
          refine SL.nil ?_
          exact SQ.mid b1 trivial (by repeat' (first | exact trivial | refine And.intro rfl ?_))
      -- live: (0, vP b 0), (5, vP b0 0), (10, vI i)
      · skip
        refine SX.sr ?_
        refine SL.ldA (q.quarter.list.map vU32) ⟨rfl, rfl, rfl, rfl⟩ ag171 rfl rfl (cells_all 0 rfl) ?_
        refine SL.mv ⟨rfl, rfl, rfl, rfl⟩ rfl ?_
        refine SL.nx ?_
        refine SX.block ?_
        refine SX.mono (SX.loop (α := Nat) (fun k => k ≤ 4) (fun k => [(0, vP b 0), (1, vI step), (5, vP b0 0), (10, vI i), (53, .agg (arr vU32 q.quarter.list)), (54, vI k)]) (fun k => own x (.cells (arr vU32 q.quarter.list) 171) :: own b0 (.cells (arr vI [((ixA step i 0 : Nat) : Int), ((ixA step i 1 : Nat) : Int), ((ixA step i 2 : Nat) : Int), ((ixA step i 3 : Nat) : Int)]) 170) :: own b (.cells (arr vU32 (setsN (roundN ws step i) (ixA step i) q.quarter.list k)) e) :: H) (fun k => 4 - k) (fun k D hp => ?_) 0 (by omega)) (by repeat' (first | exact trivial | refine And.intro rfl ?_))
        refine SX.sr ?_
        refine SL.bin ⟨rfl, rfl, rfl, rfl⟩ rfl rfl Bin.ltI ?_
        refine SL.nx ?_
        refine SX.seq ?_
        refine SX.cond rfl (fun hc3 => ?_) (fun hc3 => ?_)
        · skip
          have hk : k < 4 := by simp at hc3; omega
          have hix : [((ixA step i 0 : Nat) : Int), ((ixA step i 1 : Nat) : Int), ((ixA step i 2 : Nat) : Int), ((ixA step i 3 : Nat) : Int)][k]? = some ((ixA step i k : Nat) : Int) := by
            rcases (by omega : k = 0 ∨ k = 1 ∨ k = 2 ∨ k = 3) with rfl | rfl | rfl | rfl <;> rfl
          have hsl : (setsN (roundN ws step i) (ixA step i) q.quarter.list k).length = 16 := (setsN_length ..).trans hwl
          refine SX.skip ?_
          refine SQ.thn ?_
          refine SX.seq ?_
          refine SX.block ?_
          refine SX.sr ?_
          refine SL.mv ⟨rfl, rfl, rfl, rfl⟩ rfl ?_
          refine SL.ixA (i := k) ⟨rfl, rfl, rfl, rfl⟩ ty171 sc22 rfl rfl (by omega) (by omega) (arr_get (get_getD 0 hk)) ?_
          refine SL.asg ⟨rfl, rfl, rfl, rfl⟩ rfl ?_
          refine SL.asg ⟨rfl, rfl, rfl, rfl⟩ rfl ?_
          refine SL.nx ?_
          refine SX.drawI mix [1] (Pl.ap [(true, 0), (true, 1), (true, 2), (true, 3), (true, 4), (true, 5), (true, 6)] (.last 7 .nil)) (by kernel_rfl) ?_
          refine SL.mv ⟨rfl, rfl, rfl, rfl⟩ rfl ?_
          refine SL.mv ⟨rfl, rfl, rfl, rfl⟩ rfl ?_
          refine SL.iaAp (n := k) ⟨rfl, rfl, rfl, rfl⟩ ty170 sz3 rfl rfl (by omega) (by omega) ?_
          refine SL.ld ⟨rfl, rfl, rfl, rfl⟩ sc3 rfl (cell_own 0 rfl (arr_get hix)) ?_
          refine SL.mv ⟨rfl, rfl, rfl, rfl⟩ rfl ?_
          refine SL.nchk ⟨rfl, rfl, rfl, rfl⟩ rfl ?_
          refine SL.iaAp (n := ixA step i k) ⟨rfl, rfl, rfl, rfl⟩ ty154 sz22 rfl rfl rfl (h16 _ hk) ?_
          refine SL.last ?_
          refine SL.stA (f := vU32) 2 ⟨rfl, rfl, rfl⟩ rfl rfl rfl sz22 rfl rfl (by rw [hsl]; exact h16 _ hk) trivial ?_
          refine SL.nil ?_
          refine SQ.blk ?_
          refine SQ.thn ?_
          refine SX.region ?_
          refine SL.bin ⟨rfl, rfl, rfl, rfl⟩ rfl rfl (Bin.addI (by omega) (by omega)) ?_
          refine SL.mv ⟨rfl, rfl, rfl, rfl⟩ rfl ?_
          refine SL.nil ?_
          exact SQ.again (k + 1) (by omega) (by omega) (by repeat' (first | exact trivial | refine And.intro rfl ?_))
        · skip
          have hk : k = 4 := by simp at hc3; omega
          subst hk
          refine SX.exit ?_
          refine SQ.thnE ?_
          refine SQ.lpE ?_
          refine SQ.blkE ?_
          refine SQ.blk ?_
          refine SQ.thn ?_
          refine SX.region ?_
          refine SL.bin ⟨rfl, rfl, rfl, rfl⟩ rfl rfl (Bin.addI (by omega) (by omega)) ?_
          refine SL.mv ⟨rfl, rfl, rfl, rfl⟩ rfl ?_
          refine SL.nil ?_
          refine SQ.again (i + 1) (by omega) (by omega) (by repeat' (first | exact trivial | refine And.intro rfl ?_)) (fun w hw => ?_)
          have e1 : setsN (roundN ws step i) (ixA step i) q.quarter.list 4 = roundN ws step (i + 1) := by rw [roundN, qrA, hq]
          rw [e1] at hw
          exact hw.skip [_, _]
  · skip
    have hi : i = 4 := by simp at hc1; omega
    subst hi
    refine SX.exit ?_
    refine SQ.thnE ?_
    refine SQ.lpE ?_
    refine SQ.blkE ?_
    exact SQ.fend (res0 rfl) (ret_of (M := [_]) ⟨rfl, rfl⟩ fun _ h => h)

end Go.Proofs.YtddjneafgddlcaaDoor

/- Walks of ChaCha20's block, and of a text under the stream. Condition: a key of 32 bytes, a nonce of 12, texts of at most 2^20 bytes. -/
namespace Go.Proofs.YtddjneafgddlcaaDoor
open Go
variable {K : Nat → Prop} {w0 : World} {H : List Chunk}

theorem zip_take (W B : List UInt32) (i : Nat) (h1 : i < W.length) (h2 : i < B.length) : (List.zipWith (· + ·) W B).take (i + 1) = (List.zipWith (· + ·) W B).take i ++ [W.getD i 0 + B.getD i 0] := by
  rw [List.take_add_one, List.getElem?_eq_getElem (by simp; omega)]
  simp [List.getD_eq_getElem?_getD, h1, h2]
theorem ofNat_succ (j : Nat) : UInt32.ofNat j + 1 = UInt32.ofNat (j + 1) := by
  apply UInt32.toNat_inj.1
  simp
theorem xorA_step (key nonce s : List UInt8) (n : Nat) (h : n < s.length) : (xorA key nonce s).take (n + 1) = (xorA key nonce s).take n ++ [s.getD n 0 ^^^ streamA key nonce n] := by
  rw [List.take_add_one, List.getElem?_eq_getElem (by rw [xorA_length]; exact h)]
  simp [xorA]
theorem c_arx_Block (key nonce : List UInt8) (counter : UInt32) (hk : key.length = 32) (hn : nonce.length = 12) : Con Tryd.prog K w0 77 [vS key, vU32 counter, vS nonce] [] H (fun r M => r = .tuple #[vS (blockA key counter nonce), vI 0] ∧ M = []) := by
  refine Con.enter Tryd.func77 rfl rfl ?_
  refine SX.sr ?_
  refine SL.asg ⟨rfl, rfl, rfl, rfl⟩ rfl ?_
  refine SL.asg ⟨rfl, rfl, rfl, rfl⟩ rfl ?_
  refine SL.nx ?_
  refine SX.seq ?_
  refine SX.sr ?_
  refine SL.mv ⟨rfl, rfl, rfl, rfl⟩ rfl ?_
  refine SL.lenS ⟨rfl, rfl, rfl, rfl⟩ ty9 rfl ?_
  refine SL.bin ⟨rfl, rfl, rfl, rfl⟩ rfl rfl Bin.neI ?_
  refine SL.mv ⟨rfl, rfl, rfl, rfl⟩ rfl ?_
  refine SL.or (c := (!decide ((nonce.length : Int) = 12))) 16 4 20 rfl (fun hb k => ?_) (fun hb k => ?_) ?_
  · skip
    refine SL.pass rfl rfl rfl ?_
    refine SL.pass rfl rfl rfl ?_
    refine SL.pass rfl rfl rfl ?_
    refine SL.pk ⟨rfl, rfl, rfl, rfl⟩ rfl rfl ?_
    exact k.mono (by repeat' (first | exact trivial | refine And.intro rfl ?_))
  · skip
    refine SL.mv ⟨rfl, rfl, rfl, rfl⟩ rfl ?_
    refine SL.lenS ⟨rfl, rfl, rfl, rfl⟩ ty9 rfl ?_
    refine SL.bin ⟨rfl, rfl, rfl, rfl⟩ rfl rfl Bin.neI ?_
    refine SL.pk ⟨rfl, rfl, rfl, rfl⟩ rfl rfl ?_
    exact k.mono (by repeat' (first | exact trivial | refine And.intro rfl ?_))
  refine SL.nx ?_
  refine SX.cond rfl (fun hc1 => absurd hc1 (by simp [hk, hn])) (fun hc1 => ?_)
  refine SX.skip ?_
  refine SQ.thn ?_
  refine SX.sr ?_
  refine SL.mv ⟨rfl, rfl, rfl, rfl⟩ rfl ?_
  refine SL.mv ⟨rfl, rfl, rfl, rfl⟩ rfl ?_
  refine SL.mv ⟨rfl, rfl, rfl, rfl⟩ rfl ?_
  refine SL.call (vs := [_, _, _]) (Hin := []) ⟨rfl, rfl, rfl, rfl⟩ rfl ⟨rfl, rfl, rfl, trivial⟩ cal84 rfl rfl (c_arx_begun key nonce counter hk hn) ?_
  rintro _ _ ⟨rfl, rfl⟩
  refine ⟨trivial, ?_⟩
  have hB := begunA_length (counter := counter) hk hn
  generalize hBe : begunA key counter nonce = B at hB
  refine SL.alloc ⟨rfl, rfl, rfl, rfl⟩ ze154 (fun _ => trivial) fun b0 => ?_
  refine SL.stF (c' := arr vU32 B) 0 ⟨rfl, rfl, rfl⟩ rfl rfl rfl sz154 (by rw [arr_size]; exact hB) rfl (arr_one (fun _ => rfl) B) trivial ?_
  refine SL.nx ?_
  refine SX.sr ?_
  refine SL.alloc ⟨rfl, rfl, rfl, rfl⟩ ze154 (fun _ => trivial) fun b1 => ?_
  refine SL.nx ?_
  refine SX.seq ?_
  refine SX.drawI mix [] (Pl.ap [(true, 0), (true, 1)] (.last 2 .nil)) (by kernel_rfl) ?_
  refine SL.slA ⟨rfl, rfl, rfl, rfl⟩ ty154 sz22 rfl (by decide) ?_
  refine SL.slA ⟨rfl, rfl, rfl, rfl⟩ ty154 sz22 rfl (by decide) ?_
  refine SL.last ?_
  refine SL.cpA (f := vU32) (xs := List.replicate 16 0) (ys := B) 0 1 ⟨rfl, rfl, rfl, rfl⟩ ty156 sz22 rfl rfl rfl rfl rfl hB (fun _ => rfl) trivial ?_
  refine SL.nx ?_
  refine SX.seq ?_
  refine SX.sr ?_
  refine SL.mv ⟨rfl, rfl, rfl, rfl⟩ rfl ?_
  refine SL.nx ?_
  refine SX.block ?_
  refine SX.mono (SX.loop (α := Nat) (fun i => i ≤ 10) (fun i => [(8, vP b0 0), (9, vP b1 0), (28, vI i)]) (fun i => own b1 (.cells (arr vU32 (tenN B i)) 154) :: own b0 (.cells (arr vU32 B) 154) :: H) (fun i => 10 - i) (fun i D hp => ?_) 0 (by omega)) (by repeat' (first | exact trivial | refine And.intro rfl ?_))
  have htl := (tenN_length B i).trans hB
  refine SX.sr ?_
  refine SL.bin ⟨rfl, rfl, rfl, rfl⟩ rfl rfl Bin.ltI ?_
  refine SL.nx ?_
  refine SX.seq ?_
  refine SX.cond rfl (fun hc2 => ?_) (fun hc2 => ?_)
  · skip
    have hi : i < 10 := by simp at hc2; omega
    refine SX.skip ?_
    refine SQ.thn ?_
    refine SX.seq ?_
    refine SX.block ?_
    refine SX.sr ?_
    refine SL.call (vs := [_, _]) (Hin := [_]) ⟨rfl, rfl, rfl, rfl⟩ rfl ⟨rfl, rfl, trivial⟩ cal85 rfl rfl (c_arx_round (tenN B i) 0 b1 154 htl (by omega)) ?_
    rintro _ _ ⟨rfl, rfl⟩
    refine ⟨trivial, ?_⟩
    refine SL.nx ?_
    refine SX.region ?_
    refine SL.call (vs := [_, _]) (Hin := [_]) ⟨rfl, rfl, rfl, rfl⟩ rfl ⟨rfl, rfl, trivial⟩ cal85 rfl rfl (c_arx_round (roundA (tenN B i) 0) 1 b1 154 ((roundN_length ..).trans htl) (by omega)) ?_
    rintro _ _ ⟨rfl, rfl⟩
    refine ⟨trivial, ?_⟩
    refine SL.nil ?_
    refine SQ.blk ?_
    refine SQ.thn ?_
    refine SX.region ?_
    refine SL.bin ⟨rfl, rfl, rfl, rfl⟩ rfl rfl (Bin.addI (by omega) (by omega)) ?_
    refine SL.mv ⟨rfl, rfl, rfl, rfl⟩ rfl ?_
    refine SL.nil ?_
    exact SQ.again (i + 1) (by omega) (by omega) (by repeat' (first | exact trivial | refine And.intro rfl ?_))
  · skip
    have hi : i = 10 := by simp at hc2; omega
    subst hi
    generalize hW : tenN B 10 = W at htl
    refine SX.exit ?_
    refine SQ.thnE ?_
    refine SQ.lpE ?_
    refine SQ.blkE ?_
    refine SQ.thn ?_
    refine SX.sr ?_
    refine SL.asg ⟨rfl, rfl, rfl, rfl⟩ rfl ?_
    refine SL.nx ?_
    refine SX.seq ?_
    refine SX.sr ?_
    refine SL.ldA (W.map vU32) ⟨rfl, rfl, rfl, rfl⟩ ag154 (by simp [htl]) rfl (cells_all 0 rfl) ?_
    refine SL.mv ⟨rfl, rfl, rfl, rfl⟩ rfl ?_
    refine SL.nx ?_
    refine SX.block ?_
    refine SX.nilRow 5 1 ?_
    refine SX.mono (SX.loop (α := Nat × Value) (fun x => x.1 ≤ 16) (fun x => [(8, vP b0 0), (10, x.2), (33, .agg (arr vU32 W)), (34, vI x.1)]) (fun x => rowC 5 1 x.2 (4 * x.1) ((((List.zipWith (· + ·) W B).take x.1).flatMap le32).map fun b => vU8 b) :: own b1 (.cells (arr vU32 W) 154) :: own b0 (.cells (arr vU32 B) 154) :: H) (fun x => 16 - x.1) (fun x D hp => ?_) (0, .slice none 0 0) (by decide)) (by repeat' (first | exact trivial | refine And.intro rfl ?_))
    obtain ⟨i, v⟩ := x
    simp only at hp
    refine SX.sr ?_
    refine SL.bin ⟨rfl, rfl, rfl, rfl⟩ rfl rfl Bin.ltI ?_
    refine SL.nx ?_
    refine SX.seq ?_
    refine SX.cond rfl (fun hc3 => ?_) (fun hc3 => ?_)
    · skip
      have hi : i < 16 := by simp at hc3; omega
      refine SX.skip ?_
      refine SQ.thn ?_
      refine SX.seq ?_
      refine SX.block ?_
      refine SX.sr ?_
      refine SL.mv ⟨rfl, rfl, rfl, rfl⟩ rfl ?_
      refine SL.ixA (i := i) ⟨rfl, rfl, rfl, rfl⟩ ty154 sc22 rfl rfl (by omega) (by omega) (arr_get (get_getD 0 (by omega))) ?_
      refine SL.asg ⟨rfl, rfl, rfl, rfl⟩ rfl ?_
      refine SL.asg ⟨rfl, rfl, rfl, rfl⟩ rfl ?_
      refine SL.nx ?_
      refine SX.sr ?_
      refine SL.mv ⟨rfl, rfl, rfl, rfl⟩ rfl ?_
      refine SL.mv ⟨rfl, rfl, rfl, rfl⟩ rfl ?_
      refine SL.iaAp (n := i) ⟨rfl, rfl, rfl, rfl⟩ ty154 sz22 rfl rfl (by omega) (by omega) ?_
      refine SL.ld ⟨rfl, rfl, rfl, rfl⟩ sc22 rfl (cell_own 2 rfl (arr_get (get_getD 0 (by omega)))) ?_
      refine SL.bin ⟨rfl, rfl, rfl, rfl⟩ rfl rfl Bin.add32 ?_
      refine SL.asg ⟨rfl, rfl, rfl, rfl⟩ rfl ?_
      refine SL.nx ?_
      refine SX.region ?_
      refine SL.mv ⟨rfl, rfl, rfl, rfl⟩ rfl ?_
      refine SL.mv ⟨rfl, rfl, rfl, rfl⟩ rfl ?_
      refine SL.cv ⟨rfl, rfl, rfl, rfl⟩ rfl (Cv.u32_8 ty22 ty5) ?_
      refine SL.mv ⟨rfl, rfl, rfl, rfl⟩ rfl ?_
      refine SL.bin ⟨rfl, rfl, rfl, rfl⟩ rfl rfl (Bin.shr32 (n := 8)) ?_
      refine SL.cv ⟨rfl, rfl, rfl, rfl⟩ rfl (Cv.u32_8 ty22 ty5) ?_
      refine SL.mv ⟨rfl, rfl, rfl, rfl⟩ rfl ?_
      refine SL.bin ⟨rfl, rfl, rfl, rfl⟩ rfl rfl (Bin.shr32 (n := 16)) ?_
      refine SL.cv ⟨rfl, rfl, rfl, rfl⟩ rfl (Cv.u32_8 ty22 ty5) ?_
      refine SL.mv ⟨rfl, rfl, rfl, rfl⟩ rfl ?_
      refine SL.bin ⟨rfl, rfl, rfl, rfl⟩ rfl rfl (Bin.shr32 (n := 24)) ?_
      refine SL.cv ⟨rfl, rfl, rfl, rfl⟩ rfl (Cv.u32_8 ty22 ty5) ?_
      refine SL.bsl [_, _, _, _] ⟨rfl, rfl, rfl, rfl⟩ ty51 sz5 ze5 ⟨rfl, rfl, rfl, rfl, trivial⟩ rfl rfl rfl (by simp [Value.cells]) rfl rfl (fun _ => trivial) fun b2 => ?_
      refine SL.app 1 ⟨rfl, rfl, rfl, rfl⟩ (m := 4) (news := (le32 (W.getD i 0 + B.getD i 0)).map fun b => vU8 b) ty51 sz5 by5 ze5 rfl (by decide) rfl rfl rfl rfl (cells_all 0 rfl) (by intro u hu; obtain ⟨x, _, rfl⟩ := List.mem_map.1 hu; rfl) (by omega) (by omega) (fun _ => trivial) fun v' => ?_
      refine SL.asg ⟨rfl, rfl, rfl, rfl⟩ rfl ?_
      refine SL.nil ?_
      refine SQ.blk ?_
      refine SQ.thn ?_
      refine SX.region ?_
      refine SL.bin ⟨rfl, rfl, rfl, rfl⟩ rfl rfl (Bin.addI (by omega) (by omega)) ?_
      refine SL.mv ⟨rfl, rfl, rfl, rfl⟩ rfl ?_
      refine SL.nil ?_
      refine SQ.again (i + 1, v') (by simp only; omega) (by simp only; omega) (by repeat' (first | exact trivial | refine And.intro rfl ?_)) (fun w hw => ?_)
      simp only
      rw [zip_take W B i (by omega) (by omega), List.flatMap_append, List.map_append]
      simp only [List.flatMap_cons, List.flatMap_nil, List.append_nil]
      exact hw.skip [_]
    · skip
      have hi : i = 16 := by simp at hc3; omega
      subst hi
      have ht : (List.zipWith (· + ·) W B).take 16 = List.zipWith (· + ·) W B := List.take_of_length_le (by simp; omega)
      rw [ht]
      refine SX.exit ?_
      refine SQ.thnE ?_
      refine SQ.lpE ?_
      refine SQ.blkE ?_
      refine SQ.thn ?_
      refine SX.sr ?_
      refine SL.mv ⟨rfl, rfl, rfl, rfl⟩ rfl ?_
      refine SL.btsR (s := (List.zipWith (· + ·) W B).flatMap le32) 0 ⟨rfl, rfl, rfl, rfl⟩ ty51 ty5 ty9 rfl rfl ?_
      refine SL.asg ⟨rfl, rfl, rfl, rfl⟩ rfl ?_
      refine SL.asg ⟨rfl, rfl, rfl, rfl⟩ rfl ?_
      refine SL.nx ?_
      refine SX.ret ?_
      exact SQ.fret (res2 rfl rfl rfl) (ret_of (M := []) ⟨by rw [blockA, outA, hBe, hW], rfl⟩ fun _ h => h.skip [_, _, _])

theorem c_arx_Xor (key nonce s : List UInt8) (hk : key.length = 32) (hn : nonce.length = 12) (hs : s.length ≤ 1048576) : Con Tryd.prog K w0 65 [vS key, vS nonce, vS s] [] H (fun r M => r = .tuple #[vS (xorA key nonce s), vI 0] ∧ M = []) := by
  refine Con.enter Tryd.func65 rfl rfl ?_
  refine SX.sr ?_
  refine SL.asg ⟨rfl, rfl, rfl, rfl⟩ rfl ?_
  refine SL.asg ⟨rfl, rfl, rfl, rfl⟩ rfl ?_
  refine SL.nx ?_
  refine SX.seq ?_
  refine SX.sr ?_
  refine SL.mv ⟨rfl, rfl, rfl, rfl⟩ rfl ?_
  refine SL.lenS ⟨rfl, rfl, rfl, rfl⟩ ty9 rfl ?_
  refine SL.bin ⟨rfl, rfl, rfl, rfl⟩ rfl rfl Bin.neI ?_
  refine SL.mv ⟨rfl, rfl, rfl, rfl⟩ rfl ?_
  refine SL.or (c := (!decide ((nonce.length : Int) = 12))) 17 4 21 rfl (fun hb k => ?_) (fun hb k => ?_) ?_
  · skip
    refine SL.pass rfl rfl rfl ?_
    refine SL.pass rfl rfl rfl ?_
    refine SL.pass rfl rfl rfl ?_
    refine SL.pk ⟨rfl, rfl, rfl, rfl⟩ rfl rfl ?_
    exact k.mono (by repeat' (first | exact trivial | refine And.intro rfl ?_))
  · skip
    refine SL.mv ⟨rfl, rfl, rfl, rfl⟩ rfl ?_
    refine SL.lenS ⟨rfl, rfl, rfl, rfl⟩ ty9 rfl ?_
    refine SL.bin ⟨rfl, rfl, rfl, rfl⟩ rfl rfl Bin.neI ?_
    refine SL.pk ⟨rfl, rfl, rfl, rfl⟩ rfl rfl ?_
    exact k.mono (by repeat' (first | exact trivial | refine And.intro rfl ?_))
  refine SL.mv ⟨rfl, rfl, rfl, rfl⟩ rfl ?_
  refine SL.or (c := decide ((1048576 : Int) < s.length)) 22 4 26 rfl (fun hb k => ?_) (fun hb k => ?_) ?_
  · skip
    refine SL.pass rfl rfl rfl ?_
    refine SL.pass rfl rfl rfl ?_
    refine SL.pass rfl rfl rfl ?_
    refine SL.pk ⟨rfl, rfl, rfl, rfl⟩ rfl rfl ?_
    exact k.mono (by repeat' (first | exact trivial | refine And.intro rfl ?_))
  · skip
    refine SL.mv ⟨rfl, rfl, rfl, rfl⟩ rfl ?_
    refine SL.lenS ⟨rfl, rfl, rfl, rfl⟩ ty9 rfl ?_
    refine SL.bin ⟨rfl, rfl, rfl, rfl⟩ rfl rfl Bin.gtI ?_
    refine SL.pk ⟨rfl, rfl, rfl, rfl⟩ rfl rfl ?_
    exact k.mono (by repeat' (first | exact trivial | refine And.intro rfl ?_))
  refine SL.nx ?_
  refine SX.cond rfl (fun hc1 => absurd hc1 (by simp [hk, hn]; omega)) (fun hc1 => ?_)
  refine SX.skip ?_
  refine SQ.thn ?_
  refine SX.sr ?_
  refine SL.alloc ⟨rfl, rfl, rfl, rfl⟩ ze95 (fun _ => trivial) fun b0 => ?_
  refine SL.nx ?_
  refine SX.seq ?_
  refine SX.sr ?_
  refine SL.asg ⟨rfl, rfl, rfl, rfl⟩ rfl ?_
  refine SL.nx ?_
  refine SX.block ?_
  refine SX.nilRow 5 1 ?_
  refine SX.pick [1, 0] 2 ?_
  have hxl := xorA_length key nonce s
  refine SX.mono (SX.loop (α := Nat × Value × Value) (fun x => 64 * x.1 < s.length + 64 ∧ adr b0 x.2.1) (fun x => [(0, vS key), (1, vS nonce), (2, vS (s.drop (64 * x.1))), (8, vP b0 0), (9, vU32 (UInt32.ofNat x.1))]) (fun x => own b0 (.cells #[x.2.1, x.2.2] 95) :: rowC 5 1 x.2.2 (min (64 * x.1) s.length) (((xorA key nonce s).take (min (64 * x.1) s.length)).map fun b => vU8 b) :: H) (fun x => s.length + 64 - 64 * x.1) (fun x D hp => ?_) (0, .pointer none, .slice none 0 0) ⟨by simp, .inl rfl⟩) ⟨rfl, rfl, rfl, rfl, rfl, trivial⟩
  obtain ⟨j, p, v⟩ := x
  obtain ⟨hj, hadr⟩ := hp
  simp only at hj hadr
  refine SX.seq ?_
  refine SX.sr ?_
  refine SL.mv ⟨rfl, rfl, rfl, rfl⟩ rfl ?_
  refine SL.bin ⟨rfl, rfl, rfl, rfl⟩ rfl rfl (Bin.neS (t := [])) ?_
  refine SL.nx ?_
  refine SX.cond rfl (fun hc2 => ?_) (fun hc2 => ?_)
  · skip
    have hjl : 64 * j < s.length := by simp at hc2; omega
    have hmin : min (64 * j) s.length = 64 * j := by omega
    rw [hmin]
    refine SX.skip ?_
    refine SQ.thn ?_
    refine SX.seq ?_
    refine SX.block ?_
    refine SX.sr ?_
    refine SL.mv ⟨rfl, rfl, rfl, rfl⟩ rfl ?_
    refine SL.mv ⟨rfl, rfl, rfl, rfl⟩ rfl ?_
    refine SL.mv ⟨rfl, rfl, rfl, rfl⟩ rfl ?_
    refine SL.call (vs := [_, _, _]) (Hin := []) ⟨rfl, rfl, rfl, rfl⟩ rfl ⟨rfl, rfl, rfl, trivial⟩ cal77 rfl rfl (c_arx_Block key nonce (UInt32.ofNat j) hk hn) ?_
    rintro _ _ ⟨rfl, rfl⟩
    refine ⟨trivial, ?_⟩
    have hbl := blockA_length (counter := UInt32.ofNat j) hk hn
    refine SL.mv ⟨rfl, rfl, rfl, rfl⟩ rfl ?_
    refine SL.ext ⟨rfl, rfl, rfl, rfl⟩ rfl rfl ?_
    refine SL.ext ⟨rfl, rfl, rfl, rfl⟩ rfl rfl ?_
    refine SL.asg ⟨rfl, rfl, rfl, rfl⟩ rfl ?_
    refine SL.asg ⟨rfl, rfl, rfl, rfl⟩ rfl ?_
    refine SL.nx ?_
    refine SX.sr ?_
    refine SL.mv ⟨rfl, rfl, rfl, rfl⟩ rfl ?_
    refine SL.mv ⟨rfl, rfl, rfl, rfl⟩ rfl ?_
    refine SL.lenS ⟨rfl, rfl, rfl, rfl⟩ ty9 rfl ?_
    refine SL.mv ⟨rfl, rfl, rfl, rfl⟩ rfl ?_
    refine SL.lenS ⟨rfl, rfl, rfl, rfl⟩ ty9 rfl ?_
    refine SL.minI ⟨rfl, rfl, rfl, rfl⟩ rfl rfl ?_
    refine SL.slSh (min (s.length - 64 * j) 64) ⟨rfl, rfl, rfl, rfl⟩ ty9 rfl rfl (by simp; omega) (by simp; omega) ?_
    refine SL.asg ⟨rfl, rfl, rfl, rfl⟩ rfl ?_
    refine SL.nx ?_
    refine SX.seq ?_
    refine SX.sr ?_
    refine SL.mv ⟨rfl, rfl, rfl, rfl⟩ rfl ?_
    refine SL.lenS ⟨rfl, rfl, rfl, rfl⟩ ty9 rfl ?_
    refine SL.mv ⟨rfl, rfl, rfl, rfl⟩ rfl ?_
    refine SL.nx ?_
    refine SX.block ?_
    have hpl : ((s.drop (64 * j)).take (min (s.length - 64 * j) 64)).length = min (s.length - 64 * j) 64 := by simp
    refine SX.mono (SX.loop (α := Nat × Value × Value) (fun x => x.1 ≤ min (s.length - 64 * j) 64 ∧ adr b0 x.2.1) (fun x => [(0, vS key), (1, vS nonce), (2, vS (s.drop (64 * j))), (8, vP b0 0), (9, vU32 (UInt32.ofNat j)), (10, vS (blockA key (UInt32.ofNat j) nonce)), (12, vS ((s.drop (64 * j)).take (min (s.length - 64 * j) 64))), (46, vI ((s.drop (64 * j)).take (min (s.length - 64 * j) 64)).length), (47, vI x.1)]) (fun x => own b0 (.cells #[x.2.1, x.2.2] 95) :: rowC 5 1 x.2.2 (64 * j + x.1) (((xorA key nonce s).take (64 * j + x.1)).map fun b => vU8 b) :: H) (fun x => 64 - x.1) (fun x D hp => ?_) (0, p, v) ⟨Nat.zero_le _, hadr⟩) (by repeat' (first | exact trivial | refine And.intro rfl ?_))
    obtain ⟨i, p, v⟩ := x
    obtain ⟨hi, hadr⟩ := hp
    simp only at hi hadr
    refine SX.sr ?_
    refine SL.bin ⟨rfl, rfl, rfl, rfl⟩ rfl rfl Bin.ltI ?_
    refine SL.nx ?_
    refine SX.seq ?_
    refine SX.cond rfl (fun hc3 => ?_) (fun hc3 => ?_)
    · skip
      have hil : i < min (s.length - 64 * j) 64 := by simp only [hpl] at hc3; simpa using hc3
      refine SX.skip ?_
      refine SQ.thn ?_
      refine SX.seq ?_
      refine SX.block ?_
      refine SX.sr ?_
      refine SL.mv ⟨rfl, rfl, rfl, rfl⟩ rfl ?_
      refine SL.asg ⟨rfl, rfl, rfl, rfl⟩ rfl ?_
      refine SL.nx ?_
      refine SX.drawI mix [] (Pl.ap [(true, 0), (true, 1), (true, 2), (true, 3), (true, 4), (true, 5), (true, 6)] (.last 7 .nil)) (by kernel_rfl) ?_
      refine SL.mv ⟨rfl, rfl, rfl, rfl⟩ rfl ?_
      refine SL.mv ⟨rfl, rfl, rfl, rfl⟩ rfl ?_
      refine SL.ixS i ⟨rfl, rfl, rfl, rfl⟩ ty9 rfl rfl (by omega) (by omega) ?_
      refine SL.mv ⟨rfl, rfl, rfl, rfl⟩ rfl ?_
      refine SL.mv ⟨rfl, rfl, rfl, rfl⟩ rfl ?_
      refine SL.ixS i ⟨rfl, rfl, rfl, rfl⟩ ty9 rfl rfl (by omega) (by omega) ?_
      refine SL.bin ⟨rfl, rfl, rfl, rfl⟩ rfl rfl Bin.xor8 ?_
      refine SL.last ?_
      have e1 : ((s.drop (64 * j)).take (min (s.length - 64 * j) 64)).getD i 0 = s.getD (64 * j + i) 0 := by
        simp [List.getD_eq_getElem?_getD, hil, show 64 * j + i < s.length by omega]
      have e2 : (blockA key (UInt32.ofNat j) nonce).getD i 0 = streamA key nonce (64 * j + i) := by
        rw [streamA, show (64 * j + i) / 64 = j by omega, show (64 * j + i) % 64 = i by omega]
      rw [e1, e2]
      refine SL.call (vs := [_, _]) (Hin := [_, _]) ⟨rfl, rfl, rfl, rfl⟩ rfl ⟨rfl, rfl, trivial⟩ cal78 rfl rfl (c_WriteByte 95 b0 p v (64 * j + i) _ _ hadr li95 (by omega)) ?_
      rintro _ _ ⟨rfl, v', rfl⟩
      refine ⟨trivial, ?_⟩
      refine SL.nil ?_
      refine SQ.blk ?_
      refine SQ.thn ?_
      refine SX.region ?_
      refine SL.bin ⟨rfl, rfl, rfl, rfl⟩ rfl rfl (Bin.addI (by omega) (by omega)) ?_
      refine SL.mv ⟨rfl, rfl, rfl, rfl⟩ rfl ?_
      refine SL.nil ?_
      refine SQ.again (i + 1, vP b0 0, v') ⟨by simp only; omega, .inr rfl⟩ (by simp only; omega) (by repeat' (first | exact trivial | refine And.intro rfl ?_)) (fun w hw => ?_)
      simp only
      rw [← Nat.add_assoc, xorA_step key nonce s (64 * j + i) (by omega), List.map_append]
      exact hw
    · skip
      have hie : i = min (s.length - 64 * j) 64 := by simp only [hpl] at hc3; simp at hc3; omega
      refine SX.exit ?_
      refine SQ.thnE ?_
      refine SQ.lpE ?_
      refine SQ.blkE ?_
      refine SQ.thn ?_
      refine SX.region ?_
      refine SL.mv ⟨rfl, rfl, rfl, rfl⟩ rfl ?_
      refine SL.mv ⟨rfl, rfl, rfl, rfl⟩ rfl ?_
      refine SL.lenS ⟨rfl, rfl, rfl, rfl⟩ ty9 rfl ?_
      refine SL.slSl (min (s.length - 64 * j) 64) ⟨rfl, rfl, rfl, rfl⟩ ty9 rfl rfl (by rw [hpl]) (by simp; omega) ?_
      rw [List.drop_drop]
      refine SL.asg ⟨rfl, rfl, rfl, rfl⟩ rfl ?_
      refine SL.nil ?_
      refine SQ.blk ?_
      refine SQ.thn ?_
      refine SX.region ?_
      refine SL.mv ⟨rfl, rfl, rfl, rfl⟩ rfl ?_
      refine SL.bin ⟨rfl, rfl, rfl, rfl⟩ rfl rfl (Bin.add32 (b := 1)) ?_
      refine SL.asg ⟨rfl, rfl, rfl, rfl⟩ rfl ?_
      refine SL.nil ?_
      have e1 : s.drop (64 * j + min (s.length - 64 * j) 64) = s.drop (64 * (j + 1)) := by
        rcases Nat.lt_or_ge (s.length - 64 * j) 64 with h | h
        · rw [List.drop_eq_nil_of_le (by omega), List.drop_eq_nil_of_le (by omega)]
        · rw [show 64 * j + min (s.length - 64 * j) 64 = 64 * (j + 1) by omega]
      rw [e1, ofNat_succ]
      refine SQ.again (j + 1, p, v) ⟨by simp only; omega, hadr⟩ (by simp only; omega) (by repeat' (first | exact trivial | refine And.intro rfl ?_)) (fun w hw => ?_)
      simp only
      rw [show min (64 * (j + 1)) s.length = 64 * j + i by omega]
      exact hw
  · skip
    have hjl : s.length ≤ 64 * j := by simp at hc2; omega
    have hmin : min (64 * j) s.length = s.length := by omega
    have ht : (xorA key nonce s).take s.length = xorA key nonce s := List.take_of_length_le (by omega)
    rw [hmin, ht]
    refine SX.exit ?_
    refine SQ.thnE ?_
    refine SQ.lpE ?_
    refine SQ.blkE ?_
    refine SQ.thn ?_
    refine SX.sr ?_
    refine SL.call (vs := [_]) (Hin := [_, _]) ⟨rfl, rfl, rfl, rfl⟩ rfl ⟨rfl, trivial⟩ cal44 rfl rfl (c_String 95 b0 p v s.length (xorA key nonce s) (by omega)) ?_
    rintro _ _ ⟨rfl, rfl⟩
    refine ⟨trivial, ?_⟩
    refine SL.asg ⟨rfl, rfl, rfl, rfl⟩ rfl ?_
    refine SL.asg ⟨rfl, rfl, rfl, rfl⟩ rfl ?_
    refine SL.nx ?_
    refine SX.ret ?_
    exact SQ.fret (res2 rfl rfl rfl) (ret_of (M := []) ⟨rfl, rfl⟩ fun _ h => h.skip [_, _])

end Go.Proofs.YtddjneafgddlcaaDoor

/- Walks of a head's bytes. No condition. -/
namespace Go.Proofs.YtddjneafgddlcaaDoor
open Go
variable {K : Nat → Prop} {w0 : World} {H : List Chunk}
theorem c_seal_put (b : Nat) (p v : Value) (e : TypeId) (n : UInt64) (w m : Nat) (xs : List UInt8) (hp : adr b p) (hl : lies e) (hw : w ≤ 8) (hm : m ≤ 1048576) : Con Tryd.prog K w0 79 [vP b 0, vU64 n, vI w] [own b (.cells #[p, v] e), rowC 5 1 v m (xs.map fun b => vU8 b)] H (fun r M => r = .tuple #[] ∧ ∃ p' v', adr b p' ∧ M = [own b (.cells #[p', v'] e), rowC 5 1 v' (m + w) ((xs ++ lePut n w).map fun b => vU8 b)]) := by
  refine Con.enter Tryd.func79 rfl rfl ?_
  refine SX.sr ?_
  refine SL.mv ⟨rfl, rfl, rfl, rfl⟩ rfl ?_
  refine SL.mv ⟨rfl, rfl, rfl, rfl⟩ rfl ?_
  refine SL.nx ?_
  refine SX.block ?_
  refine SX.mono (SX.loop (α := Nat × Value × Value) (fun x => x.1 ≤ w ∧ adr b x.2.1) (fun x => [(0, vP b 0), (1, vU64 n), (7, vI w), (8, vI x.1)]) (fun x => own b (.cells #[x.2.1, x.2.2] e) :: rowC 5 1 x.2.2 (m + x.1) ((xs ++ lePut n x.1).map fun b => vU8 b) :: H) (fun x => w - x.1) (fun x D hp => ?_) (0, p, v) ⟨Nat.zero_le _, hp⟩ |>.heap (fun w h => by simpa [lePut] using h)) (by repeat' (first | exact trivial | refine And.intro rfl ?_))
  obtain ⟨i, p, v⟩ := x
  obtain ⟨hi, hadr⟩ := hp
  simp only at hi hadr
  refine SX.sr ?_
  refine SL.bin ⟨rfl, rfl, rfl, rfl⟩ rfl rfl Bin.ltI ?_
  refine SL.nx ?_
  refine SX.seq ?_
  refine SX.cond rfl (fun hc1 => ?_) (fun hc1 => ?_)
  · skip
    have hlt : i < w := by simpa using hc1
    refine SX.skip ?_
    refine SQ.thn ?_
    refine SX.seq ?_
    refine SX.block ?_
    refine SX.sr ?_
    refine SL.mv ⟨rfl, rfl, rfl, rfl⟩ rfl ?_
    refine SL.asg ⟨rfl, rfl, rfl, rfl⟩ rfl ?_
    refine SL.nx ?_
    refine SX.drawI mix [] (Pl.ap [(true, 0), (true, 1), (true, 2), (true, 3), (true, 4), (true, 5), (true, 6), (true, 7)] (.last 8 .nil)) (by kernel_rfl) ?_
    refine SL.mv ⟨rfl, rfl, rfl, rfl⟩ rfl ?_
    refine SL.nchk ⟨rfl, rfl, rfl, rfl⟩ rfl ?_
    refine SL.fa ⟨rfl, rfl, rfl, rfl⟩ rfl fo142_0 ?_
    refine SL.mv ⟨rfl, rfl, rfl, rfl⟩ rfl ?_
    refine SL.mv ⟨rfl, rfl, rfl, rfl⟩ rfl ?_
    refine SL.bin ⟨rfl, rfl, rfl, rfl⟩ rfl rfl (Bin.mulI (by omega) (by omega)) ?_
    refine SL.bin ⟨rfl, rfl, rfl, rfl⟩ rfl rfl (Bin.shr64 (n := (8 * i))) ?_
    refine SL.cv ⟨rfl, rfl, rfl, rfl⟩ rfl (Cv.u64_8 ty34 ty5) ?_
    refine SL.last ?_
    refine SL.call (vs := [_, _]) (Hin := [_, _]) ⟨rfl, rfl, rfl, rfl⟩ rfl ⟨rfl, rfl, trivial⟩ cal78 rfl rfl (c_WriteByte e b p v (m + i) _ _ hadr hl (by omega)) ?_
    rintro _ _ ⟨rfl, v', rfl⟩
    refine ⟨trivial, ?_⟩
    refine SL.nil ?_
    refine SQ.blk ?_
    refine SQ.thn ?_
    refine SX.region ?_
    refine SL.bin ⟨rfl, rfl, rfl, rfl⟩ rfl rfl (Bin.addI (by omega) (by omega)) ?_
    refine SL.mv ⟨rfl, rfl, rfl, rfl⟩ rfl ?_
    refine SL.nil ?_
    refine SQ.again (i + 1, vP b 0, v') ⟨hlt, .inr rfl⟩ (by simp only; omega) (by repeat' (first | exact trivial | refine And.intro rfl ?_)) (fun w hw => ?_)
    simp only
    rw [lePut_succ, ← List.append_assoc, List.map_append (l₁ := xs ++ lePut n i), ← Nat.add_assoc]
    exact hw
  · skip
    have hie : i = w := by simp at hc1; omega
    subst hie
    refine SX.exit ?_
    refine SQ.thnE ?_
    refine SQ.lpE ?_
    refine SQ.blkE ?_
    exact SQ.fend (res0 rfl) (ret_of (M := [_, _]) ⟨rfl, p, v, hadr, rfl⟩ fun _ h => h)

theorem c_seal_nonce (h : HeadA) : Con Tryd.prog K w0 66 [.agg (encHead h).toArray] [] H (fun r M => r = vS (nonceA h) ∧ M = []) := by
  refine Con.enter Tryd.func66 rfl rfl ?_
  refine SX.sr ?_
  refine SL.box ⟨rfl, rfl, rfl, rfl⟩ rfl (fun _ => trivial) fun b0 => ?_
  refine SL.asg ⟨rfl, rfl, rfl, rfl⟩ rfl ?_
  refine SL.nx ?_
  refine SX.sr ?_
  refine SL.alloc ⟨rfl, rfl, rfl, rfl⟩ ze142 (fun _ => trivial) fun b1 => ?_
  refine SL.nx ?_
  refine SX.sr ?_
  refine SL.mkf (fv := #[_]) (cv := #[]) ⟨rfl, rfl, rfl, rfl⟩ rfl rfl ?_
  refine SL.asg ⟨rfl, rfl, rfl, rfl⟩ rfl ?_
  refine SL.nx ?_
  refine SX.nilRow 5 1 ?_
  refine SX.pick [1, 0, 2] 3 ?_
  refine SX.sr ?_
  refine SL.mv ⟨rfl, rfl, rfl, rfl⟩ rfl ?_
  refine SL.fa ⟨rfl, rfl, rfl, rfl⟩ rfl fo87_2 ?_
  refine SL.ld ⟨rfl, rfl, rfl, rfl⟩ sc22 rfl (cell_own 2 rfl rfl) ?_
  refine SL.cv ⟨rfl, rfl, rfl, rfl⟩ rfl (Cv.u32_64 ty22 ty34) ?_
  refine SL.call (vs := [_, _]) (Hin := [_, _]) ⟨rfl, rfl, rfl, rfl⟩ rfl ⟨rfl, rfl, trivial⟩ cal79 rfl rfl (c_seal_put b1 (.pointer none) (.slice none 0 0) 142 h.boot.toUInt64 4 0 [] (.inl rfl) li142 (by omega) (by omega)) ?_
  rintro _ _ ⟨rfl, p1, v1, ha1, rfl⟩
  refine ⟨trivial, ?_⟩
  refine SL.nx ?_
  refine SX.sr ?_
  refine SL.mv ⟨rfl, rfl, rfl, rfl⟩ rfl ?_
  refine SL.fa ⟨rfl, rfl, rfl, rfl⟩ rfl fo87_3 ?_
  refine SL.ld ⟨rfl, rfl, rfl, rfl⟩ sc34 rfl (cell_own 2 rfl rfl) ?_
  refine SL.call (vs := [_, _]) (Hin := [_, _]) ⟨rfl, rfl, rfl, rfl⟩ rfl ⟨rfl, rfl, trivial⟩ cal79 rfl rfl (c_seal_put b1 p1 v1 142 h.seq 8 4 _ ha1 li142 (by omega) (by omega)) ?_
  rintro _ _ ⟨rfl, p2, v2, ha2, rfl⟩
  refine ⟨trivial, ?_⟩
  refine SL.nx ?_
  refine SX.sr ?_
  refine SL.fa ⟨rfl, rfl, rfl, rfl⟩ rfl fo142_0 ?_
  refine SL.call (vs := [_]) (Hin := [_, _]) ⟨rfl, rfl, rfl, rfl⟩ rfl ⟨rfl, trivial⟩ cal44 rfl rfl (c_String 142 b1 p2 v2 12 (nonceA h) (by omega)) ?_
  rintro _ _ ⟨rfl, rfl⟩
  refine ⟨trivial, ?_⟩
  refine SL.asg ⟨rfl, rfl, rfl, rfl⟩ rfl ?_
  refine SL.nx ?_
  refine SX.ret ?_
  exact SQ.fret (res1 rfl rfl) (ret_of (M := []) ⟨rfl, rfl⟩ fun _ h => h.skip [_, _, _])

theorem c_seal_Put (h : HeadA) : Con Tryd.prog K w0 67 [.agg (encHead h).toArray] [] H (fun r M => r = vS (putA h) ∧ M = []) := by
  refine Con.enter Tryd.func67 rfl rfl ?_
  refine SX.sr ?_
  refine SL.box ⟨rfl, rfl, rfl, rfl⟩ rfl (fun _ => trivial) fun b0 => ?_
  refine SL.asg ⟨rfl, rfl, rfl, rfl⟩ rfl ?_
  refine SL.nx ?_
  refine SX.sr ?_
  refine SL.alloc ⟨rfl, rfl, rfl, rfl⟩ ze142 (fun _ => trivial) fun b1 => ?_
  refine SL.nx ?_
  refine SX.sr ?_
  refine SL.mkf (fv := #[_]) (cv := #[]) ⟨rfl, rfl, rfl, rfl⟩ rfl rfl ?_
  refine SL.asg ⟨rfl, rfl, rfl, rfl⟩ rfl ?_
  refine SL.nx ?_
  refine SX.nilRow 5 1 ?_
  refine SX.pick [1, 0, 2] 3 ?_
  refine SX.sr ?_
  refine SL.mv ⟨rfl, rfl, rfl, rfl⟩ rfl ?_
  refine SL.fa ⟨rfl, rfl, rfl, rfl⟩ rfl fo87_0 ?_
  refine SL.ld ⟨rfl, rfl, rfl, rfl⟩ sc22 rfl (cell_own 2 rfl rfl) ?_
  refine SL.cv ⟨rfl, rfl, rfl, rfl⟩ rfl (Cv.u32_64 ty22 ty34) ?_
  refine SL.call (vs := [_, _]) (Hin := [_, _]) ⟨rfl, rfl, rfl, rfl⟩ rfl ⟨rfl, rfl, trivial⟩ cal79 rfl rfl (c_seal_put b1 (.pointer none) (.slice none 0 0) 142 h.page.toUInt64 4 0 [] (.inl rfl) li142 (by omega) (by omega)) ?_
  rintro _ _ ⟨rfl, p1, v1, ha1, rfl⟩
  refine ⟨trivial, ?_⟩
  refine SL.nx ?_
  refine SX.sr ?_
  refine SL.mv ⟨rfl, rfl, rfl, rfl⟩ rfl ?_
  refine SL.fa ⟨rfl, rfl, rfl, rfl⟩ rfl fo87_1 ?_
  refine SL.ld ⟨rfl, rfl, rfl, rfl⟩ sc22 rfl (cell_own 2 rfl rfl) ?_
  refine SL.cv ⟨rfl, rfl, rfl, rfl⟩ rfl (Cv.u32_64 ty22 ty34) ?_
  refine SL.call (vs := [_, _]) (Hin := [_, _]) ⟨rfl, rfl, rfl, rfl⟩ rfl ⟨rfl, rfl, trivial⟩ cal79 rfl rfl (c_seal_put b1 p1 v1 142 h.gen.toUInt64 4 4 _ ha1 li142 (by omega) (by omega)) ?_
  rintro _ _ ⟨rfl, p2, v2, ha2, rfl⟩
  refine ⟨trivial, ?_⟩
  refine SL.nx ?_
  refine SX.seq ?_
  refine SX.drawI mix [2] (Pl.of [(true, 0), (true, 2), (false, 1), (false, 3), (true, 4), (true, 5), (true, 6)]) (by kernel_rfl) ?_
  refine SL.fa ⟨rfl, rfl, rfl, rfl⟩ rfl fo142_0 ?_
  refine SL.ldA (encHead h) ⟨rfl, rfl, rfl, rfl⟩ ag87 rfl rfl (cells_all 0 rfl) ?_
  refine SL.call (vs := [_]) (Hin := [_, _]) ⟨rfl, rfl, rfl, rfl⟩ rfl ⟨rfl, trivial⟩ cal44 rfl rfl (c_String 142 b1 p2 v2 8 (lePut h.page.toUInt64 4 ++ lePut h.gen.toUInt64 4) (by omega)) ?_
  rintro _ _ ⟨rfl, rfl⟩
  refine ⟨⟨⟨2, rfl⟩, trivial⟩, ?_⟩
  refine SL.call (vs := [_]) (Hin := []) ⟨rfl, rfl, rfl, rfl⟩ rfl ⟨rfl, trivial⟩ cal66 rfl rfl (c_seal_nonce h) ?_
  rintro _ _ ⟨rfl, rfl⟩
  refine ⟨⟨⟨2, rfl⟩, trivial⟩, ?_⟩
  refine SL.bin ⟨rfl, rfl, rfl, rfl⟩ rfl rfl (Bin.cat (by simp [lePut_length, nonceA_length])) ?_
  refine SL.bin ⟨rfl, rfl, rfl, rfl⟩ rfl rfl (Bin.cat (by simp [lePut_length, nonceA_length])) ?_
  refine SL.asg ⟨rfl, rfl, rfl, rfl⟩ rfl ?_
  refine SL.nx ?_
  refine SX.ret ?_
  exact SQ.fret (res1 rfl rfl) (ret_of (M := []) ⟨rfl, rfl⟩ fun _ h => h.skip [_, _, _])

end Go.Proofs.YtddjneafgddlcaaDoor

/- Walks of the head of bytes. No condition. -/
namespace Go.Proofs.YtddjneafgddlcaaDoor
open Go
variable {K : Nat → Prop} {w0 : World} {H : List Chunk}

def encIN (p : Nat × UInt64) : List Value := [vI p.1, vU64 p.2]
theorem five {i : Nat} (h : i < 5) : i = 0 ∨ i = 1 ∨ i = 2 ∨ i = 3 ∨ i = 4 := by omega
theorem q_seal_fields (s : List UInt8) (b : Nat) (hs : s.length = 24) : Seq Tryd.prog K w0 90 [vP b 0] [own b (.cells #[vS s] 9)] encIN (fieldsA s) := by
  intro lp J X T1 hy G h0
  refine Con.enter Tryd.func90 rfl rfl ?_
  refine SX.sr ?_
  refine SL.bldU [vI 4, vI 4, vI 4, vI 8, vI 4] ⟨rfl, rfl, rfl, rfl⟩ ty166 sz3 ze166 rfl ⟨rfl, rfl, rfl, rfl, rfl, trivial⟩ rfl rfl (by simp [Value.cells]) ?_
  refine SL.mv ⟨rfl, rfl, rfl, rfl⟩ rfl ?_
  refine SL.nx ?_
  refine SX.block ?_
  refine SX.mono (SX.loop (α := Nat × List Chunk) (fun x => x.1 ≤ 5 ∧ J ((fieldsA s).take x.1) x.2) (fun x => [(0, vY lp), (1, vP b 0), (7, .agg #[vI 4, vI 4, vI 4, vI 8, vI 4]), (8, vI x.1)]) (fun x => own b (.cells #[vS (s.drop (offA x.1))] 9) :: (x.2 ++ T1)) (fun x => 5 - x.1) (fun x D hp => ?_) (0, G) ⟨Nat.zero_le _, h0⟩) (by repeat' (first | exact trivial | refine And.intro rfl ?_))
  obtain ⟨i, G⟩ := x
  obtain ⟨hi, hJ⟩ := hp
  simp only at hi hJ
  refine SX.sr ?_
  refine SL.bin ⟨rfl, rfl, rfl, rfl⟩ rfl rfl Bin.ltI ?_
  refine SL.nx ?_
  refine SX.seq ?_
  refine SX.cond rfl (fun hc1 => ?_) (fun hc1 => ?_)
  · skip
    have hlt : i < 5 := by simp at hc1; omega
    have hg := fieldsA_get s i hlt
    have hoff : offA i + widA i ≤ 24 := by rcases five hlt with rfl | rfl | rfl | rfl | rfl <;> decide
    have hw8 : widA i ≤ 8 := by rcases five hlt with rfl | rfl | rfl | rfl | rfl <;> decide
    have hwid : (#[vI 4, vI 4, vI 4, vI 8, vI 4] : Array Value)[i]? = some (vI (widA i : Nat)) := by rcases five hlt with rfl | rfl | rfl | rfl | rfl <;> rfl
    refine SX.skip ?_
    refine SQ.thn ?_
    refine SX.seq ?_
    refine SX.block ?_
    refine SX.sr ?_
    refine SL.mv ⟨rfl, rfl, rfl, rfl⟩ rfl ?_
    refine SL.ixA (i := i) ⟨rfl, rfl, rfl, rfl⟩ ty166 sc3 rfl rfl (by omega) (by omega) hwid ?_
    refine SL.asg ⟨rfl, rfl, rfl, rfl⟩ rfl ?_
    refine SL.asg ⟨rfl, rfl, rfl, rfl⟩ rfl ?_
    refine SL.nx ?_
    refine SX.sr ?_
    refine SL.asg ⟨rfl, rfl, rfl, rfl⟩ rfl ?_
    refine SL.nx ?_
    refine SX.seq ?_
    refine SX.sr ?_
    refine SL.mv ⟨rfl, rfl, rfl, rfl⟩ rfl ?_
    refine SL.mv ⟨rfl, rfl, rfl, rfl⟩ rfl ?_
    refine SL.nx ?_
    refine SX.block ?_
    refine SX.mono (SX.loop (α := Nat) (fun k => k ≤ widA i) (fun k => [(0, vY lp), (1, vP b 0), (3, vI i), (4, vI (widA i : Nat)), (5, vU64 (leGetN (s.drop (offA i)) k)), (7, .agg #[vI 4, vI 4, vI 4, vI 8, vI 4]), (8, vI i), (12, vI (widA i : Nat)), (13, vI k)]) (fun k => own b (.cells #[vS (s.drop (offA i))] 9) :: (G ++ T1)) (fun k => widA i - k) (fun k D hp => ?_) 0 (Nat.zero_le _)) (by repeat' (first | exact trivial | refine And.intro rfl ?_))
    refine SX.sr ?_
    refine SL.bin ⟨rfl, rfl, rfl, rfl⟩ rfl rfl Bin.ltI ?_
    refine SL.nx ?_
    refine SX.seq ?_
    refine SX.cond rfl (fun hc2 => ?_) (fun hc2 => ?_)
    · skip
      have hk : k < widA i := by simpa using hc2
      refine SX.skip ?_
      refine SQ.thn ?_
      refine SX.seq ?_
      refine SX.block ?_
      refine SX.sr ?_
      refine SL.mv ⟨rfl, rfl, rfl, rfl⟩ rfl ?_
      refine SL.asg ⟨rfl, rfl, rfl, rfl⟩ rfl ?_
      refine SL.nx ?_
      refine SX.region ?_
      refine SL.mv ⟨rfl, rfl, rfl, rfl⟩ rfl ?_
      refine SL.ld ⟨rfl, rfl, rfl, rfl⟩ sc9 rfl (cell_own 0 rfl rfl) ?_
      refine SL.mv ⟨rfl, rfl, rfl, rfl⟩ rfl ?_
      refine SL.ixS k ⟨rfl, rfl, rfl, rfl⟩ ty9 rfl rfl (by omega) (by simp; omega) ?_
      refine SL.cv ⟨rfl, rfl, rfl, rfl⟩ rfl (Cv.u8_64 ty5 ty34) ?_
      refine SL.mv ⟨rfl, rfl, rfl, rfl⟩ rfl ?_
      refine SL.bin ⟨rfl, rfl, rfl, rfl⟩ rfl rfl (Bin.mulI (by omega) (by omega)) ?_
      refine SL.bin ⟨rfl, rfl, rfl, rfl⟩ rfl rfl (Bin.shl64 (n := (8 * k))) ?_
      refine SL.bin ⟨rfl, rfl, rfl, rfl⟩ rfl rfl Bin.or64 ?_
      refine SL.asg ⟨rfl, rfl, rfl, rfl⟩ rfl ?_
      refine SL.nil ?_
      refine SQ.blk ?_
      refine SQ.thn ?_
      refine SX.region ?_
      refine SL.bin ⟨rfl, rfl, rfl, rfl⟩ rfl rfl (Bin.addI (by omega) (by omega)) ?_
      refine SL.mv ⟨rfl, rfl, rfl, rfl⟩ rfl ?_
      refine SL.nil ?_
      exact SQ.again (k + 1) hk (by omega) (by repeat' (first | exact trivial | refine And.intro rfl ?_))
    · skip
      have hk : k = widA i := by simp at hc2; omega
      subst hk
      refine SX.exit ?_
      refine SQ.thnE ?_
      refine SQ.lpE ?_
      refine SQ.blkE ?_
      refine SQ.thn ?_
      refine SX.seq ?_
      refine SX.sr ?_
      refine SL.mv ⟨rfl, rfl, rfl, rfl⟩ rfl ?_
      refine SL.mv ⟨rfl, rfl, rfl, rfl⟩ rfl ?_
      refine SL.mv ⟨rfl, rfl, rfl, rfl⟩ rfl ?_
      refine SL.yld (M2 := [_]) (G := G) (T := T1) (vs := [_, _]) (ok := fun G1 => J ((fieldsA s).take (i + 1)) G1) (no := X) ⟨rfl, rfl, rfl, rfl⟩ rfl ⟨rfl, rfl, trivial⟩ rfl ?_ (fun bb G1 hG1 => ⟨trivial, ?_⟩)
      · intro M
        have := hy _ _ _ (take_split hg).1 G hJ M
        rw [← (take_split hg).2] at this
        exact this
      refine SL.not ⟨rfl, rfl, rfl, rfl⟩ rfl ?_
      refine SL.nx ?_
      refine SX.cond rfl (fun hc3 => ?_) (fun hc3 => ?_)
      · skip
        obtain rfl : bb = false := by simpa using hc3
        refine SX.ret ?_
        refine SQ.thnR ?_
        refine SQ.blkR ?_
        refine SQ.thnR ?_
        refine SQ.lpR ?_
        refine SQ.blkR ?_
        exact SQ.fret (res0 rfl) (ret_of (M := G1) (.inr hG1) fun _ h => h.skip [_])
      · skip
        obtain rfl : bb = true := by simpa using hc3
        refine SX.skip ?_
        refine SQ.thn ?_
        refine SX.region ?_
        refine SL.ld ⟨rfl, rfl, rfl, rfl⟩ sc9 rfl (cell_own 0 rfl rfl) ?_
        refine SL.mv ⟨rfl, rfl, rfl, rfl⟩ rfl ?_
        refine SL.slSl (widA i) ⟨rfl, rfl, rfl, rfl⟩ ty9 rfl rfl (by omega) (by simp; omega) ?_
        rw [List.drop_drop]
        refine SL.st 0 ⟨rfl, rfl, rfl⟩ rfl rfl rfl sz9 rfl rfl rfl trivial ?_
        refine SL.nil ?_
        refine SQ.blk ?_
        refine SQ.thn ?_
        refine SX.region ?_
        refine SL.bin ⟨rfl, rfl, rfl, rfl⟩ rfl rfl (Bin.addI (by omega) (by omega)) ?_
        refine SL.mv ⟨rfl, rfl, rfl, rfl⟩ rfl ?_
        refine SL.nil ?_
        exact SQ.again (i + 1, G1) ⟨hlt, hG1⟩ (by simp only; omega) (by repeat' (first | exact trivial | refine And.intro rfl ?_))
  · skip
    have hle : i = 5 := by simp at hc1; omega
    refine SX.exit ?_
    refine SQ.thnE ?_
    refine SQ.lpE ?_
    refine SQ.blkE ?_
    exact SQ.fend (res0 rfl) (ret_of (M := G) (.inl (by rw [List.take_of_length_le (by rw [fieldsA_length]; omega)] at hJ; exact hJ)) fun _ h => h.skip [_])

theorem c_seal_fields (s : List UInt8) : Con Tryd.prog K w0 82 [vS s] [] H (fun r M => ∃ b, r = .func (.func 90) #[] #[vP b 0] ∧ M = [own b (.cells #[vS s] 9)]) := by
  refine Con.enter Tryd.func82 rfl rfl ?_
  refine SX.sr ?_
  refine SL.box ⟨rfl, rfl, rfl, rfl⟩ rfl (fun _ => trivial) fun b0 => ?_
  refine SL.asg ⟨rfl, rfl, rfl, rfl⟩ rfl ?_
  refine SL.nx ?_
  refine SX.sr ?_
  refine SL.mkf (fv := #[]) (cv := #[_]) ⟨rfl, rfl, rfl, rfl⟩ rfl rfl ?_
  refine SL.asg ⟨rfl, rfl, rfl, rfl⟩ rfl ?_
  refine SL.nx ?_
  refine SX.ret ?_
  exact SQ.fret (res1 rfl rfl) (ret_of (M := [_]) ⟨b0, rfl, rfl⟩ fun _ h => h)

theorem c_seal_Get (s : List UInt8) : Con Tryd.prog K w0 70 [vS s] [] H (fun r M => r = .tuple #[.agg (encHead (getA s).1).toArray, vB (getA s).2] ∧ M = []) := by
  refine Con.enter Tryd.func70 rfl rfl ?_
  refine SX.sr ?_
  refine SL.alloc ⟨rfl, rfl, rfl, rfl⟩ ze87 (fun _ => trivial) fun b0 => ?_
  refine SL.asg ⟨rfl, rfl, rfl, rfl⟩ rfl ?_
  refine SL.nx ?_
  refine SX.scope ?_
  refine SX.sr ?_
  refine SL.alloc ⟨rfl, rfl, rfl, rfl⟩ ze87 (fun _ => trivial) fun b1 => ?_
  refine SL.nx ?_
  refine SX.seq ?_
  refine SX.sr ?_
  refine SL.mv ⟨rfl, rfl, rfl, rfl⟩ rfl ?_
  refine SL.lenS ⟨rfl, rfl, rfl, rfl⟩ ty9 rfl ?_
  refine SL.bin ⟨rfl, rfl, rfl, rfl⟩ rfl rfl Bin.neI ?_
  refine SL.nx ?_
  refine SX.cond rfl (fun hc1 => ?_) (fun hc1 => ?_)
  · skip
    have hs : getA s = (head0, false) := by unfold getA; rw [if_neg (fun h => by simp at hc1; omega)]
    rw [hs]
    refine SX.sr ?_
    refine SL.ldA (encHead head0) ⟨rfl, rfl, rfl, rfl⟩ ag87 rfl rfl (cells_all 0 rfl) ?_
    refine SL.st 1 ⟨rfl, rfl, rfl⟩ rfl rfl rfl sz87 rfl rfl rfl trivial ?_
    refine SL.asg ⟨rfl, rfl, rfl, rfl⟩ rfl ?_
    refine SL.nx ?_
    refine SX.ret ?_
    refine SQ.thnR ?_
    refine SQ.scpR ?_
    exact SQ.fret (resv2 rfl (resv.ag 1 (encHead head0) ag87 rfl rfl rfl rfl) rfl) (ret_of (M := []) ⟨rfl, rfl⟩ fun _ h => h.skip [_, _])
  · skip
    have hs : s.length = 24 := by simp at hc1; omega
    refine SX.skip ?_
    refine SQ.thn ?_
    refine SX.seq ?_
    refine SX.label ?_
    refine SQ.thn ?_
    refine SX.seq ?_
    refine SX.sr ?_
    refine SL.mv ⟨rfl, rfl, rfl, rfl⟩ rfl ?_
    refine SL.call (vs := [_]) (Hin := []) ⟨rfl, rfl, rfl, rfl⟩ rfl ⟨rfl, trivial⟩ cal82 rfl rfl (c_seal_fields s) ?_
    rintro _ _ ⟨bi, rfl, rfl⟩
    refine ⟨trivial, ?_⟩
    refine SL.nx ?_
    refine SX.block ?_
    refine SX.range (enc := encIN) (fieldsA s) (fun pre G => pre.length ≤ 3 ∧ G = own b1 (.cells (encHead (headN s pre.length)).toArray 87) :: own b0 (.cells (encHead head0).toArray 87) :: H) (fun c G => c = .exit 0 ∧ G = own b1 (.cells (encHead (headA s)).toArray 87) :: own b0 (.cells (encHead head0).toArray 87) :: H) rfl cal90 rfl (fun _ => rfl) (q_seal_fields s bi hs) rfl ⟨Nat.zero_le _, rfl⟩ (fun pre x suf G hxs hJ r lp Rest => ?_) (fun G D hJ => ?_) (fun c G D hX => ?_)
    · obtain ⟨hpl, rfl⟩ := hJ
      have hget : (fieldsA s)[pre.length]? = some x := by rw [hxs]; simp
      rw [fieldsA_get s _ (by omega)] at hget
      obtain rfl := Option.some.inj hget
      have hpl2 : (pre ++ [(pre.length, fieldA s pre.length)]).length = pre.length + 1 := by simp
      have hJ2 : ∀ G, G = own b1 (.cells (encHead (headN s (pre.length + 1))).toArray 87) :: own b0 (.cells (encHead head0).toArray 87) :: H → pre.length ≤ 2 → (pre ++ [(pre.length, fieldA s pre.length)]).length ≤ 3 ∧ G = own b1 (.cells (encHead (headN s (pre ++ [(pre.length, fieldA s pre.length)]).length)).toArray 87) :: own b0 (.cells (encHead head0).toArray 87) :: H := fun G hG h => by rw [hpl2]; exact ⟨by omega, hG⟩
      clear hxs hpl2
      generalize pre.length = k at *
      refine SX.sr ?_
      refine SL.asg ⟨rfl, rfl, rfl, rfl⟩ rfl ?_
      refine SL.nx ?_
      refine SX.region ?_
      refine SL.asg ⟨rfl, rfl, rfl, rfl⟩ rfl ?_
      refine SL.nil ?_
      refine SQ.bgn ?_
      refine SX.block ?_
      refine SX.sr ?_
      refine SL.mv ⟨rfl, rfl, rfl, rfl⟩ rfl ?_
      refine SL.nx ?_
      refine SX.block ?_
      refine SX.sr ?_
      refine SL.bin ⟨rfl, rfl, rfl, rfl⟩ rfl rfl Bin.eqI ?_
      refine SL.asg ⟨rfl, rfl, rfl, rfl⟩ rfl ?_
      refine SL.nx ?_
      refine SX.cond rfl (fun hc2 => ?_) (fun hc2 => ?_)
      · skip
        obtain rfl : k = 0 := by simp at hc2; omega
        refine SX.region ?_
        refine SL.mv ⟨rfl, rfl, rfl, rfl⟩ rfl ?_
        refine SL.cv ⟨rfl, rfl, rfl, rfl⟩ rfl (Cv.u64_32 ty34 ty22) ?_
        refine SL.fa ⟨rfl, rfl, rfl, rfl⟩ rfl fo87_0 ?_
        refine SL.st 0 ⟨rfl, rfl, rfl⟩ rfl rfl rfl sz22 rfl rfl rfl trivial ?_
        refine SL.nil ?_
        refine SQ.blk ?_
        refine SQ.blk ?_
        exact SQ.rndN (hJ2 _ rfl (by omega)) (fun _ h => h)
      · skip
        have hk0 : k ≠ 0 := by simp at hc2; omega
        refine SX.sr ?_
        refine SL.bin ⟨rfl, rfl, rfl, rfl⟩ rfl rfl Bin.eqI ?_
        refine SL.asg ⟨rfl, rfl, rfl, rfl⟩ rfl ?_
        refine SL.nx ?_
        refine SX.cond rfl (fun hc3 => ?_) (fun hc3 => ?_)
        · skip
          obtain rfl : k = 1 := by simp at hc3; omega
          refine SX.region ?_
          refine SL.mv ⟨rfl, rfl, rfl, rfl⟩ rfl ?_
          refine SL.cv ⟨rfl, rfl, rfl, rfl⟩ rfl (Cv.u64_32 ty34 ty22) ?_
          refine SL.fa ⟨rfl, rfl, rfl, rfl⟩ rfl fo87_1 ?_
          refine SL.st 0 ⟨rfl, rfl, rfl⟩ rfl rfl rfl sz22 rfl rfl rfl trivial ?_
          refine SL.nil ?_
          refine SQ.blk ?_
          refine SQ.blk ?_
          exact SQ.rndN (hJ2 _ rfl (by omega)) (fun _ h => h)
        · skip
          have hk1 : k ≠ 1 := by simp at hc3; omega
          refine SX.sr ?_
          refine SL.bin ⟨rfl, rfl, rfl, rfl⟩ rfl rfl Bin.eqI ?_
          refine SL.asg ⟨rfl, rfl, rfl, rfl⟩ rfl ?_
          refine SL.nx ?_
          refine SX.cond rfl (fun hc4 => ?_) (fun hc4 => ?_)
          · skip
            obtain rfl : k = 2 := by simp at hc4; omega
            refine SX.region ?_
            refine SL.mv ⟨rfl, rfl, rfl, rfl⟩ rfl ?_
            refine SL.cv ⟨rfl, rfl, rfl, rfl⟩ rfl (Cv.u64_32 ty34 ty22) ?_
            refine SL.fa ⟨rfl, rfl, rfl, rfl⟩ rfl fo87_2 ?_
            refine SL.st 0 ⟨rfl, rfl, rfl⟩ rfl rfl rfl sz22 rfl rfl rfl trivial ?_
            refine SL.nil ?_
            refine SQ.blk ?_
            refine SQ.blk ?_
            exact SQ.rndN (hJ2 _ rfl (by omega)) (fun _ h => h)
          · skip
            have hk2 : k ≠ 2 := by simp at hc4; omega
            refine SX.sr ?_
            refine SL.bin ⟨rfl, rfl, rfl, rfl⟩ rfl rfl Bin.eqI ?_
            refine SL.asg ⟨rfl, rfl, rfl, rfl⟩ rfl ?_
            refine SL.nx ?_
            refine SX.cond rfl (fun hc5 => ?_) (fun hc5 => ?_)
            · skip
              obtain rfl : k = 3 := by simp at hc5; omega
              refine SX.sr ?_
              refine SL.mv ⟨rfl, rfl, rfl, rfl⟩ rfl ?_
              refine SL.fa ⟨rfl, rfl, rfl, rfl⟩ rfl fo87_3 ?_
              refine SL.st 0 ⟨rfl, rfl, rfl⟩ rfl rfl rfl sz34 rfl rfl rfl trivial ?_
              refine SL.nx ?_
              refine SX.exit ?_
              refine SQ.blkO ?_
              refine SQ.blkO ?_
              exact SQ.rndE (G := _ :: _ :: H) ⟨rfl, rfl⟩ (fun _ h => h)
            · exact absurd hc5 (by simp; omega)
    · exact absurd hJ.1 (by rw [fieldsA_length]; omega)
    · obtain ⟨rfl, rfl⟩ := hX
      refine SX.exit ?_
      refine SQ.blkE ?_
      refine SQ.thn ?_
      refine SX.seq ?_
      refine SX.sr ?_
      refine SL.ldA (encHead (headA s)) ⟨rfl, rfl, rfl, rfl⟩ ag87 rfl rfl (cells_all 0 rfl) ?_
      refine SL.call (vs := [_]) (Hin := []) ⟨rfl, rfl, rfl, rfl⟩ rfl ⟨rfl, trivial⟩ cal67 rfl rfl (c_seal_Put (headA s)) ?_
      rintro _ _ ⟨rfl, rfl⟩
      refine ⟨trivial, ?_⟩
      refine SL.mv ⟨rfl, rfl, rfl, rfl⟩ rfl ?_
      refine SL.bin ⟨rfl, rfl, rfl, rfl⟩ rfl rfl Bin.neS ?_
      refine SL.nx ?_
      refine SX.cond rfl (fun hc7 => ?_) (fun hc7 => ?_)
      · skip
        have hg : getA s = (head0, false) := by unfold getA; rw [if_neg (fun h => by simp [h.2] at hc7)]
        rw [hg]
        refine SX.sr ?_
        refine SL.bld [] ⟨rfl, rfl, rfl, rfl⟩ pl87 pk87 ze87 trivial rfl ?_
        refine SL.st 1 ⟨rfl, rfl, rfl⟩ rfl rfl rfl sz87 rfl rfl rfl trivial ?_
        refine SL.asg ⟨rfl, rfl, rfl, rfl⟩ rfl ?_
        refine SL.nx ?_
        refine SX.ret ?_
        refine SQ.thnR ?_
        refine SQ.scpR ?_
        exact SQ.fret (resv2 rfl (resv.ag 1 (encHead head0) ag87 rfl rfl rfl rfl) rfl) (ret_of (M := []) ⟨rfl, rfl⟩ fun _ h => h.skip [_, _])
      · skip
        have hg : getA s = (headA s, true) := by unfold getA; rw [if_pos ⟨hs, by simpa using hc7⟩]
        rw [hg]
        refine SX.skip ?_
        refine SQ.thn ?_
        refine SX.sr ?_
        refine SL.ldA (encHead (headA s)) ⟨rfl, rfl, rfl, rfl⟩ ag87 rfl rfl (cells_all 0 rfl) ?_
        refine SL.st 1 ⟨rfl, rfl, rfl⟩ rfl rfl rfl sz87 rfl rfl rfl trivial ?_
        refine SL.asg ⟨rfl, rfl, rfl, rfl⟩ rfl ?_
        refine SL.nx ?_
        refine SX.ret ?_
        refine SQ.scpR ?_
        exact SQ.fret (resv2 rfl (resv.ag 1 (encHead (headA s)) ag87 rfl rfl rfl rfl) rfl) (ret_of (M := []) ⟨rfl, rfl⟩ fun _ h => h.skip [_, _])

end Go.Proofs.YtddjneafgddlcaaDoor

/- The walk of a sealed block. Condition: rings of at most 2^40 keys, texts of at most 2^39 bytes. -/
namespace Go.Proofs.YtddjneafgddlcaaDoor
open Go
variable {K : Nat → Prop} {w0 : World} {H : List Chunk}

theorem c_padR (s : List UInt8) (hn : s.length ≤ 9223372036854775807) : Con Tryd.prog K w0 63 [vS s] [] H (fun r M => r = .tuple #[vS (padR s).1, vI (padR s).2] ∧ M = []) :=
  (c_pad_Pad s hn).mono fun v M h => ⟨by rw [h.1]; unfold padR; split <;> rfl, h.2⟩
theorem c_subsR (T : List UInt32) (k : KeyA) (hT : ShaT K w0 T) (hr : rightA [k] = true) : Con Tryd.prog K w0 64 [.agg (encKey k).toArray] [] H (fun r M => r = .tuple #[vS (subA T k sealW), vS (subA T k bindW), vI 0] ∧ M = []) :=
  (c_keys_Subs T k hT).mono fun v M h => ⟨by rw [h.1, if_pos hr], h.2⟩
theorem c_seal_Seal (T : List UInt32) (v : Value) (l : List KeyA) (h : HeadA) (s : List UInt8) (hT : ShaT K w0 T) (hk : SlOf K w0 encKey 2 v l) (hv : v.cells = #[v]) (hl : l.length ≤ 1099511627776) (hn : s.length ≤ 9223372036854775807) : Con Tryd.prog K w0 50 [v, .agg (encHead h).toArray, vS s] [] H (fun r M => r = .tuple #[vS (sealA T l h s).1, vI (sealA T l h s).2] ∧ M = []) := by
  refine Con.enter Tryd.func50 rfl rfl ?_
  refine SX.sr ?_
  refine SL.box ⟨rfl, rfl, rfl, rfl⟩ rfl (fun _ => trivial) fun b0 => ?_
  refine SL.asg ⟨rfl, rfl, rfl, rfl⟩ rfl ?_
  refine SL.asg ⟨rfl, rfl, rfl, rfl⟩ rfl ?_
  refine SL.nx ?_
  refine SX.sr ?_
  refine SL.mv ⟨rfl, rfl, rfl, rfl⟩ rfl ?_
  refine SL.fa ⟨rfl, rfl, rfl, rfl⟩ rfl fo87_1 ?_
  refine SL.ld ⟨rfl, rfl, rfl, rfl⟩ sc22 rfl (cell_own 0 rfl rfl) ?_
  refine SL.call (vs := [_, _]) (Hin := []) ⟨rfl, rfl, rfl, rfl⟩ rfl ⟨rfl, rfl, trivial⟩ cal28 rfl rfl (c_keys_Find v l h.gen hk hv hl) ?_
  rintro _ _ ⟨rfl, rfl⟩
  refine ⟨trivial, ?_⟩
  generalize hf : findA l h.gen = f
  refine SL.mv ⟨rfl, rfl, rfl, rfl⟩ rfl ?_
  refine SL.ext ⟨rfl, rfl, rfl, rfl⟩ rfl rfl ?_
  refine SL.ext ⟨rfl, rfl, rfl, rfl⟩ rfl rfl ?_
  refine SL.alloc ⟨rfl, rfl, rfl, rfl⟩ ze70 (fun _ => trivial) fun b1 => ?_
  refine SL.st 0 ⟨rfl, rfl, rfl⟩ rfl rfl rfl sz70 rfl rfl rfl trivial ?_
  refine SL.asg ⟨rfl, rfl, rfl, rfl⟩ rfl ?_
  refine SL.nx ?_
  refine SX.seq ?_
  refine SX.sr ?_
  refine SL.mv ⟨rfl, rfl, rfl, rfl⟩ rfl ?_
  refine SL.bin ⟨rfl, rfl, rfl, rfl⟩ rfl rfl Bin.neI ?_
  refine SL.nx ?_
  refine SX.cond rfl (fun hc1 => ?_) (fun hc1 => ?_)
  · skip
    have he : f.2 ≠ 0 := by simpa using hc1
    have hs : sealA T l h s = ([], f.2) := by unfold sealA; rw [hf, if_pos he]
    rw [hs]
    refine SX.sr ?_
    refine SL.mv ⟨rfl, rfl, rfl, rfl⟩ rfl ?_
    refine SL.asg ⟨rfl, rfl, rfl, rfl⟩ rfl ?_
    refine SL.asg ⟨rfl, rfl, rfl, rfl⟩ rfl ?_
    refine SL.nx ?_
    refine SX.ret ?_
    refine SQ.thnR ?_
    exact SQ.fret (res2 rfl rfl rfl) (ret_of (M := []) ⟨rfl, rfl⟩ fun _ h => h.skip [_, _])
  · skip
    have he : f.2 = 0 := by simpa using hc1
    have hok := find_ok (l := l) (g := h.gen) (by rw [hf]; exact he)
    rw [hf] at hok
    refine SX.skip ?_
    refine SQ.thn ?_
    refine SX.sr ?_
    refine SL.mv ⟨rfl, rfl, rfl, rfl⟩ rfl ?_
    refine SL.call (vs := [_]) (Hin := []) ⟨rfl, rfl, rfl, rfl⟩ rfl ⟨rfl, trivial⟩ cal63 rfl rfl (c_padR s hn) ?_
    rintro _ _ ⟨rfl, rfl⟩
    refine ⟨trivial, ?_⟩
    refine SL.mv ⟨rfl, rfl, rfl, rfl⟩ rfl ?_
    refine SL.ext ⟨rfl, rfl, rfl, rfl⟩ rfl rfl ?_
    refine SL.ext ⟨rfl, rfl, rfl, rfl⟩ rfl rfl ?_
    refine SL.asg ⟨rfl, rfl, rfl, rfl⟩ rfl ?_
    refine SL.asg ⟨rfl, rfl, rfl, rfl⟩ rfl ?_
    refine SL.nx ?_
    refine SX.seq ?_
    refine SX.sr ?_
    refine SL.mv ⟨rfl, rfl, rfl, rfl⟩ rfl ?_
    refine SL.bin ⟨rfl, rfl, rfl, rfl⟩ rfl rfl Bin.neI ?_
    refine SL.nx ?_
    refine SX.cond rfl (fun hc2 => ?_) (fun hc2 => ?_)
    · skip
      have h1 : 198 < s.length := by
        unfold padR at hc2
        split at hc2
        · assumption
        · simp at hc2
      have hs : sealA T l h s = ([], 50) := by unfold sealA; rw [hf, if_neg (by simp [he]), if_pos h1]
      have hp : padR s = ([], 50) := by unfold padR; rw [if_pos h1]
      rw [hs, hp]
      refine SX.sr ?_
      refine SL.mv ⟨rfl, rfl, rfl, rfl⟩ rfl ?_
      refine SL.asg ⟨rfl, rfl, rfl, rfl⟩ rfl ?_
      refine SL.asg ⟨rfl, rfl, rfl, rfl⟩ rfl ?_
      refine SL.nx ?_
      refine SX.ret ?_
      refine SQ.thnR ?_
      exact SQ.fret (res2 rfl rfl rfl) (ret_of (M := []) ⟨rfl, rfl⟩ fun _ h => h.skip [_, _])
    · skip
      have h1 : ¬ 198 < s.length := by
        intro h1
        unfold padR at hc2
        rw [if_pos h1] at hc2
        simp at hc2
      have hp : padR s = (padA s, 0) := by unfold padR; rw [if_neg h1]
      have hpl : (padA s).length = 200 := padA_length (by omega)
      have hbl := boundA_length T f.1 h hpl
      have hsl1 := subA_length T f.1 sealW
      have hsl2 := subA_length T f.1 bindW
      have hs : sealA T l h s = (blkA T f.1 h s, 0) := by unfold sealA; rw [hf, if_neg (by simp [he]), if_neg h1]
      rw [hs, hp]
      refine SX.skip ?_
      refine SQ.thn ?_
      refine SX.sr ?_
      refine SL.ldA (encKey f.1) ⟨rfl, rfl, rfl, rfl⟩ ag70 rfl rfl (cells_all 0 rfl) ?_
      refine SL.call (vs := [_]) (Hin := []) ⟨rfl, rfl, rfl, rfl⟩ rfl ⟨rfl, trivial⟩ cal64 rfl rfl (c_subsR T f.1 hT hok.2.2.2) ?_
      rintro _ _ ⟨rfl, rfl⟩
      refine ⟨trivial, ?_⟩
      refine SL.mv ⟨rfl, rfl, rfl, rfl⟩ rfl ?_
      refine SL.ext ⟨rfl, rfl, rfl, rfl⟩ rfl rfl ?_
      refine SL.ext ⟨rfl, rfl, rfl, rfl⟩ rfl rfl ?_
      refine SL.ext ⟨rfl, rfl, rfl, rfl⟩ rfl rfl ?_
      refine SL.asg ⟨rfl, rfl, rfl, rfl⟩ rfl ?_
      refine SL.asg ⟨rfl, rfl, rfl, rfl⟩ rfl ?_
      refine SL.asg ⟨rfl, rfl, rfl, rfl⟩ rfl ?_
      refine SL.nx ?_
      refine SX.sr ?_
      refine SL.mv ⟨rfl, rfl, rfl, rfl⟩ rfl ?_
      refine SL.ldA (encHead h) ⟨rfl, rfl, rfl, rfl⟩ ag87 rfl rfl (cells_all 1 rfl) ?_
      refine SL.call (vs := [_]) (Hin := []) ⟨rfl, rfl, rfl, rfl⟩ rfl ⟨rfl, trivial⟩ cal66 rfl rfl (c_seal_nonce h) ?_
      rintro _ _ ⟨rfl, rfl⟩
      refine ⟨trivial, ?_⟩
      refine SL.mv ⟨rfl, rfl, rfl, rfl⟩ rfl ?_
      refine SL.call (vs := [_, _, _]) (Hin := []) ⟨rfl, rfl, rfl, rfl⟩ rfl ⟨rfl, rfl, rfl, trivial⟩ cal65 rfl rfl (c_arx_Xor (subA T f.1 sealW) (nonceA h) (padA s) hsl1 (nonceA_length h) (by omega)) ?_
      rintro _ _ ⟨rfl, rfl⟩
      refine ⟨trivial, ?_⟩
      refine SL.mv ⟨rfl, rfl, rfl, rfl⟩ rfl ?_
      refine SL.ext ⟨rfl, rfl, rfl, rfl⟩ rfl rfl ?_
      refine SL.ext ⟨rfl, rfl, rfl, rfl⟩ rfl rfl ?_
      refine SL.asg ⟨rfl, rfl, rfl, rfl⟩ rfl ?_
      refine SL.asg ⟨rfl, rfl, rfl, rfl⟩ rfl ?_
      refine SL.nx ?_
      refine SX.sr ?_
      refine SL.ldA (encHead h) ⟨rfl, rfl, rfl, rfl⟩ ag87 rfl rfl (cells_all 1 rfl) ?_
      refine SL.call (vs := [_]) (Hin := []) ⟨rfl, rfl, rfl, rfl⟩ rfl ⟨rfl, trivial⟩ cal67 rfl rfl (c_seal_Put h) ?_
      rintro _ _ ⟨rfl, rfl⟩
      refine ⟨trivial, ?_⟩
      refine SL.mv ⟨rfl, rfl, rfl, rfl⟩ rfl ?_
      refine SL.bin ⟨rfl, rfl, rfl, rfl⟩ rfl rfl (Bin.cat (by rw [putA_length, xorA_length]; omega)) ?_
      refine SL.asg ⟨rfl, rfl, rfl, rfl⟩ rfl ?_
      refine SL.nx ?_
      refine SX.sr ?_
      refine SL.mv ⟨rfl, rfl, rfl, rfl⟩ rfl ?_
      refine SL.mv ⟨rfl, rfl, rfl, rfl⟩ rfl ?_
      refine SL.mv ⟨rfl, rfl, rfl, rfl⟩ rfl ?_
      refine SL.bsl [_] ⟨rfl, rfl, rfl, rfl⟩ ty49 sz9 ze9 ⟨rfl, trivial⟩ rfl rfl rfl (by simp [Value.cells]) rfl rfl (fun _ => trivial) fun b2 => ?_
      refine SL.call (vs := [_, _]) (Hin := [_]) ⟨rfl, rfl, rfl, rfl⟩ rfl ⟨rfl, rfl, trivial⟩ cal68 rfl rfl (c_mac_Mac T (subA T f.1 bindW) [boundA T f.1 h (padA s)] b2 hT (by omega) (by simp; omega) (by simp)) ?_
      rintro _ _ ⟨rfl, rfl⟩
      refine ⟨trivial, ?_⟩
      refine SL.bin ⟨rfl, rfl, rfl, rfl⟩ rfl rfl (Bin.cat (by rw [macA_length]; have := hbl; simp only [boundA] at this; omega)) ?_
      refine SL.asg ⟨rfl, rfl, rfl, rfl⟩ rfl ?_
      refine SL.asg ⟨rfl, rfl, rfl, rfl⟩ rfl ?_
      refine SL.nx ?_
      refine SX.ret ?_
      exact SQ.fret (res2 rfl rfl rfl) (ret_of (M := []) ⟨by simp [blkA, boundA], rfl⟩ fun _ h => h.skip [_, _])

end Go.Proofs.YtddjneafgddlcaaDoor

/- The walk of what a block is opened to. Condition: rings of at most 2^40 keys, texts of at most 2^39 bytes. -/
namespace Go.Proofs.YtddjneafgddlcaaDoor
open Go
variable {K : Nat → Prop} {w0 : World} {H : List Chunk}

theorem take_drop_200 {bb : List UInt8} (h : bb.length = 256) : ((bb.drop 24).take (224 - 24)).length = 200 := by simp [h]
theorem c_seal_Open (T : List UInt32) (v : Value) (l : List KeyA) (bb : List UInt8) (hT : ShaT K w0 T) (hk : SlOf K w0 encKey 2 v l) (hv : v.cells = #[v]) (hl : l.length ≤ 1099511627776) (hn : bb.length ≤ 9223372036854775807) : Con Tryd.prog K w0 53 [v, vS bb] [] H (fun r M => r = .tuple #[.agg (encHead (openA T l bb).1).toArray, vS (openA T l bb).2.1, vI (openA T l bb).2.2] ∧ M = []) := by
  refine Con.enter Tryd.func53 rfl rfl ?_
  refine SX.sr ?_
  refine SL.alloc ⟨rfl, rfl, rfl, rfl⟩ ze87 (fun _ => trivial) fun b0 => ?_
  refine SL.asg ⟨rfl, rfl, rfl, rfl⟩ rfl ?_
  refine SL.asg ⟨rfl, rfl, rfl, rfl⟩ rfl ?_
  refine SL.nx ?_
  refine SX.sr ?_
  refine SL.bld [] ⟨rfl, rfl, rfl, rfl⟩ pl87 pk87 ze87 trivial rfl ?_
  refine SL.alloc ⟨rfl, rfl, rfl, rfl⟩ ze87 (fun _ => trivial) fun b1 => ?_
  refine SL.st 0 ⟨rfl, rfl, rfl⟩ rfl rfl rfl sz87 rfl rfl rfl trivial ?_
  refine SL.nx ?_
  refine SX.seq ?_
  refine SX.sr ?_
  refine SL.mv ⟨rfl, rfl, rfl, rfl⟩ rfl ?_
  refine SL.call (vs := [_]) (Hin := []) ⟨rfl, rfl, rfl, rfl⟩ rfl ⟨rfl, trivial⟩ cal45 rfl rfl (c_keys_Right v l hk hv hl) ?_
  rintro _ _ ⟨rfl, rfl⟩
  refine ⟨trivial, ?_⟩
  refine SL.not ⟨rfl, rfl, rfl, rfl⟩ rfl ?_
  refine SL.nx ?_
  refine SX.cond rfl (fun hc1 => ?_) (fun hc1 => ?_)
  · skip
    have hr : rightA l = false := by simpa using hc1
    have ho : openA T l bb = (head0, [], 40) := by unfold openA; rw [if_pos hr]
    rw [ho]
    refine SX.sr ?_
    refine SL.ldA (encHead head0) ⟨rfl, rfl, rfl, rfl⟩ ag87 rfl rfl (cells_all 0 rfl) ?_
    refine SL.st 1 ⟨rfl, rfl, rfl⟩ rfl rfl rfl sz87 rfl rfl rfl trivial ?_
    refine SL.asg ⟨rfl, rfl, rfl, rfl⟩ rfl ?_
    refine SL.asg ⟨rfl, rfl, rfl, rfl⟩ rfl ?_
    refine SL.nx ?_
    refine SX.ret ?_
    refine SQ.thnR ?_
    exact SQ.fret (resv3 rfl (resv.ag 1 (encHead head0) ag87 rfl rfl rfl rfl) rfl rfl) (ret_of (M := []) ⟨rfl, rfl⟩ fun _ h => h.skip [_, _])
  · skip
    have hr : ¬ rightA l = false := by simpa using hc1
    refine SX.skip ?_
    refine SQ.thn ?_
    refine SX.seq ?_
    refine SX.sr ?_
    refine SL.mv ⟨rfl, rfl, rfl, rfl⟩ rfl ?_
    refine SL.lenS ⟨rfl, rfl, rfl, rfl⟩ ty9 rfl ?_
    refine SL.bin ⟨rfl, rfl, rfl, rfl⟩ rfl rfl Bin.neI ?_
    refine SL.nx ?_
    refine SX.cond rfl (fun hc2 => ?_) (fun hc2 => ?_)
    · skip
      have hb : bb.length ≠ 256 := by simp at hc2; omega
      have ho : openA T l bb = (head0, [], 61) := by unfold openA; rw [if_neg hr, if_pos hb]
      rw [ho]
      refine SX.sr ?_
      refine SL.ldA (encHead head0) ⟨rfl, rfl, rfl, rfl⟩ ag87 rfl rfl (cells_all 0 rfl) ?_
      refine SL.st 1 ⟨rfl, rfl, rfl⟩ rfl rfl rfl sz87 rfl rfl rfl trivial ?_
      refine SL.asg ⟨rfl, rfl, rfl, rfl⟩ rfl ?_
      refine SL.asg ⟨rfl, rfl, rfl, rfl⟩ rfl ?_
      refine SL.nx ?_
      refine SX.ret ?_
      refine SQ.thnR ?_
      exact SQ.fret (resv3 rfl (resv.ag 1 (encHead head0) ag87 rfl rfl rfl rfl) rfl rfl) (ret_of (M := []) ⟨rfl, rfl⟩ fun _ h => h.skip [_, _])
    · skip
      have hb : bb.length = 256 := by simp at hc2; omega
      have hb' : ¬ bb.length ≠ 256 := fun h => h hb
      refine SX.skip ?_
      refine SQ.thn ?_
      refine SX.sr ?_
      refine SL.mv ⟨rfl, rfl, rfl, rfl⟩ rfl ?_
      refine SL.slSh 24 ⟨rfl, rfl, rfl, rfl⟩ ty9 rfl rfl (by omega) (by omega) ?_
      refine SL.call (vs := [_]) (Hin := []) ⟨rfl, rfl, rfl, rfl⟩ rfl ⟨rfl, trivial⟩ cal70 rfl rfl (c_seal_Get (bb.take 24)) ?_
      rintro _ _ ⟨rfl, rfl⟩
      refine ⟨trivial, ?_⟩
      generalize hg : getA (bb.take 24) = g
      refine SL.mv ⟨rfl, rfl, rfl, rfl⟩ rfl ?_
      refine SL.ext ⟨rfl, rfl, rfl, rfl⟩ rfl rfl ?_
      refine SL.ext ⟨rfl, rfl, rfl, rfl⟩ rfl rfl ?_
      refine SL.alloc ⟨rfl, rfl, rfl, rfl⟩ ze87 (fun _ => trivial) fun b2 => ?_
      refine SL.st 0 ⟨rfl, rfl, rfl⟩ rfl rfl rfl sz87 rfl rfl rfl trivial ?_
      refine SL.asg ⟨rfl, rfl, rfl, rfl⟩ rfl ?_
      refine SL.nx ?_
      refine SX.seq ?_
      refine SX.sr ?_
      refine SL.mv ⟨rfl, rfl, rfl, rfl⟩ rfl ?_
      refine SL.not ⟨rfl, rfl, rfl, rfl⟩ rfl ?_
      refine SL.nx ?_
      refine SX.cond rfl (fun hc3 => ?_) (fun hc3 => ?_)
      · skip
        have h3 : g.2 = false := by simpa using hc3
        have ho : openA T l bb = (head0, [], 61) := by unfold openA; rw [if_neg hr, if_neg hb', hg, if_pos h3]
        rw [ho]
        refine SX.sr ?_
        refine SL.ldA (encHead head0) ⟨rfl, rfl, rfl, rfl⟩ ag87 rfl rfl (cells_all 1 rfl) ?_
        refine SL.st 2 ⟨rfl, rfl, rfl⟩ rfl rfl rfl sz87 rfl rfl rfl trivial ?_
        refine SL.asg ⟨rfl, rfl, rfl, rfl⟩ rfl ?_
        refine SL.asg ⟨rfl, rfl, rfl, rfl⟩ rfl ?_
        refine SL.nx ?_
        refine SX.ret ?_
        refine SQ.thnR ?_
        exact SQ.fret (resv3 rfl (resv.ag 2 (encHead head0) ag87 rfl rfl rfl rfl) rfl rfl) (ret_of (M := []) ⟨rfl, rfl⟩ fun _ h => h.skip [_, _, _])
      · skip
        have h3 : ¬ g.2 = false := by simpa using hc3
        refine SX.skip ?_
        refine SQ.thn ?_
        refine SX.sr ?_
        refine SL.mv ⟨rfl, rfl, rfl, rfl⟩ rfl ?_
        refine SL.fa ⟨rfl, rfl, rfl, rfl⟩ rfl fo87_1 ?_
        refine SL.ld ⟨rfl, rfl, rfl, rfl⟩ sc22 rfl (cell_own 0 rfl rfl) ?_
        refine SL.call (vs := [_, _]) (Hin := []) ⟨rfl, rfl, rfl, rfl⟩ rfl ⟨rfl, rfl, trivial⟩ cal28 rfl rfl (c_keys_Find v l g.1.gen hk hv hl) ?_
        rintro _ _ ⟨rfl, rfl⟩
        refine ⟨trivial, ?_⟩
        generalize hf : findA l g.1.gen = f
        refine SL.mv ⟨rfl, rfl, rfl, rfl⟩ rfl ?_
        refine SL.ext ⟨rfl, rfl, rfl, rfl⟩ rfl rfl ?_
        refine SL.ext ⟨rfl, rfl, rfl, rfl⟩ rfl rfl ?_
        refine SL.alloc ⟨rfl, rfl, rfl, rfl⟩ ze70 (fun _ => trivial) fun b3 => ?_
        refine SL.st 0 ⟨rfl, rfl, rfl⟩ rfl rfl rfl sz70 rfl rfl rfl trivial ?_
        refine SL.asg ⟨rfl, rfl, rfl, rfl⟩ rfl ?_
        refine SL.nx ?_
        refine SX.seq ?_
        refine SX.sr ?_
        refine SL.mv ⟨rfl, rfl, rfl, rfl⟩ rfl ?_
        refine SL.bin ⟨rfl, rfl, rfl, rfl⟩ rfl rfl Bin.neI ?_
        refine SL.nx ?_
        refine SX.cond rfl (fun hc4 => ?_) (fun hc4 => ?_)
        · skip
          have h4 : f.2 ≠ 0 := by simpa using hc4
          have ho : openA T l bb = (head0, [], f.2) := by unfold openA; rw [if_neg hr, if_neg hb', hg, if_neg h3, hf, if_pos h4]
          rw [ho]
          refine SX.sr ?_
          refine SL.ldA (encHead head0) ⟨rfl, rfl, rfl, rfl⟩ ag87 rfl rfl (cells_all 2 rfl) ?_
          refine SL.mv ⟨rfl, rfl, rfl, rfl⟩ rfl ?_
          refine SL.st 3 ⟨rfl, rfl, rfl⟩ rfl rfl rfl sz87 rfl rfl rfl trivial ?_
          refine SL.asg ⟨rfl, rfl, rfl, rfl⟩ rfl ?_
          refine SL.asg ⟨rfl, rfl, rfl, rfl⟩ rfl ?_
          refine SL.nx ?_
          refine SX.ret ?_
          refine SQ.thnR ?_
          exact SQ.fret (resv3 rfl (resv.ag 3 (encHead head0) ag87 rfl rfl rfl rfl) rfl rfl) (ret_of (M := []) ⟨rfl, rfl⟩ fun _ h => h.skip [_, _, _, _])
        · skip
          have h4 : f.2 = 0 := by simpa using hc4
          have h4' : ¬ f.2 ≠ 0 := fun h => h h4
          have hok := find_ok (l := l) (g := g.1.gen) (by rw [hf]; exact h4)
          rw [hf] at hok
          have hsl1 := subA_length T f.1 sealW
          have hsl2 := subA_length T f.1 bindW
          refine SX.skip ?_
          refine SQ.thn ?_
          refine SX.sr ?_
          refine SL.ldA (encKey f.1) ⟨rfl, rfl, rfl, rfl⟩ ag70 rfl rfl (cells_all 0 rfl) ?_
          refine SL.call (vs := [_]) (Hin := []) ⟨rfl, rfl, rfl, rfl⟩ rfl ⟨rfl, trivial⟩ cal64 rfl rfl (c_subsR T f.1 hT hok.2.2.2) ?_
          rintro _ _ ⟨rfl, rfl⟩
          refine ⟨trivial, ?_⟩
          refine SL.mv ⟨rfl, rfl, rfl, rfl⟩ rfl ?_
          refine SL.ext ⟨rfl, rfl, rfl, rfl⟩ rfl rfl ?_
          refine SL.ext ⟨rfl, rfl, rfl, rfl⟩ rfl rfl ?_
          refine SL.ext ⟨rfl, rfl, rfl, rfl⟩ rfl rfl ?_
          refine SL.asg ⟨rfl, rfl, rfl, rfl⟩ rfl ?_
          refine SL.asg ⟨rfl, rfl, rfl, rfl⟩ rfl ?_
          refine SL.asg ⟨rfl, rfl, rfl, rfl⟩ rfl ?_
          refine SL.nx ?_
          refine SX.seq ?_
          refine SX.sr ?_
          refine SL.mv ⟨rfl, rfl, rfl, rfl⟩ rfl ?_
          refine SL.mv ⟨rfl, rfl, rfl, rfl⟩ rfl ?_
          refine SL.slSh 224 ⟨rfl, rfl, rfl, rfl⟩ ty9 rfl rfl (by omega) (by omega) ?_
          refine SL.bsl [_] ⟨rfl, rfl, rfl, rfl⟩ ty49 sz9 ze9 ⟨rfl, trivial⟩ rfl rfl rfl (by simp [Value.cells]) rfl rfl (fun _ => trivial) fun b4 => ?_
          refine SL.call (vs := [_, _]) (Hin := [_]) ⟨rfl, rfl, rfl, rfl⟩ rfl ⟨rfl, rfl, trivial⟩ cal68 rfl rfl (c_mac_Mac T (subA T f.1 bindW) [bb.take 224] b4 hT (by omega) (by simp; omega) (by simp)) ?_
          rintro _ _ ⟨rfl, rfl⟩
          refine ⟨trivial, ?_⟩
          refine SL.mv ⟨rfl, rfl, rfl, rfl⟩ rfl ?_
          refine SL.call (vs := [_]) (Hin := []) ⟨rfl, rfl, rfl, rfl⟩ rfl ⟨rfl, trivial⟩ cal52 rfl rfl (c_seal_Tag bb (by omega)) ?_
          rintro _ _ ⟨rfl, rfl⟩
          refine ⟨trivial, ?_⟩
          refine SL.call (vs := [_, _]) (Hin := []) ⟨rfl, rfl, rfl, rfl⟩ rfl ⟨rfl, rfl, trivial⟩ cal71 rfl rfl (c_mac_Equal _ _ (by rw [macA_length]; omega)) ?_
          rintro _ _ ⟨rfl, rfl⟩
          refine ⟨trivial, ?_⟩
          have e5 : macA T (subA T f.1 bindW) [bb.take 224].flatten = macA T (subA T f.1 bindW) (bb.take 224) := by simp
          rw [e5, show bb.length - 32 = 224 by omega]
          refine SL.not ⟨rfl, rfl, rfl, rfl⟩ rfl ?_
          refine SL.nx ?_
          refine SX.cond rfl (fun hc5 => ?_) (fun hc5 => ?_)
          · skip
            have h5 : macA T (subA T f.1 bindW) (bb.take 224) ≠ bb.drop 224 := by simpa using hc5
            have ho : openA T l bb = (head0, [], 61) := by unfold openA; rw [if_neg hr, if_neg hb', hg, if_neg h3, hf, if_neg h4', if_pos h5]
            rw [ho]
            refine SX.sr ?_
            refine SL.ldA (encHead head0) ⟨rfl, rfl, rfl, rfl⟩ ag87 rfl rfl (cells_all 2 rfl) ?_
            refine SL.st 3 ⟨rfl, rfl, rfl⟩ rfl rfl rfl sz87 rfl rfl rfl trivial ?_
            refine SL.asg ⟨rfl, rfl, rfl, rfl⟩ rfl ?_
            refine SL.asg ⟨rfl, rfl, rfl, rfl⟩ rfl ?_
            refine SL.nx ?_
            refine SX.ret ?_
            refine SQ.thnR ?_
            exact SQ.fret (resv3 rfl (resv.ag 3 (encHead head0) ag87 rfl rfl rfl rfl) rfl rfl) (ret_of (M := []) ⟨rfl, rfl⟩ fun _ h => h.skip [_, _, _, _])
          · skip
            have h5 : ¬ macA T (subA T f.1 bindW) (bb.take 224) ≠ bb.drop 224 := by simpa using hc5
            refine SX.skip ?_
            refine SQ.thn ?_
            refine SX.seq ?_
            refine SX.drawI mix [1] (Pl.of [(true, 0), (true, 1), (true, 3), (true, 4), (false, 2), (false, 5), (true, 6), (true, 7), (true, 8), (true, 9), (true, 10)]) (by kernel_rfl) ?_
            refine SL.mv ⟨rfl, rfl, rfl, rfl⟩ rfl ?_
            refine SL.ldA (encHead g.1) ⟨rfl, rfl, rfl, rfl⟩ ag87 rfl rfl (cells_all 0 rfl) ?_
            refine SL.mv ⟨rfl, rfl, rfl, rfl⟩ rfl ?_
            refine SL.slS 24 224 ⟨rfl, rfl, rfl, rfl⟩ ty9 rfl rfl rfl (by omega) (by omega) (by omega) (by omega) ?_
            refine SL.call (vs := [_]) (Hin := []) ⟨rfl, rfl, rfl, rfl⟩ rfl ⟨rfl, trivial⟩ cal66 rfl rfl (c_seal_nonce g.1) ?_
            rintro _ _ ⟨rfl, rfl⟩
            refine ⟨⟨⟨1, rfl⟩, trivial⟩, ?_⟩
            refine SL.call (vs := [_, _, _]) (Hin := []) ⟨rfl, rfl, rfl, rfl⟩ rfl ⟨rfl, rfl, rfl, trivial⟩ cal65 rfl rfl (c_arx_Xor (subA T f.1 sealW) (nonceA g.1) _ hsl1 (nonceA_length g.1) (by rw [take_drop_200 hb]; omega)) ?_
            rintro _ _ ⟨rfl, rfl⟩
            refine ⟨⟨⟨1, rfl⟩, trivial⟩, ?_⟩
            refine SL.mv ⟨rfl, rfl, rfl, rfl⟩ rfl ?_
            refine SL.ext ⟨rfl, rfl, rfl, rfl⟩ rfl rfl ?_
            refine SL.ext ⟨rfl, rfl, rfl, rfl⟩ rfl rfl ?_
            refine SL.asg ⟨rfl, rfl, rfl, rfl⟩ rfl ?_
            refine SL.asg ⟨rfl, rfl, rfl, rfl⟩ rfl ?_
            refine SL.nx ?_
            refine SX.sr ?_
            refine SL.mv ⟨rfl, rfl, rfl, rfl⟩ rfl ?_
            refine SL.call (vs := [_]) (Hin := []) ⟨rfl, rfl, rfl, rfl⟩ rfl ⟨rfl, trivial⟩ cal72 rfl rfl (c_pad_Unpad (xorA (subA T f.1 sealW) (nonceA g.1) ((bb.drop 24).take (224 - 24)))) ?_
            rintro _ _ ⟨rfl, rfl⟩
            refine ⟨trivial, ?_⟩
            generalize hu : unpadA (xorA (subA T f.1 sealW) (nonceA g.1) ((bb.drop 24).take (224 - 24))) = u
            have hul : u.1.length ≤ 200 := by
              rw [← hu]
              unfold unpadA
              split
              · simp
              · split
                · simp
                · split
                  · simp only [List.length_take, List.length_drop, xorA_length, take_drop_200 hb]; omega
                  · simp
            refine SL.mv ⟨rfl, rfl, rfl, rfl⟩ rfl ?_
            refine SL.ext ⟨rfl, rfl, rfl, rfl⟩ rfl rfl ?_
            refine SL.ext ⟨rfl, rfl, rfl, rfl⟩ rfl rfl ?_
            refine SL.asg ⟨rfl, rfl, rfl, rfl⟩ rfl ?_
            refine SL.asg ⟨rfl, rfl, rfl, rfl⟩ rfl ?_
            refine SL.nx ?_
            refine SX.seq ?_
            refine SX.sr ?_
            refine SL.mv ⟨rfl, rfl, rfl, rfl⟩ rfl ?_
            refine SL.ldA (encHead g.1) ⟨rfl, rfl, rfl, rfl⟩ ag87 rfl rfl (cells_all 1 rfl) ?_
            refine SL.mv ⟨rfl, rfl, rfl, rfl⟩ rfl ?_
            refine SL.call (vs := [_, _, _]) (Hin := []) ⟨rfl, rfl, rfl, rfl⟩ rfl ⟨rfl, rfl, rfl, trivial⟩ cal50 rfl rfl (c_seal_Seal T v l g.1 u.1 hT hk hv hl (by omega)) ?_
            rintro _ _ ⟨rfl, rfl⟩
            refine ⟨trivial, ?_⟩
            generalize hag : sealA T l g.1 u.1 = ag
            have ho : openA T l bb = if u.2 ≠ 0 ∨ ag.2 ≠ 0 ∨ ag.1 ≠ bb then (head0, [], 61) else (g.1, u.1, 0) := by
              unfold openA
              rw [if_neg hr, if_neg hb', hg, if_neg h3, hf, if_neg h4', if_neg h5]
              simp only
              rw [hf, show unpadA (xorA (subA T f.1 sealW) (nonceA g.1) ((bb.drop 24).take 200)) = u from hu, hag]
            refine SL.mv ⟨rfl, rfl, rfl, rfl⟩ rfl ?_
            refine SL.ext ⟨rfl, rfl, rfl, rfl⟩ rfl rfl ?_
            refine SL.ext ⟨rfl, rfl, rfl, rfl⟩ rfl rfl ?_
            refine SL.asg ⟨rfl, rfl, rfl, rfl⟩ rfl ?_
            refine SL.asg ⟨rfl, rfl, rfl, rfl⟩ rfl ?_
            refine SL.nx ?_
            refine SX.mono (l' := [(1, _), (4, _), (7, _), (8, _), (11, _), (17, _), (18, _), (19, _)]) ?_ ⟨rfl, rfl, rfl, rfl, rfl, rfl, rfl, rfl, trivial⟩
            refine SX.sr ?_
            refine SL.mv ⟨rfl, rfl, rfl, rfl⟩ rfl ?_
            refine SL.bin ⟨rfl, rfl, rfl, rfl⟩ rfl rfl Bin.neI ?_
            refine SL.mv ⟨rfl, rfl, rfl, rfl⟩ rfl ?_
            refine SL.or (c := (!decide (ag.2 = 0))) 88 3 91 rfl (fun hb k => ?_) (fun hb k => ?_) ?_
            · skip
              refine SL.pass rfl rfl rfl ?_
              refine SL.pass rfl rfl rfl ?_
              refine SL.pk ⟨rfl, rfl, rfl, rfl⟩ rfl rfl ?_
              exact k.mono (by repeat' (first | exact trivial | refine And.intro rfl ?_))
            · skip
              refine SL.mv ⟨rfl, rfl, rfl, rfl⟩ rfl ?_
              refine SL.bin ⟨rfl, rfl, rfl, rfl⟩ rfl rfl Bin.neI ?_
              refine SL.pk ⟨rfl, rfl, rfl, rfl⟩ rfl rfl ?_
              exact k.mono (by repeat' (first | exact trivial | refine And.intro rfl ?_))
            refine SL.mv ⟨rfl, rfl, rfl, rfl⟩ rfl ?_
            refine SL.or (c := (!decide (ag.1 = bb))) 92 4 96 rfl (fun hb k => ?_) (fun hb k => ?_) ?_
            · skip
              refine SL.pass rfl rfl rfl ?_
              refine SL.pass rfl rfl rfl ?_
              refine SL.pass rfl rfl rfl ?_
              refine SL.pk ⟨rfl, rfl, rfl, rfl⟩ rfl rfl ?_
              exact k.mono (by repeat' (first | exact trivial | refine And.intro rfl ?_))
            · skip
              refine SL.mv ⟨rfl, rfl, rfl, rfl⟩ rfl ?_
              refine SL.mv ⟨rfl, rfl, rfl, rfl⟩ rfl ?_
              refine SL.bin ⟨rfl, rfl, rfl, rfl⟩ rfl rfl Bin.neS ?_
              refine SL.pk ⟨rfl, rfl, rfl, rfl⟩ rfl rfl ?_
              exact k.mono (by repeat' (first | exact trivial | refine And.intro rfl ?_))
            refine SL.nx ?_
            refine SX.cond rfl (fun hc6 => ?_) (fun hc6 => ?_)
            · skip
              have h6 : u.2 ≠ 0 ∨ ag.2 ≠ 0 ∨ ag.1 ≠ bb := by simpa [or_assoc] using hc6
              rw [if_pos h6] at ho
              rw [ho]
              refine SX.sr ?_
              refine SL.ldA (encHead head0) ⟨rfl, rfl, rfl, rfl⟩ ag87 rfl rfl (cells_all 2 rfl) ?_
              refine SL.st 3 ⟨rfl, rfl, rfl⟩ rfl rfl rfl sz87 rfl rfl rfl trivial ?_
              refine SL.asg ⟨rfl, rfl, rfl, rfl⟩ rfl ?_
              refine SL.asg ⟨rfl, rfl, rfl, rfl⟩ rfl ?_
              refine SL.nx ?_
              refine SX.ret ?_
              refine SQ.thnR ?_
              exact SQ.fret (resv3 rfl (resv.ag 3 (encHead head0) ag87 rfl rfl rfl rfl) rfl rfl) (ret_of (M := []) ⟨rfl, rfl⟩ fun _ h => h.skip [_, _, _, _])
            · skip
              have h6 : ¬ (u.2 ≠ 0 ∨ ag.2 ≠ 0 ∨ ag.1 ≠ bb) := by
                simp at hc6
                simp [hc6]
              rw [if_neg h6] at ho
              rw [ho]
              refine SX.skip ?_
              refine SQ.thn ?_
              refine SX.sr ?_
              refine SL.ldA (encHead g.1) ⟨rfl, rfl, rfl, rfl⟩ ag87 rfl rfl (cells_all 1 rfl) ?_
              refine SL.mv ⟨rfl, rfl, rfl, rfl⟩ rfl ?_
              refine SL.st 3 ⟨rfl, rfl, rfl⟩ rfl rfl rfl sz87 rfl rfl rfl trivial ?_
              refine SL.asg ⟨rfl, rfl, rfl, rfl⟩ rfl ?_
              refine SL.asg ⟨rfl, rfl, rfl, rfl⟩ rfl ?_
              refine SL.nx ?_
              refine SX.ret ?_
              exact SQ.fret (resv3 rfl (resv.ag 3 (encHead g.1) ag87 rfl rfl rfl rfl) rfl rfl) (ret_of (M := []) ⟨rfl, rfl⟩ fun _ h => h.skip [_, _, _, _])

end Go.Proofs.YtddjneafgddlcaaDoor

/- The sum's tables, as a row lists them; the world in which a row's witness stands. No condition beyond those stated. -/
namespace Go.Proofs.YtddjneafgddlcaaDoor
open Go Go.ChangeShapes Go.WideShapes Go.ChangeAt Go.RowKit

def constT : List UInt32 := [1116352408, 1899447441, 3049323471, 3921009573, 961987163, 1508970993, 2453635748, 2870763221, 3624381080, 310598401, 607225278, 1426881987, 1925078388, 2162078206, 2614888103, 3248222580, 3835390401, 4022224774, 264347078, 604807628, 770255983, 1249150122, 1555081692, 1996064986, 2554220882, 2821834349, 2952996808, 3210313671, 3336571891, 3584528711, 113926993, 338241895, 666307205, 773529912, 1294757372, 1396182291, 1695183700, 1986661051, 2177026350, 2456956037, 2730485921, 2820302411, 3259730800, 3345764771, 3516065817, 3600352804, 4094571909, 275423344, 430227734, 506948616, 659060556, 883997877, 958139571, 1322822218, 1537002063, 1747873779, 1955562222, 2024104815, 2227730452, 2361852424, 2428436474, 2756734187, 3204031479, 3329325298]
def constZ : List Int := [1116352408, 1899447441, 3049323471, 3921009573, 961987163, 1508970993, 2453635748, 2870763221, 3624381080, 310598401, 607225278, 1426881987, 1925078388, 2162078206, 2614888103, 3248222580, 3835390401, 4022224774, 264347078, 604807628, 770255983, 1249150122, 1555081692, 1996064986, 2554220882, 2821834349, 2952996808, 3210313671, 3336571891, 3584528711, 113926993, 338241895, 666307205, 773529912, 1294757372, 1396182291, 1695183700, 1986661051, 2177026350, 2456956037, 2730485921, 2820302411, 3259730800, 3345764771, 3516065817, 3600352804, 4094571909, 275423344, 430227734, 506948616, 659060556, 883997877, 958139571, 1322822218, 1537002063, 1747873779, 1955562222, 2024104815, 2227730452, 2361852424, 2428436474, 2756734187, 3204031479, 3329325298]
def firstZ : List Int := [1779033703, 3144134277, 1013904242, 2773480762, 1359893119, 2600822924, 528734635, 1541459225]
section
variable {P : Program} {W : World}
theorem laidMet_tl {x : String × DataW Unit} {r : List (String × DataW Unit)} (h : laidMet P (x :: r) W) : laidMet P r W := by
  obtain ⟨ps, ⟨g, t, cs, fuel, p, q, _, _, _, _, hs, rfl⟩, hn, hc⟩ := h
  exact ⟨q, hs, (List.nodup_append.1 hn).2.1, fun b off hb => hc b off (List.mem_append_right _ hb)⟩
theorem tab_of {name : String} {g : Nat} {zs : List Int} {T : List UInt32} (hg : P.globalNamed name = some g) (h : Lib.TabIs P W name .u32 zs) (hl : T ≠ []) (hz : zs = T.map fun x => (x.toNat : Int)) : Tab (· < W.heap.size) W g T := by
  have hc : ∀ i x, T[i]? = some x → W.cell? ⟨g, i, none⟩ = some (vU32 x) := by
    intro i x hx
    obtain ⟨hi, rfl⟩ := List.getElem?_eq_some_iff.1 hx
    have := h.cell hg i (by rw [hz]; simpa using hi)
    rw [this, hz]
    simp [vU32, List.getD_eq_getElem?_getD, hi]
  refine ⟨?_, hc⟩
  obtain ⟨x, r, rfl⟩ := List.exists_cons_of_ne_nil hl
  have h0 := hc 0 x rfl
  rcases Nat.lt_or_ge g W.heap.size with h | h
  · exact h
  · have : W.heap[g]? = none := by simp [h]
    simp [World.cell?, this] at h0
end
theorem own' : ownKnob Tryd.prog.godebug = none := by kernel_rfl
theorem laidOut' : laidOutB Tryd.prog = true := by kernel_rfl
theorem gFirst : Tryd.prog.globalNamed "sphragis/sha.first" = some 1 := by kernel_rfl
theorem gConst : Tryd.prog.globalNamed "sphragis/sha.constants" = some 2 := by kernel_rfl
theorem gFirstT : (Tryd.prog.globals[1]?).map (·.type) = some 162 := by kernel_rfl
theorem gConstT : (Tryd.prog.globals[2]?).map (·.type) = some 181 := by kernel_rfl
theorem cells22' : Tryd.prog.cellsOf 22 = 1 := by kernel_rfl
theorem cells109' : Tryd.prog.cellsOf 162 = 8 := by kernel_rfl
theorem cells135' : Tryd.prog.cellsOf 181 = 64 := by kernel_rfl
theorem cells44' : Tryd.prog.cellsOf 70 = 2 := by kernel_rfl
theorem cells9' : Tryd.prog.cellsOf 9 = 1 := by kernel_rfl
/-- the tables of the sum, as the rows list them -/
theorem shaT_of {W : World} (h : laidMetH Tryd.prog [("sphragis/sha.first", Rows.laid_sphragis_sha_first), ("sphragis/sha.constants", Rows.laid_sphragis_sha_constants)] W) : ShaT (· < W.heap.size) W constT := by
  have h0 : laidMet Tryd.prog [("sphragis/sha.first", Lib.tabData .u32 firstZ), ("sphragis/sha.constants", Lib.tabData .u32 constZ)] W := h
  refine ⟨?_, rfl, ?_⟩
  · exact tab_of gConst (Lib.tabIs_of_head (rest := []) gConst gConstT Tryd.underlying181 Tryd.underlying22 cells22' cells135' (laidMet_tl h0)) (by simp [constT]) (by kernel_rfl)
  · exact tab_of gFirst (Lib.tabIs_of_head gFirst gFirstT Tryd.underlying162 Tryd.underlying22 cells22' cells109' h0) (by simp [firstA, St8.list]) (by kernel_rfl)
/-- cells of a table, laid -/
def layZ (zs : List Int) : Obj → Obj
  | .cells _ t frozen => .cells (zs.map fun z => Value.int .u32 z).toArray t frozen
  | o => o
/-- a world for the witnesses: the settled one, the two tables as their initialisers lay them -/
noncomputable def laidW (os : Os) : World :=
  { World.holding Tryd.prog os ⟨#[], #[], []⟩ with heap := ((World.holding Tryd.prog os ⟨#[], #[], []⟩).heap.modify 1 (layZ firstZ)).modify 2 (layZ constZ) }
end Go.Proofs.YtddjneafgddlcaaDoor

/- An argument that is a head, a number. No condition beyond those stated. -/
namespace Go.Proofs.YtddjneafgddlcaaDoor
open Go Go.ChangeShapes Go.WideShapes Go.ChangeAt Go.RowKit Go.Deep Go.Lib Go.Joins

section
variable {G : Type} {enc : TypeId × Value → G} {P : Program} {W : World}
theorem open_head {t : TypeId} {f0 f1 f2 f3 : Field} {base : Nat} {v : Value} {d : DataW G} {p : List MemPlace} (ht : P.underlying t = some (.struct #[f0, f1, f2, f3])) (ct : P.cellsOf t = 4)
    (o0 : f0.offset = 0) (o1 : f1.offset = 1) (o2 : f2.offset = 2) (o3 : f3.offset = 3) (c0 : P.cellsOf f0.type = 1) (c1 : P.cellsOf f1.type = 1) (c2 : P.cellsOf f2.type = 1) (c3 : P.cellsOf f3.type = 1)
    (u0 : P.underlying f0.type = some (.int .u32)) (u1 : P.underlying f1.type = some (.int .u32)) (u2 : P.underlying f2.type = some (.int .u32)) (u3 : P.underlying f3.type = some (.int .u64))
    (hval : Value.okWide P W .any base t v) (h : DataW.Trod enc P W 0 (fun _ => true) true t v d p) : ∃ hd : HeadA, v = .agg (encHead hd).toArray := by
  obtain ⟨cs, rfl, hsz⟩ := okWide_struct ht hval
  obtain ⟨n, hn⟩ := h
  obtain ⟨y0, y1, y2, y3, m, _, _, g0, g1, g2, g3⟩ := trod_struct4 ht hn
  obtain ⟨xs⟩ := cs
  rw [ct] at hsz
  match xs, hsz with
  | [a, b, c, e], _ =>
    simp [Value.cells, o0, c0] at g0
    simp [Value.cells, o1, c1] at g1
    simp [Value.cells, o2, c2] at g2
    simp [Value.cells, o3, c3] at g3
    obtain ⟨z0, e0, _, w0⟩ := DataW.trod_int u0 g0
    obtain ⟨z1, e1, _, w1⟩ := DataW.trod_int u1 g1
    obtain ⟨z2, e2, _, w2⟩ := DataW.trod_int u2 g2
    obtain ⟨z3, e3, _, w3⟩ := DataW.trod_int u3 g3
    simp only [List.cons.injEq, and_true] at e0 e1 e2 e3
    subst e0 e1 e2 e3
    refine ⟨⟨UInt32.ofNat z0.toNat, UInt32.ofNat z1.toNat, UInt32.ofNat z2.toNat, UInt64.ofNat z3.toNat⟩, ?_⟩
    rw [u32_of w0, u32_of w1, u32_of w2, u64_of w3]
    rfl
theorem open_num {t : TypeId} {k : IntKind} {base : Nat} {v : Value} {d : DataW G} {p : List MemPlace} (ht : P.underlying t = some (.int k)) (hval : Value.okWide P W .any base t v) (h : DataW.Trod enc P W 0 (fun _ => true) true t v d p) :
    ∃ z : Int, v = .int k z ∧ (Lit.int k z).wf = true := by
  obtain ⟨z, rfl⟩ := okWide_int ht hval
  obtain ⟨n, hn⟩ := h
  obtain ⟨z', e, _, w⟩ := DataW.trod_int ht hn
  simp [Value.cells] at e
  subst e
  exact ⟨z, rfl, w⟩
end
end Go.Proofs.YtddjneafgddlcaaDoor

/- The engine's rules for printed walks: each partial operation under the equation that says what it gives; rows of a call's own, typed. No condition beyond those stated. -/
namespace Go.Proofs.YtddjneafgddlcaaDoor
open Go

variable {P : Program} {ro : Option Nat} {K : Nat → Prop} {w0 : World} {N : Nat} {Q : Post} {D : List Nat} {l l' : Tm} {H H' Hs L : List Chunk} {ops : Array Oper} {items : Its}
variable {tk : Bool} {o : Oper} {t : Nat} {v : Value} {x y z : Operand}

/-! ### Plain words of printed functions -/
def wI (x : Int) : Int := IntKind.i64.wrap x
theorem wI_eq {x : Int} (h1 : -9223372036854775808 ≤ x) (h2 : x ≤ 9223372036854775807) : wI x = x := wrap_of (k := .i64) h1 h2
def nthI {α : Type} (l : List α) (i : Int) : Option α := if 0 ≤ i then l[i.toNat]? else none
def slcI {α : Type} (l : List α) (i j : Int) : Option (List α) := if 0 ≤ i ∧ i ≤ j ∧ j ≤ l.length then some ((l.drop i.toNat).take (j.toNat - i.toNat)) else none
def setI {α : Type} (l : List α) (i : Int) (a : α) : Option (List α) := if 0 ≤ i ∧ i < l.length then some (l.set i.toNat a) else none
def catS (s t : List UInt8) : Option (List UInt8) := if s.length + t.length ≤ 9223372036854775807 then some (s ++ t) else none
def appL {α : Type} (by_ : Nat) (s t : List α) : Option (List α) := if (s.length + t.length) * by_ ≤ 140737488355328 ∧ s.length + t.length ≤ 9223372036854775807 then some (s ++ t) else none
def shN (i : Int) : Option Nat := if 0 ≤ i then some i.toNat else none
def quoI (a b : Int) : Option Int := if b = 0 then none else some (wI (a.tdiv b))
def remI (a b : Int) : Option Int := if b = 0 then none else some (a.tmod b)
def quo64 (a b : UInt64) : Option UInt64 := if b = 0 then none else some (a / b)
def rem64 (a b : UInt64) : Option UInt64 := if b = 0 then none else some (a % b)
def andO (b : Bool) (c : Option Bool) : Option Bool := cond b c (some false)
def orO (b : Bool) (c : Option Bool) : Option Bool := cond b (some true) c
/-- a loop's rounds, at most so many -/
def loopN {α β : Type} (F : (α → Option β) → α → Option β) : Nat → α → Option β
  | 0, _ => none
  | m + 1, a => F (loopN F m) a
def ret {α β : Type} (e : α) (k : α → β) : β := k e
theorem bnd {α β : Type} {a : Option α} {f : α → Option β} {r : β} (h : a.bind f = some r) : ∃ x, a = some x ∧ f x = some r := Option.bind_eq_some_iff.1 h
theorem retE {α β : Type} {e : α} {k : α → Option β} {r : β} (h : ret e k = some r) : ∃ x, e = x ∧ k x = some r := ⟨e, rfl, h⟩
theorem cT {α : Type} {b : Bool} {x y : Option α} {r : α} (hb : b = true) (h : cond b x y = some r) : x = some r := by subst hb; exact h
theorem cF {α : Type} {b : Bool} {x y : Option α} {r : α} (hb : b = false) (h : cond b x y = some r) : y = some r := by subst hb; exact h
theorem nthI_some {α : Type} {l : List α} {i : Int} {a : α} (h : nthI l i = some a) : i = (i.toNat : Int) ∧ i.toNat < l.length ∧ l[i.toNat]? = some a := by
  unfold nthI at h
  split at h
  · rename_i h0
    obtain ⟨hlt, _⟩ := List.getElem?_eq_some_iff.1 h
    exact ⟨by omega, hlt, h⟩
  · cases h
theorem slcI_some {α : Type} {l u : List α} {i j : Int} (h : slcI l i j = some u) : i = (i.toNat : Int) ∧ j = (j.toNat : Int) ∧ i.toNat ≤ j.toNat ∧ j.toNat ≤ l.length ∧ u = (l.drop i.toNat).take (j.toNat - i.toNat) := by
  unfold slcI at h
  split at h
  · rename_i h0
    exact ⟨by omega, by omega, by omega, by omega, (Option.some.inj h).symm⟩
  · cases h

abbrev eI (x : Int) : List Value := [vI x]
abbrev eU8 (x : UInt8) : List Value := [vU8 x]
abbrev eU32 (x : UInt32) : List Value := [vU32 x]
abbrev eU64 (x : UInt64) : List Value := [vU64 x]
abbrev eS (x : List UInt8) : List Value := [vS x]
abbrev eB (x : Bool) : List Value := [vB x]

/-! ### Operators -/
theorem Bin.addW {a b : Int} : Bin .add (vI a) (vI b) (vI (wI (a + b))) := fun P w ty x y => ⟨eqGuard_int .., by simp [binOp, Op.intArith, wI]⟩
theorem Bin.subW {a b : Int} : Bin .sub (vI a) (vI b) (vI (wI (a - b))) := fun P w ty x y => ⟨eqGuard_int .., by simp [binOp, Op.intArith, wI]⟩
theorem Bin.mulW {a b : Int} : Bin .mul (vI a) (vI b) (vI (wI (a * b))) := fun P w ty x y => ⟨eqGuard_int .., by simp [binOp, Op.intArith, wI]⟩
theorem Bin.divO {a b c : Int} (h : quoI a b = some c) : Bin .quo (vI a) (vI b) (vI c) := fun P w ty x y => ⟨eqGuard_int .., by
  unfold quoI at h
  split at h
  · cases h
  · rename_i h0
    obtain rfl := Option.some.inj h
    simp [binOp, Op.intDiv, h0, wI]⟩
theorem Bin.modO {a b c : Int} (h : remI a b = some c) : Bin .rem (vI a) (vI b) (vI c) := fun P w ty x y => ⟨eqGuard_int .., by
  unfold remI at h
  split at h
  · cases h
  · rename_i h0
    obtain rfl := Option.some.inj h
    simp [binOp, Op.intDiv, h0]⟩
theorem SL.eqB {ty uy : TypeId} {a b : Bool} (ho : At ops N l o t (.binOp .eql ty x y uy)) (hty : P.underlying ty = some .bool) (hx : evl l x = some (vB a)) (hy : evl l y = some (vB b))
    (h : SL P ro K w0 N ops Hs items Q D ((t, .bool (a == b)) :: l) H) : SL P ro K w0 N ops Hs (.cons (tk, o) items) Q D l H :=
  SL.val ho rfl (fun a' w ha _ => by
    have h1 := run_eql_bool (P := P) (w := w) ty a b hty
    simp [execOp, ho.op, ha.eval hx, ha.eval hy, eqGuard, h1]) h
theorem SL.neB {ty uy : TypeId} {a b : Bool} (ho : At ops N l o t (.binOp .neq ty x y uy)) (hty : P.underlying ty = some .bool) (hx : evl l x = some (vB a)) (hy : evl l y = some (vB b))
    (h : SL P ro K w0 N ops Hs items Q D ((t, .bool (!(a == b))) :: l) H) : SL P ro K w0 N ops Hs (.cons (tk, o) items) Q D l H :=
  SL.val ho rfl (fun a' w ha _ => by
    have h1 := run_neq_bool (P := P) (w := w) ty a b hty
    simp [execOp, ho.op, ha.eval hx, ha.eval hy, eqGuard, h1]) h
theorem Bin.shl32O {a : UInt32} {k : IntKind} {i : Int} {n : Nat} (h : shN i = some n) : Bin .shl (vU32 a) (.int k i) (vU32 (Go.Proofs.YtddjneafgddlcaaDoor.shl32 a n)) := by
  unfold shN at h
  split at h
  · obtain rfl := Option.some.inj h
    have : i = (i.toNat : Int) := by omega
    rw [this]
    exact Bin.shl32
  · cases h
theorem Bin.shr32O {a : UInt32} {k : IntKind} {i : Int} {n : Nat} (h : shN i = some n) : Bin .shr (vU32 a) (.int k i) (vU32 (Go.Proofs.YtddjneafgddlcaaDoor.shr32 a n)) := by
  unfold shN at h
  split at h
  · obtain rfl := Option.some.inj h
    have : i = (i.toNat : Int) := by omega
    rw [this]
    exact Bin.shr32
  · cases h
theorem Bin.shr64O {a : UInt64} {k : IntKind} {i : Int} {n : Nat} (h : shN i = some n) : Bin .shr (vU64 a) (.int k i) (vU64 (Go.Proofs.YtddjneafgddlcaaDoor.shr64 a n)) := by
  unfold shN at h
  split at h
  · obtain rfl := Option.some.inj h
    have : i = (i.toNat : Int) := by omega
    rw [this]
    exact Bin.shr64
  · cases h
theorem Bin.shl64O {a : UInt64} {k : IntKind} {i : Int} {n : Nat} (h : shN i = some n) : Bin .shl (vU64 a) (.int k i) (vU64 (Go.Proofs.YtddjneafgddlcaaDoor.shl64 a n)) := by
  unfold shN at h
  split at h
  · obtain rfl := Option.some.inj h
    have : i = (i.toNat : Int) := by omega
    rw [this]
    exact Bin.shl64
  · cases h
theorem Bin.div64O {a b c : UInt64} (h : quo64 a b = some c) : Bin .quo (vU64 a) (vU64 b) (vU64 c) := fun P w ty x y => ⟨eqGuard_int .., by
  unfold quo64 at h
  split at h
  · cases h
  · rename_i hb
    obtain rfl := Option.some.inj h
    have h0 : ((b.toNat : Int)) ≠ 0 := by
      intro h
      have : b.toNat = 0 := by omega
      exact hb (UInt64.toNat_inj.1 this)
    have h1 : IntKind.u64.wrap (Int.tdiv (a.toNat : Int) (b.toNat : Int)) = ((a / b).toNat : Int) := by
      rw [wrap_u64, Int.tdiv_eq_ediv_of_nonneg (by omega), UInt64.toNat_div]
      have h2 : a.toNat / b.toNat ≤ a.toNat := Nat.div_le_self _ _
      have := a.toNat_lt
      rw [show ((a.toNat : Int) / (b.toNat : Int)) = ((a.toNat / b.toNat : Nat) : Int) from rfl]
      generalize a.toNat / b.toNat = q at h2 ⊢
      omega
    simp only [binOp, Op.intDiv, ne_eq, not_true_eq_false, if_false, h0, h1, Sem.run_pure]⟩
theorem Bin.mod64O {a b c : UInt64} (h : rem64 a b = some c) : Bin .rem (vU64 a) (vU64 b) (vU64 c) := by
  unfold rem64 at h
  split at h
  · cases h
  · rename_i hb
    obtain rfl := Option.some.inj h
    exact Bin.mod64 hb
theorem Bin.catO {s t u : List UInt8} (h : catS s t = some u) : Bin .add (vS s) (vS t) (vS u) := by
  unfold catS at h
  split at h
  · rename_i hl
    obtain rfl := Option.some.inj h
    exact Bin.cat hl
  · cases h

/-! ### Texts -/
theorem SL.ixN {s : List UInt8} {ty : TypeId} {k : IntKind} {i : Int} {c : UInt8} (hn : nthI s i = some c) (ho : At ops N l o t (.index ty x y)) (hty : P.underlying ty = some .string) (hx : evl l x = some (vS s)) (hy : evl l y = some (.int k i))
    (h : SL P ro K w0 N ops Hs items Q D ((t, vU8 c) :: l) H) : SL P ro K w0 N ops Hs (.cons (tk, o) items) Q D l H := by
  obtain ⟨h1, h2, h3⟩ := nthI_some hn
  refine SL.ixS i.toNat ho hty hx hy h1 h2 ?_
  have : s.getD i.toNat 0 = c := by simp [List.getD_eq_getElem?_getD, h3]
  rw [this]
  exact h
theorem SL.slN {s u : List UInt8} {ty : TypeId} {k k' : IntKind} {i j : Int} (hn : slcI s i j = some u) (ho : At ops N l o t (.slice ty x (some y) (some z) none)) (hty : P.underlying ty = some .string) (hx : evl l x = some (vS s)) (hy : evl l y = some (.int k i)) (hz : evl l z = some (.int k' j))
    (h : SL P ro K w0 N ops Hs items Q D ((t, vS u) :: l) H) : SL P ro K w0 N ops Hs (.cons (tk, o) items) Q D l H := by
  obtain ⟨h1, h2, h3, h4, rfl⟩ := slcI_some hn
  exact SL.slS i.toNat j.toNat ho hty hx hy hz h1 h2 h3 h4 h
theorem SL.slNl {s u : List UInt8} {ty : TypeId} {k : IntKind} {i : Int} (hn : slcI s i (s.length : Int) = some u) (ho : At ops N l o t (.slice ty x (some y) none none)) (hty : P.underlying ty = some .string) (hx : evl l x = some (vS s)) (hy : evl l y = some (.int k i))
    (h : SL P ro K w0 N ops Hs items Q D ((t, vS u) :: l) H) : SL P ro K w0 N ops Hs (.cons (tk, o) items) Q D l H := by
  obtain ⟨h1, h2, h3, h4, rfl⟩ := slcI_some hn
  refine SL.slSl i.toNat ho hty hx hy h1 (by omega) ?_
  rw [List.take_of_length_le (by simp)] at h
  exact h
theorem SL.slNh {s u : List UInt8} {ty : TypeId} {k : IntKind} {j : Int} (hn : slcI s 0 j = some u) (ho : At ops N l o t (.slice ty x none (some z) none)) (hty : P.underlying ty = some .string) (hx : evl l x = some (vS s)) (hz : evl l z = some (.int k j))
    (h : SL P ro K w0 N ops Hs items Q D ((t, vS u) :: l) H) : SL P ro K w0 N ops Hs (.cons (tk, o) items) Q D l H := by
  obtain ⟨h1, h2, h3, h4, rfl⟩ := slcI_some hn
  exact SL.slSh j.toNat ho hty hx hz h2 h4 (by simpa using h)

/-! ### Slices in kept memory -/
theorem SL.iaN {α : Type} {enc : α → List Value} {sz : Nat} {xs : List α} {k : IntKind} {i : Int} {ty e : TypeId} {x0 : α} (hn : nthI xs i = some x0) (hk : SlOf K w0 enc sz v xs) (ho : At ops N l o t (.indexAddr ty x y)) (hty : P.underlying ty = some (.slice e)) (hsz : tsz P e = some sz) (hx : evl l x = some v) (hy : evl l y = some (.int k i))
    (h : ∀ b off, (∀ L w, HpS K w0 L w → ∀ j u, (enc x0)[j]? = some u → w.cell? ⟨b, off + j, none⟩ = some u) → SL P ro K w0 N ops Hs items Q D ((t, vP b off) :: l) H) : SL P ro K w0 N ops Hs (.cons (tk, o) items) Q D l H := by
  obtain ⟨h1, h2, h3⟩ := nthI_some hn
  exact SL.iaV i.toNat x0 hk ho hty hsz hx hy h1 h3 h
theorem cell_kept {b off j : Nat} {u : Value} {cs : List Value} (hc : ∀ L w, HpS K w0 L w → ∀ j u, cs[j]? = some u → w.cell? ⟨b, off + j, none⟩ = some u) (hj : cs[j]? = some u) : ∀ w, HpS K w0 L w → w.cell? ⟨b, off + j, none⟩ = some u := fun w hw => hc L w hw j u hj
theorem cells_kept {b off : Nat} {cs : List Value} (hc : ∀ L w, HpS K w0 L w → ∀ j u, cs[j]? = some u → w.cell? ⟨b, off + j, none⟩ = some u) : ∀ w, HpS K w0 L w → ∀ j u, cs[j]? = some u → w.cell? (Addr.add ⟨b, off, none⟩ j) = some u :=
  fun w hw j u hu => by rw [Addr.add_mk]; exact hc L w hw j u hu
theorem SL.slVN {α : Type} {enc : α → List Value} {sz : Nat} {xs us : List α} {k : IntKind} {j : Int} {ty e : TypeId} (hn : slcI xs 0 j = some us) (hk : SlOf K w0 enc sz v xs) (ho : At ops N l o t (.slice ty x none (some z) none)) (hty : P.underlying ty = some (.slice e)) (hsz : tsz P e = some sz) (hx : evl l x = some v) (hz : evl l z = some (.int k j))
    (h : ∀ v', SlOf K w0 enc sz v' us → SL P ro K w0 N ops Hs items Q D ((t, v') :: l) H) : SL P ro K w0 N ops Hs (.cons (tk, o) items) Q D l H := by
  obtain ⟨h1, h2, h3, h4, rfl⟩ := slcI_some hn
  exact SL.slV j.toNat hk ho hty hsz hx hz h2 h4 (fun v' hv' => h v' (by simpa using hv'))

/-! ### Rows of a call's own, typed, never frozen -/
def rowT {α : Type} (e : TypeId) (sz : Nat) (v : Value) (enc : α → List Value) (xs : List α) : Chunk :=
  ⟨fun b => v.ownBlock = some b, fun w => w.ownsRow 0 e sz v xs.length (xs.flatMap enc), fun w w' h hw => by
    refine ⟨hw.1, ?_⟩
    rcases hw.2 with hn | ⟨g, cap, cur, rfl, hb, hgg, rest⟩
    · exact .inl hn
    · exact .inr ⟨g, cap, cur, rfl, hb, by rw [h g rfl]; exact hgg, rest⟩⟩
section rows
variable {α : Type} {enc : α → List Value} {sz : Nat} {xs us : List α} {e ty : TypeId}
theorem flatMap_len (hl : ∀ x, (enc x).length = sz) : ∀ ys : List α, (ys.flatMap enc).length = ys.length * sz
  | [] => by simp
  | y :: ys => by rw [List.flatMap_cons, List.length_append, flatMap_len hl ys, hl, List.length_cons, Nat.add_mul, Nat.one_mul, Nat.add_comm]
theorem HpOk.nilT {w : World} (e : TypeId) (sz : Nat) (enc : α → List Value) (h : HpOk K w0 H w) : HpOk K w0 (rowT e sz (.slice none 0 0) enc [] :: H) w := by
  refine h.cons (n := w.heap.size) (Nat.le_refl _) (fun d hd b hb => (h.foot d hd b hb).1) h.kltw (World.ownsRow_nil ..) ?_
  intro b hb
  simp [rowT, Value.ownBlock] at hb
theorem SL.nilT (e : TypeId) (sz : Nat) (enc : α → List Value) (h : SL P ro K w0 N ops Hs items Q D l (rowT e sz (.slice none 0 0) enc [] :: H)) : SL P ro K w0 N ops Hs items Q D l H :=
  fun a w ha hw hs => h a w ha (hw.nilT e sz enc) hs
theorem rowT_cells {w : World} {g n cap : Nat} {c : α} {i j : Nat} {u : Value} (hl : ∀ x, (enc x).length = sz) (h : (rowT e sz v enc xs).holds w) (hv : v = .slice (some ⟨g, 0, none⟩) n cap) (hi : xs[i]? = some c) (hj : (enc c)[j]? = some u) : w.cell? ⟨g, i * sz + j, none⟩ = some u := by
  have hrow : w.ownsRow 0 e sz v xs.length (xs.flatMap enc) := h
  have hF := World.ownsRowF_of hrow
  have := hF.cells (g := g) (by rw [hv]; rfl) (i * sz + j) u (flatMap_get hl xs i c j u hi hj)
  rw [Addr.add_mk] at this
  simpa using this
theorem cell_rowT {g n cap : Nat} {c : α} {i : Int} {u : Value} (k j : Nat) (hl : ∀ x, (enc x).length = sz) (hk : L[k]? = some (rowT e sz v enc xs)) (hv : v = .slice (some ⟨g, 0, none⟩) n cap) (hi : nthI xs i = some c) (hj : (enc c)[j]? = some u) : ∀ w, HpS K w0 L w → w.cell? ⟨g, i.toNat * sz + j, none⟩ = some u :=
  fun _w hw => rowT_cells hl (hw.holds _ (List.mem_of_getElem? hk)) hv (nthI_some hi).2.2 hj
theorem cells_rowT {g n cap : Nat} {c : α} {i : Int} (k : Nat) (hl : ∀ x, (enc x).length = sz) (hk : L[k]? = some (rowT e sz v enc xs)) (hv : v = .slice (some ⟨g, 0, none⟩) n cap) (hi : nthI xs i = some c) : ∀ w, HpS K w0 L w → ∀ j u, (enc c)[j]? = some u → w.cell? (Addr.add ⟨g, i.toNat * sz, none⟩ j) = some u :=
  fun w hw j u hu => by rw [Addr.add_mk]; exact cell_rowT k j hl hk hv hi hu w hw
theorem SL.lenT (k : Nat) (ho : At ops N l o t (.call { callee := .builtin .len, args := #[x], argTypes := #[ty] })) (hty : P.underlying ty = some (.slice e)) (hx : evl l x = some v)
    {e' : TypeId} (hk : (bif tk then Hs else H)[k]? = some (rowT e' sz v enc xs)) (h : SL P ro K w0 N ops Hs items Q D ((t, vI xs.length) :: l) H) : SL P ro K w0 N ops Hs (.cons (tk, o) items) Q D l H :=
  SL.val ho rfl (fun a w ha hsw => by
    have hrow : w.ownsRow 0 e' sz v xs.length (xs.flatMap enc) := hsw.holds _ (List.mem_of_getElem? hk)
    simp only [execOp, ho.op, resolve, invoke, builtin, Builtin.len_]
    rcases hrow.2 with ⟨rfl, hn⟩ | ⟨g, cap, cur, rfl, _⟩
    · simp [ha.eval hx, run_underlying hty, goInt, hn]
    · simp [ha.eval hx, run_underlying hty, goInt]) h
theorem SL.iaT (k : Nat) {kk : IntKind} {i : Int} {c : α} (hn : nthI xs i = some c) (ho : At ops N l o t (.indexAddr ty x y)) (hty : P.underlying ty = some (.slice e)) (hsz : tsz P e = some sz) (hx : evl l x = some v) (hy : evl l y = some (.int kk i))
    (hk : H[k]? = some (rowT e sz v enc xs))
    (h : ∀ g m cap, v = .slice (some ⟨g, 0, none⟩) m cap → SL P ro K w0 N ops Hs items Q D ((t, vP g (i.toNat * sz)) :: l) H) : SL P ro K w0 N ops Hs (.cons (tk, o) items) Q D l H := by
  intro a w ha hw hs
  have hrow : w.ownsRow 0 e sz v xs.length (xs.flatMap enc) := hw.holds _ (List.mem_append_left _ (List.mem_of_getElem? hk))
  obtain ⟨h1, h2, h3⟩ := nthI_some hn
  rcases hrow.2 with ⟨_, h0⟩ | ⟨g, cap, cur, hv, _⟩
  · omega
  · exact (SL.ia (n := i.toNat) ho hty hsz (hx.trans (by rw [hv])) hy h1 h2 (by simpa using h g xs.length cap hv)) a w ha hw hs
theorem flatMap_set (hl : ∀ x, (enc x).length = sz) : ∀ (xs : List α) (i : Nat) (a : α), i < xs.length → (xs.set i a).flatMap enc = (xs.flatMap enc).take (i * sz) ++ enc a ++ (xs.flatMap enc).drop (i * sz + sz)
  | [], i, a, h => by simp at h
  | b :: r, 0, a, _ => by
    have hb := hl b
    simp only [List.set_cons_zero, List.flatMap_cons, Nat.zero_mul, List.take_zero, List.nil_append, Nat.zero_add]
    rw [List.drop_append_of_le_length (by omega), List.drop_of_length_le (by omega), List.nil_append]
  | b :: r, i + 1, a, h => by
    have hb := hl b
    have ih := flatMap_set hl r i a (by simpa using h)
    simp only [List.set_cons_succ, List.flatMap_cons]
    rw [ih]
    have e1 : (i + 1) * sz = (enc b).length + i * sz := by rw [hb, Nat.add_mul]; omega
    have e2 : (i + 1) * sz + sz = (enc b).length + (i * sz + sz) := by rw [hb, Nat.add_mul]; omega
    rw [e2, e1, List.take_length_add_append, List.drop_length_add_append]
    simp
theorem SL.stTN (k : Nat) {g m cap : Nat} {i : Int} {u : Value} {a : α} (hn : setI xs i a = some us) (hl : ∀ x, (enc x).length = sz) (ho : At0 ops l o (.store ty x y)) (hx : evl l x = some (vP g (i.toNat * sz))) (hy : evl l y = some u) (hu : u.cells.toList = enc a) (hk : H[k]? = some (rowT e sz v enc xs)) (hv : v = .slice (some ⟨g, 0, none⟩) m cap)
    (hsz : tsz P ty = some sz) (h1 : ∀ c ∈ enc a, c.oneCell' = true) (hs : SubI Hs (H.set k (rowT e sz v enc us))) (h : SL P ro K w0 N ops Hs items Q D l (H.set k (rowT e sz v enc us))) : SL P ro K w0 N ops Hs (.cons (false, o) items) Q D l H := by
  unfold setI at hn
  split at hn
  · rename_i hi
    obtain rfl := Option.some.inj hn
    refine SL.step0 ho rfl (fun a' w ha hw => ?_) hs h
    have hrow : w.ownsRow 0 e sz v xs.length (xs.flatMap enc) := hw.holds _ (List.mem_append_left _ (List.mem_of_getElem? hk))
    have hlt : i.toNat < xs.length := by omega
    rcases hrow.2 with ⟨hv', h0⟩ | ⟨g', cap', cur, hv', hb, hg, hnc, hcm, hcs, htk⟩
    · rw [hv'] at hv; cases hv
    · obtain ⟨rfl, rfl, rfl⟩ : g' = g ∧ xs.length = m ∧ cap' = cap := by rw [hv'] at hv; simpa using hv
      have hucz : u.cells.size = sz := by rw [← Array.length_toList, hu, hl]
      have hle : i.toNat * sz + sz ≤ xs.length * sz := by
        have := Nat.mul_le_mul_right sz (show i.toNat + 1 ≤ xs.length by omega)
        rw [Nat.add_mul, Nat.one_mul] at this
        exact this
      have hle2 : xs.length * sz ≤ cap' * sz := Nat.mul_le_mul_right _ hnc
      obtain ⟨w', hrun, hw'⟩ := run_storeCells (P := P) u.cells.toList (i.toNat * sz) 0 cur w hg (by rw [Array.length_toList, hucz]; omega) (by rw [hu]; exact h1)
      refine ⟨w', ?_, ?_⟩
      · simp [execOp, ho.op, Instr.storeAt, Instr.sureAddr, ha.eval hx, ha.eval hy, storeVar, run_sizeOf hsz, hucz]
        rw [hrun]
        rfl
      · rw [hw']
        obtain ⟨hlt2, _⟩ := Array.getElem?_eq_some_iff.1 hg
        refine hw.turnAt (c := rowT e sz v enc xs) k hk rfl rfl rfl (by simp) (fun b hb hne => World.putObj_heap_other (fun e => hne (by subst e; rw [hv']; rfl))) ⟨flatMap_len hl _, .inr ⟨g', cap', _, by rw [hv', List.length_set], Nat.zero_le _, World.putObj_heap_same hlt2, by simpa using hnc, hcm, by rw [setL_size, hcs], ?_⟩⟩ (fun b hb => ⟨.inl hb, ?_⟩)
        · have hcl : (enc a).length = sz := hl a
          rw [setL_toList _ _ _ (by rw [hu, hcl]; omega), flatMap_set hl xs i.toNat a hlt, hu, hcl, ← htk, List.length_set, Nat.add_zero]
          have e1 : (cur.toList.take (i.toNat * sz)).length = i.toNat * sz := by simp; omega
          rw [List.take_take, Nat.min_eq_left (by omega)]
          have e2 : (cur.toList.take (i.toNat * sz) ++ enc a).length = i.toNat * sz + sz := by rw [List.length_append, e1, hcl]
          rw [List.take_append, e2, List.take_of_length_le (by omega)]
          congr 1
          rw [List.drop_take]
        · have : b = g' := by
            have hb' : v.ownBlock = some b := hb
            rw [hv'] at hb'
            simpa [Value.ownBlock] using hb'.symm
          subst this
          simpa using hlt2
  · cases hn
/-- append of a slice whose elements are known -/
theorem SL.appT {by_ m c : Nat} {zv : Value} {new : List α} {ad : Addr} (k : Nat) (hn : appL by_ xs new = some us) (hl : ∀ x, (enc x).length = sz) (ho : At ops N l o t (.call { callee := .builtin .append, args := #[x, y], argTypes := #[ty, ty] }))
    (hty : P.underlying ty = some (.slice e)) (hsz : tsz P e = some sz) (hby : byt P e = some by_) (hze : zer P e = some zv) (hzs : zv.cells.size = sz) (hsz0 : 0 < sz)
    (hx : evl l x = some v) (hy : evl l y = some (.slice (some ad) m c)) (hm : m = new.length) (hk : H[k]? = some (rowT e sz v enc xs))
    (hnews : ∀ w, HpS K w0 H w → ∀ j u, (new.flatMap enc)[j]? = some u → w.cell? (ad.add j) = some u) (h1 : ∀ a, ∀ u ∈ enc a, u.oneCell' = true)
    (hs : ∀ v', SubI Hs (H.set k (rowT e sz v' enc us)))
    (h : ∀ v', SL P ro K w0 N ops Hs items Q D ((t, v') :: l) (H.set k (rowT e sz v' enc us))) : SL P ro K w0 N ops Hs (.cons (false, o) items) Q D l H := by
  unfold appL at hn
  split at hn
  · rename_i hb
    obtain rfl := Option.some.inj hn
    subst hm
    have hfl := flatMap_len hl
    refine SL.step (fun v' => v') (fun v' => H.set k (rowT e sz v' enc (xs ++ new))) ho rfl (fun a w ha hw => ?_) hs h
    obtain ⟨ii, hii, e1, e2, e3⟩ := info_of hsz hby hze
    have hrow : w.ownsRow 0 e sz v xs.length (xs.flatMap enc) := hw.holds _ (List.mem_append_left _ (List.mem_of_getElem? hk))
    obtain ⟨v', w', hr, hr2, hr3, _, hr4⟩ := run_append_own_at (P := P) w 0 ty o.type e ii zv sz by_ hty hii e3 e1 e2 hzs hsz0 v xs.length _ hrow ad new.length c (new.flatMap enc) (hfl new) (hnews w hw.dropMarks.s) (fun u hu => by
      obtain ⟨a, _, ha⟩ := List.mem_flatMap.1 hu
      exact h1 a u ha) (by simp only [maxLen]; omega) hb.1 (Nat.zero_le _)
    refine ⟨v', w', ?_, hw.turnAt (c := rowT e sz v enc xs) k hk hr3.os hr3.tape hr3.output hr3.size (fun b hb hne => hr3.block b hb (fun e => hne e.symm)) (show w'.ownsRow 0 e sz v' (xs ++ new).length ((xs ++ new).flatMap enc) by rw [List.flatMap_append, List.length_append]; exact hr2) ?_⟩
    · unfold execOp
      simp only [ho.op, resolve, invoke, builtin, Sem.run_bind, Sem.run_pure, Result.andThen_ok, List.map_toArray, List.map_cons, List.map_nil, ha.eval hx, ha.eval hy, hr]
    · intro b hb
      refine ⟨?_, (hr2.lt b hb).2⟩
      have hb' : v'.ownBlock = some b := hb
      rcases hr4 with h4 | h4
      · exact .inl (by rw [h4] at hb'; exact hb')
      · rw [h4] at hb'
        right
        simp at hb'
        omega
  · cases hn
/-- an own block, full of elements, seen as a row -/
theorem HpOk.ownT {w : World} {b : Nat} {c : Array Value} (xs : List α) (h : HpOk K w0 (own b (.cells c e) :: H) w) (hc : c.toList = xs.flatMap enc) (hl : ∀ x, (enc x).length = sz) (hm : xs.length ≤ 9223372036854775807) : HpOk K w0 (rowT e sz (.slice (some ⟨b, 0, none⟩) xs.length xs.length) enc xs :: H) w := by
  have hfl := flatMap_len hl
  have hcs : c.size = xs.length * sz := by rw [← Array.length_toList, hc, hfl]
  refine h.turn rfl rfl rfl (Nat.le_refl _) (fun _ _ _ => rfl) ⟨hfl xs, .inr ⟨b, xs.length, c, rfl, Nat.zero_le _, h.holds _ (List.mem_cons_self ..), Nat.le_refl _, by simp only [maxLen]; omega, hcs, by rw [hc, ← hfl]; exact List.take_length⟩⟩ (fun k hk => ?_)
  have hkb : k = b := by simp [rowT, Value.ownBlock] at hk; exact hk.symm
  subst hkb
  exact ⟨.inl rfl, (h.foot _ (List.mem_cons_self ..) k rfl).1⟩
theorem SL.ownT {b : Nat} {c : Array Value} (enc : α → List Value) (sz : Nat) (xs : List α) (hc : c.toList = xs.flatMap enc) (hl : ∀ x, (enc x).length = sz) (hm : Nat.ble xs.length 1000000 = true)
    (h : SL P ro K w0 N ops Hs items Q D l (rowT e sz (.slice (some ⟨b, 0, none⟩) xs.length xs.length) enc xs :: H)) : SL P ro K w0 N ops Hs items Q D l (own b (.cells c e) :: H) :=
  fun a w ha hw hs => h a w ha (hw.ownT xs hc hl (by have := Nat.le_of_ble_eq_true hm; omega)) hs
/-- .. whose room is empty -/
theorem SL.mkT {by_ n : Nat} {zv : Value} {k k' : IntKind} (enc : α → List Value) (ho : At ops N l o t (.makeSlice ty x y)) (hty : P.underlying ty = some (.slice e)) (hsz : tsz P e = some sz) (hby : byt P e = some by_) (hze : zer P e = some zv) (_hzs : zv.cells.size = sz)
    (hx : evl l x = some (.int k 0)) (hy : evl l y = some (.int k' (n : Int))) (hb : Nat.ble (by_ * n) 281474976710656 = true) (h63 : Nat.ble n 9223372036854775807 = true)
    (hs : ∀ v', SubI Hs (rowT e sz v' enc [] :: H)) (h : ∀ v', SL P ro K w0 N ops Hs items Q D ((t, v') :: l) (rowT e sz v' enc [] :: H)) : SL P ro K w0 N ops Hs (.cons (false, o) items) Q D l H :=
  SL.step (fun b => .slice (some ⟨b, 0, none⟩) 0 n) (fun b => rowT e sz (.slice (some ⟨b, 0, none⟩) 0 n) enc [] :: H) ho rfl (fun a w ha hw => by
    obtain ⟨ii, hii, e1, e2, e3⟩ := info_of hsz hby hze
    have hbn := Nat.le_of_ble_eq_true hb
    have h63n := Nat.le_of_ble_eq_true h63
    have hb' : (ii.bytes : Int) * (n : Int) ≤ 281474976710656 := by rw [e2, ← Int.natCast_mul]; omega
    have hr := run_make (P := P) w ty e ii zv hty hii e3 k k' 0 n (by omega) (by omega) hb' (by omega)
    rw [e1] at hr
    simp only [Int.toNat_natCast] at hr
    refine ⟨w.heap.size, w.alloc (.cells (madeCells zv.cells (n * sz)) e), ?_, ?_⟩
    · unfold execOp
      simp only [ho.op, ha.eval hx, ha.eval hy, Sem.run_bind, hr, Result.andThen_ok, Sem.run_pure]
      rfl
    · have h2 := hw.alloc (.cells (madeCells zv.cells (n * sz)) e)
      refine h2.turn rfl rfl rfl (Nat.le_refl _) (fun _ _ _ => rfl) ⟨by simp, .inr ⟨w.heap.size, n, _, rfl, Nat.zero_le _, h2.holds _ (List.mem_cons_self ..), Nat.zero_le _, by simp only [maxLen]; omega, ?_, by simp⟩⟩ (fun k hk => ?_)
      · simp [madeCells]
      · have hkb : k = w.heap.size := by simp [rowT, Value.ownBlock] at hk; exact hk.symm
        subst hkb
        exact ⟨.inl rfl, (h2.foot _ (List.mem_cons_self ..) _ rfl).1⟩) (fun b => hs _) (fun b => h _)
theorem SlOf.lentT {K' : Nat → Prop} {w1 : World} (hl : ∀ x, (enc x).length = sz) (h : (rowT e sz v enc xs).holds w1 ∧ ∀ k, (rowT e sz v enc xs).foot k → K' k) : SlOf K' w1 enc sz v xs := by
  have hrow : w1.ownsRow 0 e sz v xs.length (xs.flatMap enc) := h.1
  refine ⟨hl, ?_⟩
  rcases hrow.2 with ⟨rfl, h0⟩ | ⟨g, cap, cur, rfl, _, hg, hc, _⟩
  · exact .inl ⟨_, rfl, List.length_eq_zero_iff.1 h0⟩
  · refine .inr ⟨g, 0, cap, rfl, hc, fun j u hu => ⟨h.2 g rfl, ?_⟩⟩
    have := (World.ownsRowF_of hrow).cells (g := g) rfl j u hu
    rw [Addr.add_mk] at this
    exact this
theorem fm8 : ∀ s : List UInt8, s.flatMap eU8 = s.map fun b => vU8 b
  | [] => rfl
  | b :: r => by rw [List.flatMap_cons, fm8 r]; rfl
/-- bytes of a row to a text -/
theorem SL.btsT {src dst : TypeId} {s : List UInt8} (k : Nat) (ho : At ops N l o t (.convert src dst x)) (hs : P.underlying src = some (.slice e)) (he : P.underlying e = some (.int .u8)) (hd : P.underlying dst = some .string) (hx : evl l x = some v)
    (hk : (bif tk then Hs else H)[k]? = some (rowT e 1 v eU8 s))
    (h : SL P ro K w0 N ops Hs items Q D ((t, vS s) :: l) H) : SL P ro K w0 N ops Hs (.cons (tk, o) items) Q D l H :=
  SL.val ho rfl (fun a w ha hsw => by
    have hrow : w.ownsRow 0 e 1 v s.length (s.flatMap eU8) := hsw.holds _ (List.mem_of_getElem? hk)
    rw [fm8] at hrow
    rcases hrow.2 with ⟨rfl, h0⟩ | ⟨g, cap, cur, rfl, _⟩
    · have : s = [] := List.length_eq_zero_iff.1 h0
      subst this
      have h0 : (convert src dst (.slice none 0 0)).run P w = .ok (vS []) w := by
        rw [run_convert_bytes_string w src dst e none 0 0 hs he hd]
        simp [Conv.bytesToString]
        rfl
      simp [execOp, ho.op, ha.eval hx, h0]
    · simp [execOp, ho.op, ha.eval hx, run_bts hs he hd rfl ((World.ownsRowF_of hrow).cells rfl)]) h
theorem cells_rowA {b n cap : Nat} (k : Nat) (_hl : ∀ x, (enc x).length = sz) (hk : L[k]? = some (rowT e sz (.slice (some ⟨b, 0, none⟩) n cap) enc xs)) : ∀ w, HpS K w0 L w → ∀ j u, (xs.flatMap enc)[j]? = some u → w.cell? (Addr.add ⟨b, 0, none⟩ j) = some u := by
  intro w hw j u hu
  have hrow : w.ownsRow 0 e sz (.slice (some ⟨b, 0, none⟩) n cap) xs.length (xs.flatMap enc) := hw.holds _ (List.mem_of_getElem? hk)
  exact (World.ownsRowF_of hrow).cells (g := b) rfl j u hu
/-- append of nothing -/
theorem run_append_of_none {w : World} (t ty e : TypeId) (i : TypeInfo) (ht : P.underlying t = some (.slice e)) (hi : P.info? e = some i)
    (v : Value) (n : Nat) (xs : List Value) (hown : w.ownsRow 0 e sz v n xs) : (Builtin.append_ #[t, t] ty #[v, .slice none 0 0]).run P w = .ok v w := by
  rcases hown.2 with ⟨rfl, rfl⟩ | ⟨g, cap, cur, rfl, _, _, hnc, _⟩
  · simp [Builtin.append_, run_underlying ht, sizeOf, typeInfo, hi, Builtin.lenOf, Builtin.firstCells]
  · simp [Builtin.append_, run_underlying ht, sizeOf, typeInfo, hi, Builtin.lenOf, Builtin.firstCells, hnc, storeCells]
theorem SL.app0 {by_ : Nat} {zv : Value} (k : Nat) (ho : At ops N l o t (.call { callee := .builtin .append, args := #[x, y], argTypes := #[ty, ty] }))
    (hty : P.underlying ty = some (.slice e)) (hsz : tsz P e = some sz) (hby : byt P e = some by_) (hze : zer P e = some zv)
    (hx : evl l x = some v) (hy : evl l y = some (.slice none 0 0)) (hk : H[k]? = some (rowT e sz v enc xs)) (hs : SubI Hs H)
    (h : SL P ro K w0 N ops Hs items Q D ((t, v) :: l) H) : SL P ro K w0 N ops Hs (.cons (false, o) items) Q D l H :=
  SL.step (fun _ : Unit => v) (fun _ => H) ho rfl (fun a w ha hw => by
    obtain ⟨ii, hii, e1, e2, e3⟩ := info_of hsz hby hze
    have hrow : w.ownsRow 0 e sz v xs.length (xs.flatMap enc) := hw.holds _ (List.mem_append_left _ (List.mem_of_getElem? hk))
    have hr := run_append_of_none (P := P) ty o.type e ii hty hii v xs.length _ hrow
    refine ⟨(), w, ?_, hw⟩
    unfold execOp
    simp only [ho.op, resolve, invoke, builtin, Sem.run_bind, Sem.run_pure, Result.andThen_ok, List.map_toArray, List.map_cons, List.map_nil, ha.eval hx, ha.eval hy, hr]) (fun _ => hs) (fun _ => h)
theorem set_self {c : Chunk} {k : Nat} (hk : H[k]? = some c) : H.set k c = H := by
  obtain ⟨hl, hg⟩ := List.getElem?_eq_some_iff.1 hk
  rw [← hg]; exact List.set_getElem_self hl
theorem appL_nil {by_ : Nat} (hn : appL by_ xs [] = some us) : us = xs := by
  unfold appL at hn
  split at hn
  · simpa using hn.symm
  · cases hn
/-- append of a slice that lies in kept memory -/
theorem SL.appV {by_ : Nat} {zv u : Value} {new : List α} (k : Nat) (hn : appL by_ xs new = some us) (hu : SlOf K w0 enc sz u new) (hl : ∀ x, (enc x).length = sz) (ho : At ops N l o t (.call { callee := .builtin .append, args := #[x, y], argTypes := #[ty, ty] }))
    (hty : P.underlying ty = some (.slice e)) (hsz : tsz P e = some sz) (hby : byt P e = some by_) (hze : zer P e = some zv) (hzs : zv.cells.size = sz) (hsz0 : 0 < sz)
    (hx : evl l x = some v) (hy : evl l y = some u) (hk : H[k]? = some (rowT e sz v enc xs)) (h1 : ∀ a, ∀ u ∈ enc a, u.oneCell' = true)
    (hs : ∀ v', SubI Hs (H.set k (rowT e sz v' enc us)))
    (h : ∀ v', SL P ro K w0 N ops Hs items Q D ((t, v') :: l) (H.set k (rowT e sz v' enc us))) : SL P ro K w0 N ops Hs (.cons (false, o) items) Q D l H := by
  rcases hu.at_ with ⟨a0, rfl, rfl⟩ | ⟨b, off, cap, rfl, _, hc⟩
  · cases a0 with
    | some ad => exact SL.appT k hn hl ho hty hsz hby hze hzs hsz0 hx hy rfl hk (fun w hw j u hj => by simp at hj) h1 hs h
    | none =>
      obtain rfl := appL_nil hn
      have h2 := hs v
      have h3 := h v
      rw [set_self hk] at h2 h3
      exact SL.app0 k ho hty hsz hby hze hx hy hk h2 h3
  · refine SL.appT k hn hl ho hty hsz hby hze hzs hsz0 hx hy rfl hk (fun w hw j u hj => ?_) h1 hs h
    obtain ⟨hb, hcell⟩ := hc j u hj
    rw [Addr.add_mk]
    exact cell_base (L := H) hb hcell w hw
/-- append of another row -/
theorem SL.appR {by_ : Nat} {zv u : Value} {new : List α} (k k2 : Nat) (hn : appL by_ xs new = some us) (hl : ∀ x, (enc x).length = sz) (ho : At ops N l o t (.call { callee := .builtin .append, args := #[x, y], argTypes := #[ty, ty] }))
    (hty : P.underlying ty = some (.slice e)) (hsz : tsz P e = some sz) (hby : byt P e = some by_) (hze : zer P e = some zv) (hzs : zv.cells.size = sz) (hsz0 : 0 < sz)
    (hx : evl l x = some v) (hy : evl l y = some u) (hk : H[k]? = some (rowT e sz v enc xs)) (hk2 : H[k2]? = some (rowT e sz u enc new)) (h1 : ∀ a, ∀ u ∈ enc a, u.oneCell' = true)
    (hs : ∀ v', SubI Hs (H.set k (rowT e sz v' enc us)))
    (h : ∀ v', SL P ro K w0 N ops Hs items Q D ((t, v') :: l) (H.set k (rowT e sz v' enc us))) : SL P ro K w0 N ops Hs (.cons (false, o) items) Q D l H := by
  intro a w ha hw hs0
  have hrow : w.ownsRow 0 e sz u new.length (new.flatMap enc) := hw.holds _ (List.mem_append_left _ (List.mem_of_getElem? hk2))
  rcases hrow.2 with ⟨rfl, h0⟩ | ⟨g, cap, cur, rfl, _⟩
  · have : new = [] := List.length_eq_zero_iff.1 h0
    subst this
    obtain rfl := appL_nil hn
    have h2 := hs v
    have h3 := h v
    rw [set_self hk] at h2 h3
    exact SL.app0 k ho hty hsz hby hze hx hy hk h2 h3 a w ha hw hs0
  · exact SL.appT k hn hl ho hty hsz hby hze hzs hsz0 hx hy rfl hk (cells_rowA k2 hl hk2) h1 hs h a w ha hw hs0
theorem SlOf.nil (hl : ∀ x, (enc x).length = sz) : SlOf K w0 enc sz (.slice none 0 0) [] := ⟨hl, .inl ⟨_, rfl, rfl⟩⟩
end rows
/-- an assignment, the value under a name of its own -/
theorem SL.asgX {u : Value} (ho : At ops N l o t (.assign x)) (hx : evl l x = some v) (hu : v = u) (h : SL P ro K w0 N ops Hs items Q D ((t, u) :: l) H) : SL P ro K w0 N ops Hs (.cons (tk, o) items) Q D l H :=
  SL.asg ho (by rw [hx, hu]) h
/-- the two descriptors in other words -/
theorem SX.re {c : Code} (l' : Tm) (H' : List Chunk) (h : SX P ro K w0 N c Q D l' H') (e1 : TmLe l' l) (e2 : H = H' := by rfl) : SX P ro K w0 N c Q D l H := by
  subst e2; exact h.mono e1
/-- a meeting point, whatever marks there are -/
def midD {α : Type} (K : Nat → Prop) (w0 : World) (N : Nat) (p : α → Prop) (I : α → Tm) (G : α → List Chunk) (Q : Post) : Post
  | .normal, a, w => ∃ x D, p x ∧ TmOk N D (I x) a ∧ HpOk K w0 (G x ++ [marks D]) w
  | e, a, w => Q e a w
theorem SX.meetD {α : Type} (p : α → Prop) (I : α → Tm) (G : α → List Chunk) {c y : Code} (h : SX P ro K w0 N c (midD K w0 N p I G Q) D l H) (h2 : ∀ x D, p x → SX P ro K w0 N y Q D (I x) (G x)) : SX P ro K w0 N (.seq c y) Q D l H := by
  intro a w ha hw
  refine wpIn_seq (wpIn_mono (h a w ha hw) ?_)
  intro e a w q
  cases e with
  | normal =>
    obtain ⟨x, D', hx, ha, hw⟩ := q
    exact h2 x D' hx a w ha hw
  | _ => exact q
theorem SQ.midD {α : Type} {p : α → Prop} {I : α → Tm} {G : α → List Chunk} (x : α) (hp : p x) (hl : TmLe (I x) l) (hH : ∀ w, HpOk K w0 (H ++ [marks D]) w → HpOk K w0 (G x ++ [marks D]) w) :
    SQ K w0 N (Go.Proofs.YtddjneafgddlcaaDoor.midD K w0 N p I G Q) .normal D l H := fun _a w ha hw => ⟨x, D, hp, ha.mono hl, hH w hw⟩
theorem SQ.midDE {α : Type} {p : α → Prop} {I : α → Tm} {G : α → List Chunk} {i : Nat} (h : SQ K w0 N Q (.exit i) D l H) : SQ K w0 N (Go.Proofs.YtddjneafgddlcaaDoor.midD K w0 N p I G Q) (.exit i) D l H := h
theorem SQ.midDR {α : Type} {p : α → Prop} {I : α → Tm} {G : α → List Chunk} (h : SQ K w0 N Q .ret D l H) : SQ K w0 N (Go.Proofs.YtddjneafgddlcaaDoor.midD K w0 N p I G Q) .ret D l H := h
/-- a && c, where c is what guarded operations say -/
theorem SL.andN (t n tt : Nat) {b y : Bool} {C : Option Bool} (hy : andO b C = some y) (hb : look l t = some (.bool b))
    (ht : b = true → C = some y → SL P ro K w0 N ops Hs (items.drop n) Q D ((tt, .bool y) :: (t, .bool true) :: del t l) H → SL P ro K w0 N ops Hs items Q D ((t, .bool true) :: l) H)
    (hf : b = false → SL P ro K w0 N ops Hs (items.drop n) Q D ((tt, .bool false) :: (t, .bool false) :: del t l) H → SL P ro K w0 N ops Hs items Q D ((t, .bool false) :: l) H)
    (h : SL P ro K w0 N ops Hs (items.drop n) Q D ((tt, .bool y) :: l) H) : SL P ro K w0 N ops Hs items Q D l H := by
  refine SL.split t hb (fun e => ?_) (fun e => ?_)
  · subst e; exact ht rfl hy (h.join hb)
  · subst e
    obtain rfl : false = y := Option.some.inj hy
    exact hf rfl (h.join hb)
theorem SL.orN (t n tt : Nat) {b y : Bool} {C : Option Bool} (hy : orO b C = some y) (hb : look l t = some (.bool b))
    (ht : b = true → SL P ro K w0 N ops Hs (items.drop n) Q D ((tt, .bool true) :: (t, .bool true) :: del t l) H → SL P ro K w0 N ops Hs items Q D ((t, .bool true) :: l) H)
    (hf : b = false → C = some y → SL P ro K w0 N ops Hs (items.drop n) Q D ((tt, .bool y) :: (t, .bool false) :: del t l) H → SL P ro K w0 N ops Hs items Q D ((t, .bool false) :: l) H)
    (h : SL P ro K w0 N ops Hs (items.drop n) Q D ((tt, .bool y) :: l) H) : SL P ro K w0 N ops Hs items Q D l H := by
  refine SL.split t hb (fun e => ?_) (fun e => ?_)
  · subst e
    obtain rfl : true = y := Option.some.inj hy
    exact ht rfl (h.join hb)
  · subst e; exact hf rfl hy (h.join hb)
/-! ### Flat structs, field by field -/
theorem flatE_nil {xs ys : Array Value} : flatE [] xs ys = some true := rfl
theorem flatE_cons {i : Nat} {d : TypeDesc} {r : List (Nat × TypeDesc)} {xs ys : Array Value} {u v : Value} {p q : Bool} (hx : xs[i]? = some u) (hy : ys[i]? = some v) (he : eqV d u v = some p) (hr : flatE r xs ys = some q) : flatE ((i, d) :: r) xs ys = some (p && q) := by
  simp [flatE, hx, hy, he, hr]
theorem eqV_I {k : IntKind} {a b : Int} : eqV (.int k) (.int k a) (.int k b) = some (decide (a = b)) := by
  simp only [eqV, if_true]
  congr 1
theorem eqV_8 {a b : UInt8} : eqV (.int .u8) (vU8 a) (vU8 b) = some (decide (a = b)) := by
  rw [eqV_I]; congr 1; rw [Bool.eq_iff_iff, decide_eq_true_eq, decide_eq_true_eq, ← UInt8.toNat_inj]; omega
theorem eqV_32 {a b : UInt32} : eqV (.int .u32) (vU32 a) (vU32 b) = some (decide (a = b)) := by
  rw [eqV_I]; congr 1; rw [Bool.eq_iff_iff, decide_eq_true_eq, decide_eq_true_eq, ← UInt32.toNat_inj]; omega
theorem eqV_64 {a b : UInt64} : eqV (.int .u64) (vU64 a) (vU64 b) = some (decide (a = b)) := by
  rw [eqV_I]; congr 1; rw [Bool.eq_iff_iff, decide_eq_true_eq, decide_eq_true_eq, ← UInt64.toNat_inj]; omega
theorem eqV_S {a b : List UInt8} : eqV .string (vS a) (vS b) = some (decide (a = b)) := by
  simp only [eqV, toList_mk]; congr 1; rw [Bool.eq_iff_iff]; simp
theorem eqV_B {a b : Bool} : eqV .bool (vB a) (vB b) = some (decide (a = b)) := by
  simp only [eqV]; congr 1
theorem Cv.I_I {src dst : TypeId} {d : TypeDesc} {k : IntKind} {n : Int} (hs : P.underlying src = some d) (hd : P.underlying dst = some (.int .i64)) : Cv P src dst (.int k n) (vI (wI n)) := Cv.int hs hd rfl
/-! ### Arrays and tables -/
theorem SL.ixAN {α : Type} {f : α → Value} {n : Nat} {xs : List α} {k : IntKind} {i : Int} {c : α} {ty e : TypeId} (hn : nthI xs i = some c) (ho : At ops N l o t (.index ty x y)) (hty : P.underlying ty = some (.array n e)) (hsc : scl P e = true) (hx : evl l x = some (.agg (arr f xs))) (hy : evl l y = some (.int k i)) (hln : xs.length = n)
    (h : SL P ro K w0 N ops Hs items Q D ((t, f c) :: l) H) : SL P ro K w0 N ops Hs (.cons (tk, o) items) Q D l H := by
  obtain ⟨h1, h2, h3⟩ := nthI_some hn
  exact SL.ixA ho hty hsc hx hy h1 (by omega) (arr_get h3) h
theorem SL.iaAN {α : Type} {b m : Nat} {xs : List α} {k : IntKind} {i : Int} {c : α} {ty e : TypeId} (hn : nthI xs i = some c) (ho : At ops N l o t (.indexAddr ty x y)) (hty : P.underlying ty = some (.array m e)) (hsz : tsz P e = some 1) (hx : evl l x = some (vP b 0)) (hy : evl l y = some (.int k i))
    (hln : xs.length = m) (h : SL P ro K w0 N ops Hs items Q D ((t, vP b i.toNat) :: l) H) : SL P ro K w0 N ops Hs (.cons (tk, o) items) Q D l H := by
  obtain ⟨h1, h2, h3⟩ := nthI_some hn
  exact SL.iaAp ho hty hsz hx hy h1 (by omega) h
structure TabN (K : Nat → Prop) (w0 : World) (g : Nat) (n : Nat) (T : List UInt32) : Prop where
  tab : Tab K w0 g T
  len : T.length = n
theorem TabN.keeps {g n : Nat} {T : List UInt32} {K' : Nat → Prop} {w1 : World} (h : TabN K w0 g n T) (hk : Keeps K w0 K' w1) : TabN K' w1 g n T := ⟨h.tab.keeps hk, h.len⟩
theorem tab_ld {g n : Nat} {T : List UInt32} {i : Int} {c : UInt32} (h : TabN K w0 g n T) (hn : nthI T i = some c) : ∀ w, HpS K w0 L w → w.cell? ⟨g, i.toNat, none⟩ = some (vU32 c) :=
  cell_base (ad := ⟨g, i.toNat, none⟩) h.tab.keep (h.tab.cell _ _ (nthI_some hn).2.2)
end Go.Proofs.YtddjneafgddlcaaDoor

/- Plain laws of the words that printed functions use. No program in sight. No condition beyond those stated. -/
namespace Go.Proofs.YtddjneafgddlcaaDoor
open Go

/-- a loop of N rounds -/
theorem loop_all {α β : Type} {F : (α → Option β) → α → Option β} (I : Nat → α) (N : Nat) {z : Option β} (hs : ∀ i, i < N → ∀ k, F k (I i) = k (I (i + 1))) (he : ∀ k, F k (I N) = z) {m : Nat} (hm : N < m) : loopN F m (I 0) = z := by
  have key : ∀ d i m, i + d = N → d < m → loopN F m (I i) = z := by
    intro d
    induction d with
    | zero =>
      intro i m hi hm
      obtain rfl : i = N := by omega
      obtain ⟨m, rfl⟩ : ∃ k, m = k + 1 := ⟨m - 1, by omega⟩
      exact he _
    | succ d ih =>
      intro i m hi hm
      obtain ⟨m, rfl⟩ : ∃ k, m = k + 1 := ⟨m - 1, by omega⟩
      show F (loopN F m) (I i) = z
      rw [hs i (by omega)]
      exact ih (i + 1) m (by omega) (by omega)
  exact key N 0 m (by omega) hm
/-- a loop, whatever its rounds say of what is left -/
theorem loop_ind {α β : Type} {F : (α → Option β) → α → Option β} (I : Nat → α) (Z : Nat → Option β) (N : Nat) (hs : ∀ i, i < N → ∀ k, k (I (i + 1)) = Z (i + 1) → F k (I i) = Z i) (he : ∀ k, F k (I N) = Z N) {m : Nat} (hm : N < m) : loopN F m (I 0) = Z 0 := by
  have key : ∀ d i m, i + d = N → d < m → loopN F m (I i) = Z i := by
    intro d
    induction d with
    | zero =>
      intro i m hi hm
      obtain rfl : i = N := by omega
      obtain ⟨m, rfl⟩ : ∃ k, m = k + 1 := ⟨m - 1, by omega⟩
      exact he _
    | succ d ih =>
      intro i m hi hm
      obtain ⟨m, rfl⟩ : ∃ k, m = k + 1 := ⟨m - 1, by omega⟩
      show F (loopN F m) (I i) = Z i
      exact hs i (by omega) _ (ih (i + 1) m (by omega) (by omega))
  exact key N 0 m (by omega) hm
/-- a loop whose answer is one and the same, whenever it ends -/
theorem loop_pre {α β : Type} {F : (α → Option β) → α → Option β} (I : Nat → α) (p : Nat → Prop) (N : Nat) {z : Option β} (hs : ∀ i, i < N → p i → ∀ k, (p (i + 1) → k (I (i + 1)) = z) → F k (I i) = z) (he : p N → ∀ k, F k (I N) = z) (h0 : p 0) {m : Nat} (hm : N < m) : loopN F m (I 0) = z := by
  have key : ∀ d i m, i + d = N → d < m → p i → loopN F m (I i) = z := by
    intro d
    induction d with
    | zero =>
      intro i m hi hm hp
      obtain rfl : i = N := by omega
      obtain ⟨m, rfl⟩ : ∃ k, m = k + 1 := ⟨m - 1, by omega⟩
      exact he hp _
    | succ d ih =>
      intro i m hi hm hp
      obtain ⟨m, rfl⟩ : ∃ k, m = k + 1 := ⟨m - 1, by omega⟩
      show F (loopN F m) (I i) = z
      exact hs i (by omega) hp _ (ih (i + 1) m (by omega) (by omega))
  exact key N 0 m (by omega) hm h0
theorem nthI_nat {α : Type} {l : List α} {i : Nat} : nthI l (i : Int) = l[i]? := by simp [nthI]
theorem nthI_of {α : Type} {l : List α} {i : Int} {k : Nat} (h : i = (k : Int)) : nthI l i = l[k]? := by rw [h, nthI_nat]
theorem nthI_getD {α : Type} {l : List α} {i : Int} {k : Nat} (d : α) (h : i = (k : Int)) (hk : k < l.length) : nthI l i = some (l.getD k d) := by rw [nthI_of h, get_getD d hk]
theorem setI_of {α : Type} {l : List α} {i : Int} {k : Nat} {a : α} (h : i = (k : Int)) (hk : k < l.length) : setI l i a = some (l.set k a) := by
  subst h
  unfold setI
  rw [if_pos (by omega)]
  simp
theorem slcI_of {α : Type} {l : List α} {i j : Int} {p q : Nat} (hi : i = (p : Int)) (hj : j = (q : Int)) (h1 : p ≤ q) (h2 : q ≤ l.length) : slcI l i j = some ((l.drop p).take (q - p)) := by
  subst hi; subst hj
  unfold slcI
  rw [if_pos (by omega)]
  simp
theorem appL_eq {α : Type} {b : Nat} {s t : List α} (h : (s.length + t.length) * b ≤ 140737488355328) (h2 : s.length + t.length ≤ 9223372036854775807) : appL b s t = some (s ++ t) := if_pos ⟨h, h2⟩
theorem catS_eq {s t : List UInt8} (h : s.length + t.length ≤ 9223372036854775807) : catS s t = some (s ++ t) := if_pos h
theorem shN_nat {i : Nat} : shN (i : Int) = some i := by simp [shN]
theorem remI_of {a b : Nat} (hb : b ≠ 0) : remI (a : Int) (b : Int) = some ((a % b : Nat) : Int) := by
  unfold remI
  rw [if_neg (by omega), Int.tmod_eq_emod_of_nonneg (by omega)]
  rfl
theorem quoI_of {a b : Nat} (hb : b ≠ 0) (ha : a ≤ 9223372036854775807) : quoI (a : Int) (b : Int) = some ((a / b : Nat) : Int) := by
  unfold quoI
  have h1 : a / b ≤ a := Nat.div_le_self _ _
  rw [if_neg (by omega), Int.tdiv_eq_ediv_of_nonneg (by omega), show ((a : Int) / (b : Int)) = ((a / b : Nat) : Int) from rfl]
  generalize a / b = q at h1 ⊢
  rw [wI_eq (by omega) (by omega)]
theorem some_bind {α β : Type} {a : α} {f : α → Option β} : (some a).bind f = f a := by simp
theorem ret_eq {α β : Type} {e : α} {k : α → β} : ret e k = k e := by simp [ret]
theorem loopN_succ {α β : Type} {F : (α → Option β) → α → Option β} {m : Nat} {a : α} : loopN F (m + 1) a = F (loopN F m) a := by rw [loopN]
theorem getD_lt {α : Type} {l : List α} {k : Nat} (d : α) (h : k < l.length) : l.getD k d = l[k] := by simp [List.getD, h]
end Go.Proofs.YtddjneafgddlcaaDoor
