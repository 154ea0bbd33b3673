/- Walks of HMAC and of what a key expands to (thirty-two bytes). Condition: texts of at most 2^39 bytes. -/
import Derived.Test.YtnpnmdbleopikaaDoorD4
import Derived.Test.YtnpnmdbleopikaaDoorP2
namespace Go.Proofs.YtnpnmdbleopikaaDoor
open Go
variable {K : Nat → Prop} {w0 : World} {H : List Chunk}

/-- the program's tables of the sum, kept -/
structure ShaT (K : Nat → Prop) (w0 : World) (T : List UInt32) : Prop where
  tab : Tab K w0 2 T
  len : T.length = 64
  first : Tab K w0 0 firstA.list
theorem ShaT.keeps {T : List UInt32} {K' : Nat → Prop} {w1 : World} (h : ShaT K w0 T) (hk : Keeps K w0 K' w1) : ShaT K' w1 T := ⟨h.tab.keeps hk, h.len, h.first.keeps hk⟩
theorem flatMap_encS (ls : List (List UInt8)) : ls.flatMap encS = ls.map vS := by
  induction ls with
  | nil => rfl
  | cons s r ih => rw [List.flatMap_cons, ih]; rfl
theorem getD_append0 (k : List UInt8) (n i : Nat) : (k ++ List.replicate n 0).getD i 0 = k.getD i 0 := by
  simp only [List.getD_eq_getElem?_getD]
  rcases Nat.lt_or_ge i k.length with h | h
  · rw [List.getElem?_append_left h]
  · rw [List.getElem?_append_right h, List.getElem?_eq_none h]
    rw [List.getElem?_replicate]
    split <;> rfl
/-- a sum of a row's texts -/
theorem c_sha_AddR (T : List UInt32) (v : Value) (ls : List (List UInt8)) (hT : ShaT K w0 T) (hn : ls.flatten.length ≤ 1099511627776) (hl : ls.length ≤ 1099511627776) : Con Tryd.prog K w0 51 [v] [rowC 9 1 v ls.length (ls.flatMap encS)] H (fun r M => r = vS (sumA T ls.flatten) ∧ M = [rowC 9 1 v ls.length (ls.flatMap encS)]) := by
  intro w hw
  have h1 := Con.lend (P := Tryd.prog) (K := K) (w0 := w0) (f := 51) (args := [v]) (H := H) (B := [rowC 9 1 v ls.length (ls.flatMap encS)]) (Hin := []) (post := fun r M => r = vS (sumA T ls.flatten) ∧ M = []) (fun K' w1 hk hB => c_sha_Add T v ls (hT.keeps hk).tab hT.len (hT.keeps hk).first (SlOf.lentR (fun _ => rfl) (hB _ (List.mem_cons_self ..))) hn hl) w hw
  refine h1.mono ?_
  rintro e w' ⟨r, M, rfl, ⟨M', rfl, hr, rfl⟩, hw'⟩
  exact ⟨r, _, rfl, ⟨hr, rfl⟩, hw'⟩
/-- a sum of a literal's texts -/
theorem c_sha_AddL (T : List UInt32) (b : Nat) (ls : List (List UInt8)) (hT : ShaT K w0 T) (hn : ls.flatten.length ≤ 1099511627776) (hl : ls.length ≤ 1099511627776) : Con Tryd.prog K w0 51 [.slice (some ⟨b, 0, none⟩) ls.length ls.length] [own b (.cells (arr vS ls) 9)] H (fun r M => r = vS (sumA T ls.flatten) ∧ M = [own b (.cells (arr vS ls) 9)]) := by
  intro w hw
  have h1 := Con.lend (P := Tryd.prog) (K := K) (w0 := w0) (f := 51) (args := [.slice (some ⟨b, 0, none⟩) ls.length ls.length]) (H := H) (B := [own b (.cells (arr vS ls) 9)]) (Hin := []) (post := fun r M => r = vS (sumA T ls.flatten) ∧ M = []) (fun K' w1 hk hB => c_sha_Add T _ ls (hT.keeps hk).tab hT.len (hT.keeps hk).first (SlOf.lent (enc := encS) (sz := 1) (fun _ => rfl) (Nat.le_refl _) (by rw [flatMap_encS, arr_toList]; exact List.take_of_length_le (by simp)) (hB _ (List.mem_cons_self ..))) hn hl) w hw
  refine h1.mono ?_
  rintro e w' ⟨r, M, rfl, ⟨M', rfl, hr, rfl⟩, hw'⟩
  exact ⟨r, _, rfl, ⟨hr, rfl⟩, hw'⟩
theorem c_mac_part (T : List UInt32) (key : List UInt8) (c : UInt8) (hT : ShaT K w0 T) (hn : key.length ≤ 549755813888) : Con Tryd.prog K w0 52 [vS key, vU8 c] [] H (fun r M => r = vS (partA T key c) ∧ M = []) := by
  refine Con.enter Tryd.func52 rfl rfl ?_
  refine SX.sr ?_
  refine SL.asg ⟨rfl, rfl, rfl, rfl⟩ rfl ?_
  refine SL.nx ?_
  refine SX.meet (α := Unit) (fun _ => True) (fun _ => [(0, vS (keyOf T key)), (1, vU8 c)]) (fun _ => H) ?_ (fun x hx => ?_)
  · skip
    refine SX.sr ?_
    refine SL.mv ⟨rfl, rfl, rfl, rfl⟩ rfl ?_
    refine SL.lenS ⟨rfl, rfl, rfl, rfl⟩ ty9 rfl ?_
    refine SL.bin ⟨rfl, rfl, rfl, rfl⟩ rfl rfl Bin.gtI ?_
    refine SL.nx ?_
    refine SX.cond rfl (fun hc1 => ?_) (fun hc1 => ?_)
    · skip
      refine SX.region ?_
      refine SL.mv ⟨rfl, rfl, rfl, rfl⟩ rfl ?_
      refine SL.call (vs := [_]) (Hin := []) ⟨rfl, rfl, rfl, rfl⟩ rfl ⟨rfl, trivial⟩ cal72 rfl rfl (c_sha_Sum T key hT.tab hT.len hT.first (by omega)) ?_
      rintro _ _ ⟨rfl, rfl⟩
      refine ⟨trivial, ?_⟩
      refine SL.asg ⟨rfl, rfl, rfl, rfl⟩ rfl ?_
      refine SL.nil ?_
      have hk : keyOf T key = sumA T key := by unfold keyOf; rw [if_pos (by simp at hc1; omega)]
      exact SQ.mid () trivial (by rw [hk]; exact ⟨rfl, rfl, trivial⟩)
    · skip
      refine SX.skip ?_
      have hk : keyOf T key = key := by unfold keyOf; rw [if_neg (by simp at hc1; omega)]
      exact SQ.mid () trivial (by rw [hk]; exact ⟨rfl, rfl, trivial⟩)
  -- live: (0, _), (1, TODOp1), (4, _)
  · skip
    have hkl := keyOf_length T key
    refine SX.sr ?_
    refine SL.mv ⟨rfl, rfl, rfl, rfl⟩ rfl ?_
    refine SL.mv ⟨rfl, rfl, rfl, rfl⟩ rfl ?_
    refine SL.lenS ⟨rfl, rfl, rfl, rfl⟩ ty9 rfl ?_
    refine SL.bin ⟨rfl, rfl, rfl, rfl⟩ rfl rfl (Bin.subI (by omega) (by omega)) ?_
    refine SL.call (vs := [_, _]) (Hin := []) ⟨rfl, rfl, rfl, rfl⟩ rfl ⟨rfl, rfl, trivial⟩ cal48 (by rw [show (64 - (((keyOf T key).length : Nat) : Int)) = ((64 - (keyOf T key).length : Nat) : Int) by omega]; rfl) rfl (c_Repeat0 (64 - (keyOf T key).length) (by omega)) ?_
    rintro _ _ ⟨rfl, rfl⟩
    refine ⟨trivial, ?_⟩
    refine SL.bin ⟨rfl, rfl, rfl, rfl⟩ rfl rfl (Bin.cat (by simp; omega)) ?_
    refine SL.asg ⟨rfl, rfl, rfl, rfl⟩ rfl ?_
    refine SL.nx ?_
    refine SX.sr ?_
    refine SL.alloc ⟨rfl, rfl, rfl, rfl⟩ ze53 (fun _ => trivial) fun b0 => ?_
    refine SL.nx ?_
    refine SX.seq ?_
    refine SX.sr ?_
    refine SL.mv ⟨rfl, rfl, rfl, rfl⟩ rfl ?_
    refine SL.nx ?_
    refine SX.block ?_
    refine SX.nilRow 5 1 ?_
    refine SX.pick [1, 0] 2 ?_
    refine SX.mono (SX.loop (α := Nat × Value × Value) (fun x => x.1 ≤ 64 ∧ adr b0 x.2.1) (fun x => [(0, vS (keyOf T key ++ List.replicate (64 - (keyOf T key).length) 0)), (1, vU8 c), (5, vP b0 0), (18, vI x.1)]) (fun x => own b0 (.cells #[x.2.1, x.2.2] 53) :: rowC 5 1 x.2.2 x.1 (((partA T key c).take x.1).map fun b => vU8 b) :: H) (fun x => 64 - x.1) (fun x D hp => ?_) (0, .pointer none, .slice none 0 0) ⟨by decide, .inl rfl⟩) (by repeat' (first | exact trivial | refine And.intro rfl ?_))
    obtain ⟨i, p, v⟩ := x
    obtain ⟨hp, hadr⟩ := hp
    simp only at hp hadr
    refine SX.sr ?_
    refine SL.bin ⟨rfl, rfl, rfl, rfl⟩ rfl rfl Bin.ltI ?_
    refine SL.nx ?_
    refine SX.seq ?_
    refine SX.cond rfl (fun hc2 => ?_) (fun hc2 => ?_)
    · skip
      have hi : i < 64 := by simp at hc2; omega
      refine SX.skip ?_
      refine SQ.thn ?_
      refine SX.seq ?_
      refine SX.block ?_
      refine SX.sr ?_
      refine SL.mv ⟨rfl, rfl, rfl, rfl⟩ rfl ?_
      refine SL.asg ⟨rfl, rfl, rfl, rfl⟩ rfl ?_
      refine SL.nx ?_
      refine SX.region ?_
      refine SL.mv ⟨rfl, rfl, rfl, rfl⟩ rfl ?_
      refine SL.mv ⟨rfl, rfl, rfl, rfl⟩ rfl ?_
      refine SL.ixS i ⟨rfl, rfl, rfl, rfl⟩ ty9 rfl rfl (by omega) (by simp; omega) ?_
      refine SL.mv ⟨rfl, rfl, rfl, rfl⟩ rfl ?_
      refine SL.bin ⟨rfl, rfl, rfl, rfl⟩ rfl rfl Bin.xor8 ?_
      refine SL.call (vs := [_, _]) (Hin := [_, _]) ⟨rfl, rfl, rfl, rfl⟩ rfl ⟨rfl, rfl, trivial⟩ cal46 rfl rfl (c_WriteByte 53 b0 p v i _ _ hadr li53 (by omega)) ?_
      rintro _ _ ⟨rfl, v', rfl⟩
      refine ⟨trivial, ?_⟩
      refine SL.nil ?_
      refine SQ.blk ?_
      refine SQ.thn ?_
      refine SX.region ?_
      refine SL.bin ⟨rfl, rfl, rfl, rfl⟩ rfl rfl (Bin.addI (by omega) (by omega)) ?_
      refine SL.mv ⟨rfl, rfl, rfl, rfl⟩ rfl ?_
      refine SL.nil ?_
      refine SQ.again (i + 1, vP b0 0, v') ⟨by simp only; omega, .inr rfl⟩ (by simp only; omega) (by repeat' (first | exact trivial | refine And.intro rfl ?_)) (fun w hw => by
        have e1 : (partA T key c).take (i + 1) = (partA T key c).take i ++ [(keyOf T key ++ List.replicate (64 - (keyOf T key).length) 0).getD i 0 ^^^ c] := by
          rw [List.take_add_one, getD_append0]
          simp [partA, hi]
        simp only
        rw [e1, List.map_append]
        exact hw)
    · skip
      have hi : i = 64 := by simp at hc2; omega
      subst hi
      have ht : (partA T key c).take 64 = partA T key c := List.take_of_length_le (by rw [partA_length]; omega)
      rw [ht]
      refine SX.exit ?_
      refine SQ.thnE ?_
      refine SQ.lpE ?_
      refine SQ.blkE ?_
      refine SQ.thn ?_
      refine SX.sr ?_
      refine SL.call (vs := [_]) (Hin := [_, _]) ⟨rfl, rfl, rfl, rfl⟩ rfl ⟨rfl, trivial⟩ cal25 rfl rfl (c_String 53 b0 p v 64 (partA T key c) (by omega)) ?_
      rintro _ _ ⟨rfl, rfl⟩
      refine ⟨trivial, ?_⟩
      refine SL.asg ⟨rfl, rfl, rfl, rfl⟩ rfl ?_
      refine SL.nx ?_
      refine SX.ret ?_
      exact SQ.fret (res1 rfl rfl) (ret_of (M := []) ⟨rfl, rfl⟩ fun _ h => h.skip [_, _])

theorem c_mac_Mac (T : List UInt32) (key : List UInt8) (ls : List (List UInt8)) (bs : Nat) (hT : ShaT K w0 T) (hn : key.length ≤ 549755813888) (hls : ls.flatten.length ≤ 549755813888) (hl : ls.length ≤ 549755813888) : Con Tryd.prog K w0 32 [vS key, .slice (some ⟨bs, 0, none⟩) ls.length ls.length] [own bs (.cells (arr vS ls) 9)] H (fun r M => r = vS (macA T key ls.flatten) ∧ M = []) := by
  refine Con.enter Tryd.func32 rfl rfl ?_
  refine SX.sr ?_
  refine SL.asg ⟨rfl, rfl, rfl, rfl⟩ rfl ?_
  refine SL.nx ?_
  refine SX.sr ?_
  refine SL.mv ⟨rfl, rfl, rfl, rfl⟩ rfl ?_
  refine SL.call (vs := [_, _]) (Hin := []) ⟨rfl, rfl, rfl, rfl⟩ rfl ⟨rfl, rfl, trivial⟩ cal52 rfl rfl (c_mac_part T key 54 hT hn) ?_
  rintro _ _ ⟨rfl, rfl⟩
  refine ⟨trivial, ?_⟩
  refine SL.bsl [_] ⟨rfl, rfl, rfl, rfl⟩ ty83 sz9 ze9 ⟨rfl, trivial⟩ rfl rfl rfl (by simp [Value.cells]) rfl rfl (fun _ => trivial) fun b0 => ?_
  refine SL.mv ⟨rfl, rfl, rfl, rfl⟩ rfl ?_
  refine SL.heap (H' := rowC 9 1 (.slice (some ⟨b0, 0, none⟩) 1 1) 1 [vS (partA T key 54)] :: own bs (.cells (arr vS ls) 9) :: H) ?_ (fun w hw => HpOk.asRowF hw rfl (Nat.le_refl 1) (by decide))
  refine SL.app 0 ⟨rfl, rfl, rfl, rfl⟩ (m := ls.length) (news := ls.map vS) ty83 sz9 by9 ze9 rfl (by decide) rfl rfl rfl (by simp) (cells_all 1 rfl) (by intro u hu; obtain ⟨x, _, rfl⟩ := List.mem_map.1 hu; rfl) (by omega) (by omega) (fun _ => trivial) fun v' => ?_
  have e1 : rowC 9 1 v' (1 + ls.length) ([vS (partA T key 54)] ++ ls.map vS) = rowC 9 1 v' (partA T key 54 :: ls).length ((partA T key 54 :: ls).flatMap encS) := by
    rw [flatMap_encS, List.length_cons, Nat.add_comm]; rfl
  rw [e1]
  refine SL.call (vs := [_]) (Hin := [_]) ⟨rfl, rfl, rfl, rfl⟩ rfl ⟨rfl, trivial⟩ cal51 rfl rfl (c_sha_AddR T v' (partA T key 54 :: ls) hT (by simp only [List.flatten_cons, List.length_append, partA_length]; omega) (by simp only [List.length_cons]; omega)) ?_
  rintro _ _ ⟨rfl, rfl⟩
  refine ⟨trivial, ?_⟩
  refine SL.asg ⟨rfl, rfl, rfl, rfl⟩ rfl ?_
  refine SL.nx ?_
  refine SX.sr ?_
  refine SL.mv ⟨rfl, rfl, rfl, rfl⟩ rfl ?_
  refine SL.call (vs := [_, _]) (Hin := []) ⟨rfl, rfl, rfl, rfl⟩ rfl ⟨rfl, rfl, trivial⟩ cal52 rfl rfl (c_mac_part T key 92 hT hn) ?_
  rintro _ _ ⟨rfl, rfl⟩
  refine ⟨trivial, ?_⟩
  refine SL.mv ⟨rfl, rfl, rfl, rfl⟩ rfl ?_
  refine SL.bsl [_, _] ⟨rfl, rfl, rfl, rfl⟩ ty83 sz9 ze9 ⟨rfl, rfl, trivial⟩ rfl rfl rfl (by simp [Value.cells]) rfl rfl (fun _ => trivial) fun b1 => ?_
  refine SL.call (vs := [_]) (Hin := [_]) ⟨rfl, rfl, rfl, rfl⟩ rfl ⟨rfl, trivial⟩ cal51 rfl rfl (c_sha_AddL T b1 [partA T key 92, sumA T (partA T key 54 :: ls).flatten] hT (by simp [partA_length, sumA_length]) (by simp)) ?_
  rintro _ _ ⟨rfl, rfl⟩
  refine ⟨trivial, ?_⟩
  refine SL.asg ⟨rfl, rfl, rfl, rfl⟩ rfl ?_
  refine SL.nx ?_
  refine SX.ret ?_
  exact SQ.fret (res1 rfl rfl) (ret_of (M := []) ⟨by simp [macA], rfl⟩ fun _ h => h.skip [_, _, _])

theorem c_mac_Equal (a b : List UInt8) (ha : a.length ≤ 549755813888) : Con Tryd.prog K w0 39 [vS a, vS b] [] H (fun r M => r = vB (decide (a = b)) ∧ M = []) := by
  refine Con.enter Tryd.func39 rfl rfl ?_
  refine SX.sr ?_
  refine SL.asg ⟨rfl, rfl, rfl, rfl⟩ rfl ?_
  refine SL.nx ?_
  refine SX.sr ?_
  refine SL.asg ⟨rfl, rfl, rfl, rfl⟩ rfl ?_
  refine SL.nx ?_
  refine SX.seq ?_
  refine SX.sr ?_
  refine SL.mv ⟨rfl, rfl, rfl, rfl⟩ rfl ?_
  refine SL.lenS ⟨rfl, rfl, rfl, rfl⟩ ty9 rfl ?_
  refine SL.mv ⟨rfl, rfl, rfl, rfl⟩ rfl ?_
  refine SL.lenS ⟨rfl, rfl, rfl, rfl⟩ ty9 rfl ?_
  refine SL.minI ⟨rfl, rfl, rfl, rfl⟩ rfl rfl ?_
  refine SL.mv ⟨rfl, rfl, rfl, rfl⟩ rfl ?_
  refine SL.nx ?_
  refine SX.block ?_
  refine SX.mono (SX.loop (α := Nat × UInt8) (fun x => x.1 ≤ min a.length b.length ∧ (x.2 = 0 ↔ ∀ j, j < x.1 → a.getD j 0 = b.getD j 0)) (fun x => [(0, vS a), (1, vS b), (5, vU8 x.2), (11, vI (min (a.length : Int) b.length)), (12, vI x.1)]) (fun x => H) (fun x => min a.length b.length - x.1) (fun x D hp => ?_) (0, 0) ⟨Nat.zero_le _, by simp⟩) (by repeat' (first | exact trivial | refine And.intro rfl ?_))
  obtain ⟨i, x⟩ := x
  obtain ⟨hi, hx⟩ := hp
  simp only at hi hx
  refine SX.sr ?_
  refine SL.bin ⟨rfl, rfl, rfl, rfl⟩ rfl rfl Bin.ltI ?_
  refine SL.nx ?_
  refine SX.seq ?_
  refine SX.cond rfl (fun hc1 => ?_) (fun hc1 => ?_)
  · skip
    have hlt : i < min a.length b.length := by simp at hc1; omega
    refine SX.skip ?_
    refine SQ.thn ?_
    refine SX.seq ?_
    refine SX.block ?_
    refine SX.sr ?_
    refine SL.mv ⟨rfl, rfl, rfl, rfl⟩ rfl ?_
    refine SL.asg ⟨rfl, rfl, rfl, rfl⟩ rfl ?_
    refine SL.nx ?_
    refine SX.drawI mix [] (Pl.of [(true, 0), (true, 1), (true, 2), (true, 3), (true, 4), (true, 5), (true, 6), (true, 7), (true, 8), (true, 9)]) (by kernel_rfl) ?_
    refine SL.mv ⟨rfl, rfl, rfl, rfl⟩ rfl ?_
    refine SL.mv ⟨rfl, rfl, rfl, rfl⟩ rfl ?_
    refine SL.mv ⟨rfl, rfl, rfl, rfl⟩ rfl ?_
    refine SL.ixS i ⟨rfl, rfl, rfl, rfl⟩ ty9 rfl rfl (by omega) (by omega) ?_
    refine SL.mv ⟨rfl, rfl, rfl, rfl⟩ rfl ?_
    refine SL.mv ⟨rfl, rfl, rfl, rfl⟩ rfl ?_
    refine SL.ixS i ⟨rfl, rfl, rfl, rfl⟩ ty9 rfl rfl (by omega) (by omega) ?_
    refine SL.bin ⟨rfl, rfl, rfl, rfl⟩ rfl rfl Bin.xor8 ?_
    refine SL.bin ⟨rfl, rfl, rfl, rfl⟩ rfl rfl Bin.or8 ?_
    refine SL.asg ⟨rfl, rfl, rfl, rfl⟩ rfl ?_
    refine SL.nil ?_
    refine SQ.blk ?_
    refine SQ.thn ?_
    refine SX.region ?_
    refine SL.bin ⟨rfl, rfl, rfl, rfl⟩ rfl rfl (Bin.addI (by omega) (by omega)) ?_
    refine SL.mv ⟨rfl, rfl, rfl, rfl⟩ rfl ?_
    refine SL.nil ?_
    refine SQ.again (i + 1, x ||| (a.getD i 0 ^^^ b.getD i 0)) ⟨hlt, ?_⟩ (by simp only; omega) (by repeat' (first | exact trivial | refine And.intro rfl ?_))
    simp only
    rw [or_zero8, xor_zero8, hx]
    constructor
    · rintro ⟨h1, h2⟩ j hj
      rcases Nat.lt_or_ge j i with h | h
      · exact h1 j h
      · obtain rfl : j = i := by omega
        exact h2
    · intro h
      exact ⟨fun j hj => h j (by omega), h i (by omega)⟩
  · skip
    have hie : i = min a.length b.length := by simp at hc1; omega
    refine SX.exit ?_
    refine SQ.thnE ?_
    refine SQ.lpE ?_
    refine SQ.blkE ?_
    refine SQ.thn ?_
    refine SX.sr ?_
    refine SL.mv ⟨rfl, rfl, rfl, rfl⟩ rfl ?_
    refine SL.bin ⟨rfl, rfl, rfl, rfl⟩ rfl rfl (Bin.eq8 (b := 0)) ?_
    refine SL.mv ⟨rfl, rfl, rfl, rfl⟩ rfl ?_
    refine SL.and (c := decide ((a.length : Int) = b.length)) 27 6 33 rfl (fun hb k => ?_) (fun hb k => ?_) ?_
    · skip
      refine SL.mv ⟨rfl, rfl, rfl, rfl⟩ rfl ?_
      refine SL.lenS ⟨rfl, rfl, rfl, rfl⟩ ty9 rfl ?_
      refine SL.mv ⟨rfl, rfl, rfl, rfl⟩ rfl ?_
      refine SL.lenS ⟨rfl, rfl, rfl, rfl⟩ ty9 rfl ?_
      refine SL.bin ⟨rfl, rfl, rfl, rfl⟩ rfl rfl Bin.eqI ?_
      refine SL.pk ⟨rfl, rfl, rfl, rfl⟩ rfl rfl ?_
      exact k.mono (by repeat' (first | exact trivial | refine And.intro rfl ?_))
    · skip
      refine SL.pass rfl rfl rfl ?_
      refine SL.pass rfl rfl rfl ?_
      refine SL.pass rfl rfl rfl ?_
      refine SL.pass rfl rfl rfl ?_
      refine SL.pass rfl rfl rfl ?_
      refine SL.pk ⟨rfl, rfl, rfl, rfl⟩ rfl rfl ?_
      exact k.mono (by repeat' (first | exact trivial | refine And.intro rfl ?_))
    refine SL.asg ⟨rfl, rfl, rfl, rfl⟩ rfl ?_
    refine SL.nx ?_
    refine SX.ret ?_
    refine SQ.fret (res1 rfl rfl) (ret_of (M := []) ⟨?_, rfl⟩ fun _ h => h.skip [])
    congr 1
    rw [Bool.eq_iff_iff, Bool.and_eq_true, decide_eq_true_eq, decide_eq_true_eq, decide_eq_true_eq, hx]
    constructor
    · rintro ⟨h1, h2⟩
      have hl : a.length = b.length := by omega
      refine List.ext_getElem hl fun j hj hj' => ?_
      have := h1 j (by omega)
      simpa [List.getD_eq_getElem?_getD, hj, hj'] using this
    · rintro rfl
      exact ⟨fun _ _ => rfl, rfl⟩

theorem q_mac_expanded (T : List UInt32) (key label : List UInt8) (bk bl : Nat) (hT : ShaT K w0 T) (hn : key.length ≤ 549755813888) (hl : label.length ≤ 274877906944) : Seq Tryd.prog K w0 85 [vP bk 0, vP bl 0] [own bl (.cells #[vS label] 9), own bk (.cells #[vS key] 9)] encS (expA T key label) := by
  intro lp J X T1 hy G h0
  refine Con.enter Tryd.func85 rfl rfl ?_
  refine SX.sr ?_
  refine SL.asg ⟨rfl, rfl, rfl, rfl⟩ rfl ?_
  refine SL.nx ?_
  refine SX.sr ?_
  refine SL.asg ⟨rfl, rfl, rfl, rfl⟩ rfl ?_
  refine SL.nx ?_
  refine SX.block ?_
  refine SX.mono (SX.loop (α := Nat × List Chunk) (fun x => x.1 ≤ 255 ∧ J ((expA T key label).take x.1) x.2) (fun x => [(0, vY lp), (1, vP bk 0), (2, vP bl 0), (4, vS (expN T key label x.1)), (5, vI (x.1 + 1 : Nat))]) (fun x => own bl (.cells #[vS label] 9) :: own bk (.cells #[vS key] 9) :: (x.2 ++ T1)) (fun x => 255 - x.1) (fun x D hp => ?_) (0, G) ⟨by simp, h0⟩) (by repeat' (first | exact trivial | refine And.intro rfl ?_))
  obtain ⟨i, G⟩ := x
  obtain ⟨hi, hJ⟩ := hp
  simp only at hi hJ
  refine SX.seq ?_
  refine SX.sr ?_
  refine SL.mv ⟨rfl, rfl, rfl, rfl⟩ rfl ?_
  refine SL.bin ⟨rfl, rfl, rfl, rfl⟩ rfl rfl Bin.leI ?_
  refine SL.nx ?_
  refine SX.cond rfl (fun hc1 => ?_) (fun hc1 => ?_)
  · skip
    have hlt : i < 255 := by simp at hc1; omega
    have hg := expA_get T key label i hlt
    have hel := expN_length T key label i
    refine SX.skip ?_
    refine SQ.thn ?_
    refine SX.seq ?_
    refine SX.block ?_
    refine SX.sr ?_
    refine SL.ld ⟨rfl, rfl, rfl, rfl⟩ sc9 rfl (cell_own 1 rfl rfl) ?_
    refine SL.mv ⟨rfl, rfl, rfl, rfl⟩ rfl ?_
    refine SL.ld ⟨rfl, rfl, rfl, rfl⟩ sc9 rfl (cell_own 0 rfl rfl) ?_
    refine SL.mv ⟨rfl, rfl, rfl, rfl⟩ rfl ?_
    refine SL.cv ⟨rfl, rfl, rfl, rfl⟩ rfl (Cv.i_8 ty3 ty5) ?_
    refine SL.bsl [_] ⟨rfl, rfl, rfl, rfl⟩ ty41 sz5 ze5 ⟨rfl, trivial⟩ rfl rfl rfl (by simp [Value.cells]) rfl rfl (fun _ => trivial) fun b0 => ?_
    refine SL.bts [_] ⟨rfl, rfl, rfl, rfl⟩ ty41 ty5 ty9 rfl rfl (cells_all 0 rfl) ?_
    refine SL.bsl [_, _, _] ⟨rfl, rfl, rfl, rfl⟩ ty83 sz9 ze9 ⟨rfl, rfl, rfl, trivial⟩ rfl rfl rfl (by simp [Value.cells]) rfl rfl (fun _ => trivial) fun b1 => ?_
    refine SL.call (vs := [_, _]) (Hin := [_]) ⟨rfl, rfl, rfl, rfl⟩ rfl ⟨rfl, rfl, trivial⟩ cal32 rfl rfl (c_mac_Mac T key [expN T key label i, label, [toU8 ((i + 1 : Nat) : Int)]] _ hT hn (by simp; omega) (by simp)) ?_
    rintro _ _ ⟨rfl, rfl⟩
    refine ⟨trivial, ?_⟩
    refine SL.asg ⟨rfl, rfl, rfl, rfl⟩ rfl ?_
    refine SL.nx ?_
    refine SX.sr ?_
    refine SL.mv ⟨rfl, rfl, rfl, rfl⟩ rfl ?_
    refine SL.mv ⟨rfl, rfl, rfl, rfl⟩ rfl ?_
    have e1 : macA T key [expN T key label i, label, [toU8 ((i + 1 : Nat) : Int)]].flatten = expN T key label (i + 1) := by simp [expN]
    rw [e1]
    refine SL.yld (M2 := [_, _, _]) (G := G) (T := T1) (vs := [_]) (ok := fun G1 => J ((expA T key label).take (i + 1)) G1) (no := X) ⟨rfl, rfl, rfl, rfl⟩ rfl ⟨rfl, trivial⟩ rfl ?_ (fun bb G1 hG1 => ⟨trivial, ?_⟩)
    · intro M
      have := hy _ _ _ (take_split hg).1 G hJ M
      rw [← (take_split hg).2] at this
      exact this
    refine SL.not ⟨rfl, rfl, rfl, rfl⟩ rfl ?_
    refine SL.nx ?_
    refine SX.cond rfl (fun hc2 => ?_) (fun hc2 => ?_)
    · skip
      obtain rfl : bb = false := by simpa using hc2
      refine SX.ret ?_
      refine SQ.blkR ?_
      refine SQ.thnR ?_
      refine SQ.lpR ?_
      refine SQ.blkR ?_
      exact SQ.fret (res0 rfl) (ret_of (M := G1) (.inr hG1) fun _ h => h.skip [_, _, _])
    · skip
      obtain rfl : bb = true := by simpa using hc2
      refine SX.skip ?_
      refine SQ.blk ?_
      refine SQ.thn ?_
      refine SX.region ?_
      refine SL.mv ⟨rfl, rfl, rfl, rfl⟩ rfl ?_
      refine SL.bin ⟨rfl, rfl, rfl, rfl⟩ rfl rfl (Bin.addI (by omega) (by omega)) ?_
      refine SL.asg ⟨rfl, rfl, rfl, rfl⟩ rfl ?_
      refine SL.nil ?_
      exact SQ.again (i + 1, G1) ⟨hlt, hG1⟩ (by simp only; omega) (by repeat' (first | exact trivial | refine And.intro rfl ?_)) (fun w hw => hw.skip [_])
  · skip
    refine SX.exit ?_
    refine SQ.thnE ?_
    refine SQ.lpE ?_
    refine SQ.blkE ?_
    have hle : i = 255 := by simp at hc1; omega
    exact SQ.fend (res0 rfl) (ret_of (M := G) (.inl (by rw [List.take_of_length_le (by rw [expA_length]; omega)] at hJ; exact hJ)) fun _ h => h.skip [_, _])

theorem c_mac_expanded (key label : List UInt8) : Con Tryd.prog K w0 66 [vS key, vS label] [] H (fun r M => ∃ bk bl, r = .func (.func 85) #[] #[vP bk 0, vP bl 0] ∧ M = [own bl (.cells #[vS label] 9), own bk (.cells #[vS key] 9)]) := by
  refine Con.enter Tryd.func66 rfl rfl ?_
  refine SX.sr ?_
  refine SL.box ⟨rfl, rfl, rfl, rfl⟩ rfl (fun _ => trivial) fun b0 => ?_
  refine SL.box ⟨rfl, rfl, rfl, rfl⟩ rfl (fun _ => trivial) fun b1 => ?_
  refine SL.asg ⟨rfl, rfl, rfl, rfl⟩ rfl ?_
  refine SL.nx ?_
  refine SX.sr ?_
  refine SL.mkf (fv := #[]) (cv := #[_, _]) ⟨rfl, rfl, rfl, rfl⟩ rfl rfl ?_
  refine SL.asg ⟨rfl, rfl, rfl, rfl⟩ rfl ?_
  refine SL.nx ?_
  refine SX.ret ?_
  exact SQ.fret (res1 rfl rfl) (ret_of (M := [_, _]) ⟨b0, b1, rfl, rfl⟩ fun _ h => h)

theorem c_mac_Expand (T : List UInt32) (key label : List UInt8) (hT : ShaT K w0 T) (hn : key.length ≤ 549755813888) (hl : label.length ≤ 274877906944) : Con Tryd.prog K w0 49 [vS key, vS label, vI 32] [] H (fun r M => r = .tuple #[vS (exp32 T key label), vI 0] ∧ M = []) := by
  refine Con.enter Tryd.func49 rfl rfl ?_
  refine SX.sr ?_
  refine SL.box ⟨rfl, rfl, rfl, rfl⟩ rfl (fun _ => trivial) fun b0 => ?_
  refine SL.asg ⟨rfl, rfl, rfl, rfl⟩ rfl ?_
  refine SL.asg ⟨rfl, rfl, rfl, rfl⟩ rfl ?_
  refine SL.nx ?_
  refine SX.scope ?_
  refine SX.seq ?_
  refine SX.sr ?_
  refine SL.ld ⟨rfl, rfl, rfl, rfl⟩ sc3 rfl (cell_own 0 rfl rfl) ?_
  refine SL.bin ⟨rfl, rfl, rfl, rfl⟩ rfl rfl Bin.ltI ?_
  refine SL.mv ⟨rfl, rfl, rfl, rfl⟩ rfl ?_
  refine SL.or (c := decide ((8160 : Int) < 32)) 12 3 15 rfl (fun hb k => ?_) (fun hb k => ?_) ?_
  · skip
    refine SL.pass rfl rfl rfl ?_
    refine SL.pass rfl rfl rfl ?_
    refine SL.pk ⟨rfl, rfl, rfl, rfl⟩ rfl rfl ?_
    exact k.mono (by repeat' (first | exact trivial | refine And.intro rfl ?_))
  · skip
    refine SL.ld ⟨rfl, rfl, rfl, rfl⟩ sc3 rfl (cell_own 0 rfl rfl) ?_
    refine SL.bin ⟨rfl, rfl, rfl, rfl⟩ rfl rfl Bin.gtI ?_
    refine SL.pk ⟨rfl, rfl, rfl, rfl⟩ rfl rfl ?_
    exact k.mono (by repeat' (first | exact trivial | refine And.intro rfl ?_))
  refine SL.nx ?_
  refine SX.cond rfl (fun hc1 => absurd hc1 (by decide)) (fun hc1 => ?_)
  refine SX.skip ?_
  refine SQ.thn ?_
  refine SX.sr ?_
  refine SL.alloc ⟨rfl, rfl, rfl, rfl⟩ ze53 (fun _ => trivial) fun b1 => ?_
  refine SL.nx ?_
  refine SX.seq ?_
  refine SX.label ?_
  refine SQ.thn ?_
  refine SX.seq ?_
  refine SX.sr ?_
  refine SL.mv ⟨rfl, rfl, rfl, rfl⟩ rfl ?_
  refine SL.mv ⟨rfl, rfl, rfl, rfl⟩ rfl ?_
  refine SL.call (vs := [_, _]) (Hin := []) ⟨rfl, rfl, rfl, rfl⟩ rfl ⟨rfl, rfl, trivial⟩ cal66 rfl rfl (c_mac_expanded key label) ?_
  rintro _ _ ⟨bk, bl, rfl, rfl⟩
  refine ⟨trivial, ?_⟩
  refine SL.nx ?_
  refine SX.nilRow 5 1 ?_
  refine SX.pick [1, 2, 3, 0, 4] 5 ?_
  refine SX.block ?_
  refine SX.range (enc := encS) (expA T key label) (fun pre G => pre.length ≤ 1 ∧ ∃ p v, adr b1 p ∧ G = own b1 (.cells #[p, v] 53) :: rowC 5 1 v pre.flatten.length (pre.flatten.map fun b => vU8 b) :: own b0 (.cells #[vI 32] 3) :: H) (fun c G => c = .exit 0 ∧ ∃ p v, adr b1 p ∧ G = own b1 (.cells #[p, v] 53) :: rowC 5 1 v 32 ((exp32 T key label).map fun b => vU8 b) :: own b0 (.cells #[vI 32] 3) :: H) rfl cal85 rfl (fun _ => rfl) (q_mac_expanded T key label bk bl hT hn hl) rfl ⟨Nat.zero_le _, _, _, .inl rfl, rfl⟩ (fun pre x suf G hxs hJ r lp Rest => ?_) (fun G D hJ => ?_) (fun c G D hX => ?_)
  · obtain ⟨hpl, p, v, hadr, rfl⟩ := hJ
    have hx0 : (expA T key label)[0]? = some (exp32 T key label) := by rw [expA_get T key label 0 (by decide), expN_one]
    have he : (exp32 T key label).length = 32 := macA_length ..
    refine SX.region ?_
    refine SL.asg ⟨rfl, rfl, rfl, rfl⟩ rfl ?_
    refine SL.nil ?_
    refine SQ.bgn ?_
    refine SX.block ?_
    refine SX.seq ?_
    refine SX.seq ?_
    refine SX.drawI mix [2] (Pl.of [(true, 1), (false, 0), (true, 2)]) (by kernel_rfl) ?_
    refine SL.ld ⟨rfl, rfl, rfl, rfl⟩ sc3 rfl (cell_own 0 rfl rfl) ?_
    refine SL.call (vs := [_]) (Hin := [_, _]) ⟨rfl, rfl, rfl, rfl⟩ rfl ⟨rfl, trivial⟩ cal65 rfl rfl (c_Len 53 b1 p v _ _) ?_
    rintro _ _ ⟨rfl, rfl⟩
    refine ⟨⟨⟨2, rfl⟩, trivial⟩, ?_⟩
    refine SL.bin ⟨rfl, rfl, rfl, rfl⟩ rfl rfl Bin.geI ?_
    refine SL.nx ?_
    refine SX.cond rfl (fun hc2 => ?_) (fun hc2 => ?_)
    · skip
      have hpre : pre = [exp32 T key label] := by
        match pre, hpl with
        | [], _ => simp at hc2
        | [y], _ => rw [hxs] at hx0; simpa using hx0
      subst hpre
      refine SX.exit ?_
      refine SQ.thnE ?_
      refine SQ.blkO ?_
      refine SQ.rndE (G := own b1 (.cells #[p, v] 53) :: rowC 5 1 v 32 ((exp32 T key label).map fun b => vU8 b) :: own b0 (.cells #[vI 32] 3) :: H) ⟨rfl, p, v, hadr, rfl⟩ (fun w hw => ?_)
      have e1 : [exp32 T key label].flatten = exp32 T key label := by simp
      rw [e1, he] at hw
      exact hw
    · skip
      have hpre : pre = [] := by
        match pre, hpl with
        | [], _ => rfl
        | [y], _ =>
          rw [hxs] at hx0
          obtain rfl : y = exp32 T key label := by simpa using hx0
          simp [he] at hc2
      subst hpre
      obtain rfl : x = exp32 T key label := by rw [hxs] at hx0; simpa using hx0
      refine SX.skip ?_
      refine SQ.thn ?_
      refine SX.region ?_
      refine SL.mv ⟨rfl, rfl, rfl, rfl⟩ rfl ?_
      refine SL.call (vs := [_, _]) (Hin := [_, _]) ⟨rfl, rfl, rfl, rfl⟩ rfl ⟨rfl, rfl, trivial⟩ cal64 rfl rfl (c_WriteString 53 b1 p v _ _ (exp32 T key label) hadr li53 (by simp [he])) ?_
      rintro _ _ ⟨rfl, v', rfl⟩
      refine ⟨trivial, ?_⟩
      refine SL.nil ?_
      refine SQ.blk ?_
      refine SQ.rndN (G := own b1 (.cells #[vP b1 0, v'] 53) :: rowC 5 1 v' ([] ++ [exp32 T key label]).flatten.length (([] ++ [exp32 T key label]).flatten.map fun b => vU8 b) :: own b0 (.cells #[vI 32] 3) :: H) ⟨by simp, _, v', .inr rfl, rfl⟩ (fun w hw => ?_)
      have e1 : ([] ++ [exp32 T key label]).flatten = exp32 T key label := by simp
      rw [e1]
      simpa using hw
  · exact absurd hJ.1 (by rw [expA_length]; omega)
  · obtain ⟨rfl, p, v, hadr, rfl⟩ := hX
    have he : (exp32 T key label).length = 32 := macA_length ..
    refine SX.exit ?_
    refine SQ.blkE ?_
    refine SQ.thn ?_
    refine SX.seq ?_
    refine SX.drawI mix [2] (Pl.of [(true, 1), (false, 0), (true, 2), (true, 3), (true, 4)]) (by kernel_rfl) ?_
    refine SL.ld ⟨rfl, rfl, rfl, rfl⟩ sc3 rfl (cell_own 0 rfl rfl) ?_
    refine SL.call (vs := [_]) (Hin := [_, _]) ⟨rfl, rfl, rfl, rfl⟩ rfl ⟨rfl, trivial⟩ cal25 rfl rfl (c_String 53 b1 p v 32 (exp32 T key label) (by omega)) ?_
    rintro _ _ ⟨rfl, rfl⟩
    refine ⟨⟨⟨2, rfl⟩, trivial⟩, ?_⟩
    refine SL.slSh 32 ⟨rfl, rfl, rfl, rfl⟩ ty9 rfl rfl (by omega) (by omega) ?_
    refine SL.asg ⟨rfl, rfl, rfl, rfl⟩ rfl ?_
    refine SL.asg ⟨rfl, rfl, rfl, rfl⟩ rfl ?_
    refine SL.nx ?_
    refine SX.ret ?_
    refine SQ.scpR ?_
    exact SQ.fret (res2 rfl rfl rfl) (ret_of (M := []) ⟨by rw [List.take_of_length_le (by omega)], rfl⟩ fun _ h => h.skip [_, _, _])

end Go.Proofs.YtnpnmdbleopikaaDoor

