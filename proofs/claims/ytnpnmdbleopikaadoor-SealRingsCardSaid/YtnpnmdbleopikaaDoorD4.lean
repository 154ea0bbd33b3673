/- Walks of SHA-256's sum: of what was taken in, of texts behind each other, of a text. Condition: texts of at most 2^40 bytes together. -/
import Derived.Test.YtnpnmdbleopikaaDoorD3
import Derived.Test.YtnpnmdbleopikaaDoorB1
namespace Go.Proofs.YtnpnmdbleopikaaDoor
open Go
variable {K : Nat → Prop} {w0 : World} {H : List Chunk}

theorem be64_step (n : UInt64) (i : Nat) (h : i < 8) : (be64 n).take (i + 1) = (be64 n).take i ++ [(shr64 n (56 - 8 * i)).toUInt8] := by
  have : i = 0 ∨ i = 1 ∨ i = 2 ∨ i = 3 ∨ i = 4 ∨ i = 5 ∨ i = 6 ∨ i = 7 := by omega
  rcases this with rfl | rfl | rfl | rfl | rfl | rfl | rfl | rfl <;> rfl
theorem absorb_rest_len (T : List UInt32) (h : St8) (s : List UInt8) : (absorb T h s).2.length = s.length % 64 := by
  rw [absorb_parts]
  simp
  omega
theorem c_sha_SumOf (T : List UInt32) (h : St8) (rest : List UInt8) (n : Nat) (b : Nat) (e : TypeId) (hT : Tab K w0 2 T) (hTl : T.length = 64) (hr : rest.length = n % 64) (hn : n ≤ 1099511627776) : Con Tryd.prog K w0 71 [vP b 0] [own b (.cells (sumC h rest n) e)] H (fun r M => r = vS ((absorb T h (rest ++ tailA n)).1.list.flatMap beBytes) ∧ M = [own b (.cells (sumC h rest n) e)]) := by
  refine Con.enter Tryd.func71 rfl rfl ?_
  refine SX.sr ?_
  refine SL.asg ⟨rfl, rfl, rfl, rfl⟩ rfl ?_
  refine SL.nx ?_
  refine SX.seq ?_
  refine SX.sr ?_
  refine SL.mv ⟨rfl, rfl, rfl, rfl⟩ rfl ?_
  refine SL.eqPN ⟨rfl, rfl, rfl, rfl⟩ ty105 rfl rfl ?_
  refine SL.nx ?_
  refine SX.cond rfl (fun hc1 => absurd hc1 (by simp)) (fun hc1 => ?_)
  refine SX.skip ?_
  refine SQ.thn ?_
  refine SX.sr ?_
  refine SL.mv ⟨rfl, rfl, rfl, rfl⟩ rfl ?_
  refine SL.nchk ⟨rfl, rfl, rfl, rfl⟩ rfl ?_
  refine SL.ldA (sumC h rest n).toList ⟨rfl, rfl, rfl, rfl⟩ ag111 rfl rfl (cells_own 0 rfl (fun j u hu => by simpa using hu)) ?_
  refine SL.alloc ⟨rfl, rfl, rfl, rfl⟩ ze111 (fun _ => trivial) fun b0 => ?_
  refine SL.stF (c' := sumC h rest n) 0 ⟨rfl, rfl, rfl⟩ rfl rfl rfl sz111 rfl rfl (List.all_eq_true.1 (show (sumC h rest n).toList.all (·.oneCell') = true from rfl)) trivial ?_
  refine SL.nx ?_
  refine SX.sr ?_
  refine SL.mv ⟨rfl, rfl, rfl, rfl⟩ rfl ?_
  refine SL.nchk ⟨rfl, rfl, rfl, rfl⟩ rfl ?_
  refine SL.fa ⟨rfl, rfl, rfl, rfl⟩ rfl fo111_2 ?_
  refine SL.ld ⟨rfl, rfl, rfl, rfl⟩ sc3 rfl (cell_own 1 rfl rfl) ?_
  refine SL.cv ⟨rfl, rfl, rfl, rfl⟩ rfl (Cv.i_64 ty3 ty23) ?_
  refine SL.bin ⟨rfl, rfl, rfl, rfl⟩ rfl rfl (Bin.mul64 (b := 8)) ?_
  refine SL.asg ⟨rfl, rfl, rfl, rfl⟩ rfl ?_
  refine SL.nx ?_
  refine SX.sr ?_
  refine SL.mv ⟨rfl, rfl, rfl, rfl⟩ rfl ?_
  refine SL.nchk ⟨rfl, rfl, rfl, rfl⟩ rfl ?_
  refine SL.fa ⟨rfl, rfl, rfl, rfl⟩ rfl fo111_2 ?_
  refine SL.ld ⟨rfl, rfl, rfl, rfl⟩ sc3 rfl (cell_own 1 rfl rfl) ?_
  refine SL.bin ⟨rfl, rfl, rfl, rfl⟩ rfl rfl (Bin.modI (by omega) (by omega)) ?_
  refine SL.bin ⟨rfl, rfl, rfl, rfl⟩ rfl rfl (Bin.subI (by omega) (by omega)) ?_
  refine SL.bin ⟨rfl, rfl, rfl, rfl⟩ rfl rfl (Bin.modI (by omega) (by omega)) ?_
  refine SL.asg ⟨rfl, rfl, rfl, rfl⟩ rfl ?_
  refine SL.nx ?_
  refine SX.sr ?_
  refine SL.asg ⟨rfl, rfl, rfl, rfl⟩ rfl ?_
  refine SL.nx ?_
  refine SX.seq ?_
  refine SX.sr ?_
  refine SL.asg ⟨rfl, rfl, rfl, rfl⟩ rfl ?_
  refine SL.nx ?_
  refine SX.block ?_
  refine SX.nilRow 5 1 ?_
  refine SX.mono (SX.loop (α := Nat × Value) (fun x => x.1 ≤ 8) (fun x => [(3, vP b0 0), (4, vU64 (toU64 n * 8)), (5, vI (padZ n)), (6, x.2), (7, vI (56 - 8 * (x.1 : Int)))]) (fun x => rowC 5 1 x.2 x.1 (((be64 (toU64 n * 8)).take x.1).map fun b => vU8 b) :: own b0 (.cells (sumC h rest n) 111) :: own b (.cells (sumC h rest n) e) :: H) (fun x => 8 - x.1) (fun x D hp => ?_) (0, .slice none 0 0) (by decide)) ⟨rfl, rfl, ?_, rfl, rfl, trivial⟩
  rotate_left
  · have e1 : ((119 - (n : Int) % 64) % 64) = (padZ n : Int) := by unfold padZ; omega
    rw [← e1]
    rfl
  obtain ⟨i, v⟩ := x
  simp only at hp
  refine SX.seq ?_
  refine SX.sr ?_
  refine SL.mv ⟨rfl, rfl, rfl, rfl⟩ rfl ?_
  refine SL.bin ⟨rfl, rfl, rfl, rfl⟩ rfl rfl Bin.geI ?_
  refine SL.nx ?_
  refine SX.cond rfl (fun hc2 => ?_) (fun hc2 => ?_)
  · skip
    have hi : i < 8 := by simp at hc2; omega
    have e1 : (56 - 8 * (i : Int)) = ((56 - 8 * i : Nat) : Int) := by omega
    refine SX.skip ?_
    refine SQ.thn ?_
    refine SX.seq ?_
    refine SX.block ?_
    refine SX.region ?_
    refine SL.mv ⟨rfl, rfl, rfl, rfl⟩ rfl ?_
    refine SL.mv ⟨rfl, rfl, rfl, rfl⟩ rfl ?_
    refine SL.mv ⟨rfl, rfl, rfl, rfl⟩ rfl ?_
    refine SL.bin ⟨rfl, rfl, rfl, rfl⟩ rfl (congrArg (fun z => some (vI z)) e1) (Bin.shr64 (n := 56 - 8 * i)) ?_
    refine SL.cv ⟨rfl, rfl, rfl, rfl⟩ rfl (Cv.u64_8 ty23 ty5) ?_
    refine SL.bsl [_] ⟨rfl, rfl, rfl, rfl⟩ ty41 sz5 ze5 ⟨rfl, trivial⟩ rfl rfl rfl (by simp [Value.cells]) rfl rfl (fun _ => trivial) fun b1 => ?_
    refine SL.app 1 ⟨rfl, rfl, rfl, rfl⟩ (m := 1) (news := [vU8 (shr64 (toU64 n * 8) (56 - 8 * i)).toUInt8]) ty41 sz5 by5 ze5 rfl (by decide) rfl rfl rfl rfl (cells_all 0 rfl) (by simp [Value.oneCell']) (by omega) (by omega) (fun _ => trivial) fun v' => ?_
    refine SL.asg ⟨rfl, rfl, rfl, rfl⟩ rfl ?_
    refine SL.nil ?_
    refine SQ.blk ?_
    refine SQ.thn ?_
    refine SX.region ?_
    refine SL.mv ⟨rfl, rfl, rfl, rfl⟩ rfl ?_
    refine SL.bin ⟨rfl, rfl, rfl, rfl⟩ rfl rfl (Bin.subI (by omega) (by omega)) ?_
    refine SL.asg ⟨rfl, rfl, rfl, rfl⟩ rfl ?_
    refine SL.nil ?_
    refine SQ.again (i + 1, v') (by simp only; omega) (by simp only; omega) ⟨rfl, rfl, rfl, rfl, ?_, trivial⟩ (fun w hw => by
      simp only
      rw [be64_step _ _ hi, List.map_append]
      exact hw.skip [_])
    have e2 : (56 - 8 * ((i + 1 : Nat) : Int)) = 56 - 8 * (i : Int) - 8 := by omega
    simp only [e2]
    rfl
  · skip
    have hi : i = 8 := by simp at hc2; omega
    subst hi
    refine SX.exit ?_
    refine SQ.thnE ?_
    refine SQ.lpE ?_
    refine SQ.blkE ?_
    refine SQ.thn ?_
    refine SX.seq ?_
    refine SX.drawI mix [0] (Pl.ap [(true, 0), (true, 3), (true, 4), (false, 1), (true, 2), (true, 5)] (.last 6 .nil)) (by kernel_rfl) ?_
    refine SL.mv ⟨rfl, rfl, rfl, rfl⟩ rfl ?_
    refine SL.mv ⟨rfl, rfl, rfl, rfl⟩ rfl ?_
    refine SL.btsR (s := be64 (toU64 n * 8)) 0 ⟨rfl, rfl, rfl, rfl⟩ ty41 ty5 ty9 rfl rfl ?_
    refine SL.call (vs := [_, _]) (Hin := []) ⟨rfl, rfl, rfl, rfl⟩ rfl ⟨rfl, rfl, trivial⟩ cal48 rfl rfl (c_Repeat0 (padZ n) (by unfold padZ; omega)) ?_
    rintro _ _ ⟨rfl, rfl⟩
    refine ⟨⟨⟨0, rfl⟩, trivial⟩, ?_⟩
    refine SL.bin ⟨rfl, rfl, rfl, rfl⟩ rfl rfl (Bin.cat (by simp [padZ]; omega)) ?_
    refine SL.bin ⟨rfl, rfl, rfl, rfl⟩ rfl rfl (Bin.cat (by simp [padZ, be64]; omega)) ?_
    refine SL.last ?_
    refine SL.pick [1] 2 ?_
    refine SL.call (vs := [_, _]) (Hin := [_]) ⟨rfl, rfl, rfl, rfl⟩ rfl ⟨rfl, rfl, trivial⟩ cal70 rfl rfl (c_sha_takes T h rest (tailA n) n b0 111 hT hTl (by omega) (by simp [tailA, padZ, be64]; omega)) ?_
    rintro _ _ ⟨rfl, rfl⟩
    refine ⟨trivial, ?_⟩
    refine SL.nx ?_
    refine SX.sr ?_
    refine SL.fa ⟨rfl, rfl, rfl, rfl⟩ rfl fo111_0 ?_
    refine SL.call (vs := [_]) (Hin := [_]) ⟨rfl, rfl, rfl, rfl⟩ rfl ⟨rfl, trivial⟩ cal90 rfl rfl (c_sha_bytes (absorb T h (rest ++ tailA n)).1 [vS (absorb T h (rest ++ tailA n)).2, vI n] b0 111) ?_
    rintro _ _ ⟨rfl, rfl⟩
    refine ⟨trivial, ?_⟩
    refine SL.asg ⟨rfl, rfl, rfl, rfl⟩ rfl ?_
    refine SL.nx ?_
    refine SX.ret ?_
    exact SQ.fret (res1 rfl rfl) (ret_of (M := [_]) ⟨rfl, rfl⟩ fun _ h => h.skip [_])

theorem c_sha_New (hF : Tab K w0 0 firstA.list) : Con Tryd.prog K w0 69 [] [] H (fun r M => ∃ b, r = vP b 0 ∧ M = [own b (.cells (sumC firstA [] 0) 111)]) := by
  refine Con.enter Tryd.func69 rfl rfl ?_
  refine SX.sr ?_
  refine SL.asg ⟨rfl, rfl, rfl, rfl⟩ rfl ?_
  refine SL.nx ?_
  refine SX.sr ?_
  refine SL.ldA (ad := ⟨0, 0, none⟩) (firstA.list.map vU32) ⟨rfl, rfl, rfl, rfl⟩ ag109 rfl rfl (fun w hw j u hu => by
    rw [Addr.add_mk, Nat.zero_add]
    rw [List.getElem?_map] at hu
    cases hx : firstA.list[j]? with
    | none => rw [hx] at hu; cases hu
    | some x =>
      rw [hx] at hu
      obtain rfl := Option.some.inj hu
      exact cell_base (ad := ⟨0, j, none⟩) hF.keep (hF.cell j x hx) w hw) ?_
  refine SL.bld [_] ⟨rfl, rfl, rfl, rfl⟩ pl111 pk111 ze111 ⟨rfl, trivial⟩ rfl ?_
  refine SL.box ⟨rfl, rfl, rfl, rfl⟩ rfl (fun _ => trivial) fun b0 => ?_
  refine SL.asg ⟨rfl, rfl, rfl, rfl⟩ rfl ?_
  refine SL.nx ?_
  refine SX.ret ?_
  exact SQ.fret (res1 rfl rfl) (ret_of (M := [_]) ⟨b0, rfl, rfl⟩ fun _ h => h)

theorem c_sha_Add (T : List UInt32) (v : Value) (ls : List (List UInt8)) (hT : Tab K w0 2 T) (hTl : T.length = 64) (hF : Tab K w0 0 firstA.list) (hk : SlOf K w0 encS 1 v ls) (hn : ls.flatten.length ≤ 1099511627776) (hl : ls.length ≤ 1099511627776) : Con Tryd.prog K w0 51 [v] [] H (fun r M => r = vS (sumA T ls.flatten) ∧ M = []) := by
  refine Con.enter Tryd.func51 rfl rfl ?_
  refine SX.sr ?_
  refine SL.asg ⟨rfl, rfl, rfl, rfl⟩ rfl ?_
  refine SL.nx ?_
  refine SX.sr ?_
  refine SL.call (vs := []) (Hin := []) ⟨rfl, rfl, rfl, rfl⟩ rfl trivial cal69 rfl rfl (c_sha_New hF) ?_
  rintro _ _ ⟨b0, rfl, rfl⟩
  refine ⟨trivial, ?_⟩
  refine SL.asg ⟨rfl, rfl, rfl, rfl⟩ rfl ?_
  refine SL.nx ?_
  refine SX.seq ?_
  refine SX.sr ?_
  refine SL.mv ⟨rfl, rfl, rfl, rfl⟩ rfl ?_
  refine SL.lenV hk ⟨rfl, rfl, rfl, rfl⟩ ty83 rfl ?_
  refine SL.mv ⟨rfl, rfl, rfl, rfl⟩ rfl ?_
  refine SL.nx ?_
  refine SX.block ?_
  have h0 : absorb T firstA (ls.take 0).flatten = (firstA, []) := absorb_short (by simp)
  refine SX.heap (H' := own b0 (.cells (sumC (absorb T firstA (ls.take 0).flatten).1 (absorb T firstA (ls.take 0).flatten).2 ((ls.take 0).flatten.length : Nat)) 111) :: H) ?_ (fun w hw => by rw [h0]; exact hw)
  refine SX.mono (SX.loop (α := Nat) (fun i => i ≤ ls.length) (fun i => [(3, vP b0 0), (7, v), (8, vI ls.length), (9, vI i)]) (fun i => own b0 (.cells (sumC (absorb T firstA (ls.take i).flatten).1 (absorb T firstA (ls.take i).flatten).2 ((ls.take i).flatten.length : Nat)) 111) :: H) (fun i => ls.length - i) (fun i D hp => ?_) 0 (Nat.zero_le _)) (by repeat' (first | exact trivial | refine And.intro rfl ?_))
  refine SX.sr ?_
  refine SL.bin ⟨rfl, rfl, rfl, rfl⟩ rfl rfl Bin.ltI ?_
  refine SL.nx ?_
  refine SX.seq ?_
  refine SX.cond rfl (fun hc1 => ?_) (fun hc1 => ?_)
  · skip
    have hlt : i < ls.length := by simpa using hc1
    obtain ⟨s, hs⟩ := get_of_lt hlt
    have hts := (take_split hs).2
    have hfl : (ls.take (i + 1)).flatten = (ls.take i).flatten ++ s := by rw [hts]; simp
    have hle : (ls.take (i + 1)).flatten.length ≤ 1099511627776 := by
      have : ls.flatten = (ls.take (i + 1)).flatten ++ (ls.drop (i + 1)).flatten := by rw [← List.flatten_append, List.take_append_drop]
      rw [this] at hn
      simp only [List.length_append] at hn
      omega
    rw [hfl, List.length_append] at hle
    refine SX.skip ?_
    refine SQ.thn ?_
    refine SX.seq ?_
    refine SX.block ?_
    refine SX.sr ?_
    refine SL.iaV i s hk ⟨rfl, rfl, rfl, rfl⟩ ty83 sz9 rfl rfl rfl hs fun be off hcell => ?_
    refine SL.ld ⟨rfl, rfl, rfl, rfl⟩ sc9 rfl (fun w hw => hcell _ w hw 0 _ rfl) ?_
    refine SL.asg ⟨rfl, rfl, rfl, rfl⟩ rfl ?_
    refine SL.nx ?_
    refine SX.sr ?_
    refine SL.mv ⟨rfl, rfl, rfl, rfl⟩ rfl ?_
    refine SL.mv ⟨rfl, rfl, rfl, rfl⟩ rfl ?_
    refine SL.call (vs := [_, _]) (Hin := [_]) ⟨rfl, rfl, rfl, rfl⟩ rfl ⟨rfl, rfl, trivial⟩ cal70 rfl rfl (c_sha_takes T _ _ s _ b0 111 hT hTl (absorb_rest T firstA _) (by omega)) ?_
    rintro _ _ ⟨rfl, rfl⟩
    refine ⟨trivial, ?_⟩
    refine SL.nx ?_
    refine SX.region ?_
    refine SL.mv ⟨rfl, rfl, rfl, rfl⟩ rfl ?_
    refine SL.nchk ⟨rfl, rfl, rfl, rfl⟩ rfl ?_
    refine SL.fa ⟨rfl, rfl, rfl, rfl⟩ rfl fo111_2 ?_
    refine SL.ld ⟨rfl, rfl, rfl, rfl⟩ sc3 rfl (cell_own 0 rfl rfl) ?_
    refine SL.mv ⟨rfl, rfl, rfl, rfl⟩ rfl ?_
    refine SL.lenS ⟨rfl, rfl, rfl, rfl⟩ ty9 rfl ?_
    refine SL.bin ⟨rfl, rfl, rfl, rfl⟩ rfl rfl (Bin.addI (by omega) (by omega)) ?_
    refine SL.nchk ⟨rfl, rfl, rfl, rfl⟩ rfl ?_
    refine SL.fa ⟨rfl, rfl, rfl, rfl⟩ rfl fo111_2 ?_
    refine SL.st 0 ⟨rfl, rfl, rfl⟩ rfl rfl rfl sz3 rfl rfl rfl trivial ?_
    refine SL.nil ?_
    refine SQ.blk ?_
    refine SQ.thn ?_
    refine SX.region ?_
    refine SL.bin ⟨rfl, rfl, rfl, rfl⟩ rfl rfl (Bin.addI (by omega) (by omega)) ?_
    refine SL.mv ⟨rfl, rfl, rfl, rfl⟩ rfl ?_
    refine SL.nil ?_
    refine SQ.again (i + 1) hlt (by omega) (by repeat' (first | exact trivial | refine And.intro rfl ?_)) (fun w hw => by
      rw [hfl, absorb_append T firstA (ls.take i).flatten s, List.length_append]
      exact hw)
  · skip
    have hi : i = ls.length := by simp at hc1; omega
    have ht : ls.take i = ls := by rw [hi]; exact List.take_length
    rw [ht]
    refine SX.exit ?_
    refine SQ.thnE ?_
    refine SQ.lpE ?_
    refine SQ.blkE ?_
    refine SQ.thn ?_
    refine SX.sr ?_
    refine SL.mv ⟨rfl, rfl, rfl, rfl⟩ rfl ?_
    refine SL.call (vs := [_]) (Hin := [_]) ⟨rfl, rfl, rfl, rfl⟩ rfl ⟨rfl, trivial⟩ cal71 rfl rfl (c_sha_SumOf T _ _ ls.flatten.length b0 111 hT hTl (absorb_rest_len T firstA ls.flatten) hn) ?_
    rintro _ _ ⟨rfl, rfl⟩
    refine ⟨trivial, ?_⟩
    refine SL.asg ⟨rfl, rfl, rfl, rfl⟩ rfl ?_
    refine SL.nx ?_
    refine SX.ret ?_
    exact SQ.fret (res1 rfl rfl) (ret_of (M := []) ⟨by unfold sumA; rw [absorb_append T firstA ls.flatten], rfl⟩ fun _ h => h.skip [_])

theorem c_sha_Sum (T : List UInt32) (s : List UInt8) (hT : Tab K w0 2 T) (hTl : T.length = 64) (hF : Tab K w0 0 firstA.list) (hn : s.length ≤ 1099511627776) : Con Tryd.prog K w0 72 [vS s] [] H (fun r M => r = vS (sumA T s) ∧ M = []) := by
  refine Con.enter Tryd.func72 rfl rfl ?_
  refine SX.sr ?_
  refine SL.asg ⟨rfl, rfl, rfl, rfl⟩ rfl ?_
  refine SL.nx ?_
  refine SX.sr ?_
  refine SL.mv ⟨rfl, rfl, rfl, rfl⟩ rfl ?_
  refine SL.bsl [_] ⟨rfl, rfl, rfl, rfl⟩ ty83 sz9 ze9 ⟨rfl, trivial⟩ rfl rfl rfl (by simp [Value.cells]) rfl rfl (fun _ => trivial) fun b0 => ?_
  refine SL.call (vs := [_]) (Hin := [_]) ⟨rfl, rfl, rfl, rfl⟩ rfl ⟨rfl, trivial⟩ cal51 rfl rfl (Con.lend (B := [own b0 (.cells #[vS s] 9)]) (Hin := []) fun K' w1 hk hB => (c_sha_Add T _ [s] (hT.keeps hk) hTl (hF.keeps hk) (SlOf.lent (enc := encS) (sz := 1) (xs := [s]) (fun _ => rfl) (Nat.le_refl 1) rfl (hB _ (List.mem_cons_self ..))) (by simpa using hn) (by simp))) ?_
  rintro _ _ ⟨M', rfl, rfl, rfl⟩
  refine ⟨trivial, ?_⟩
  refine SL.asg ⟨rfl, rfl, rfl, rfl⟩ rfl ?_
  refine SL.nx ?_
  refine SX.ret ?_
  exact SQ.fret (res1 rfl rfl) (ret_of (M := []) ⟨by simp, rfl⟩ fun _ h => h.skip [_])

end Go.Proofs.YtnpnmdbleopikaaDoor

