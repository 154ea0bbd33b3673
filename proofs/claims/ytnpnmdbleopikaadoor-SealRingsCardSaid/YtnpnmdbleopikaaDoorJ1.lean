/- Walk of the seal law's beginning: what was sealed with a literal's key is opened. Condition: the tables of the sum stand. -/
import Derived.Test.YtnpnmdbleopikaaDoorJ0
import Derived.Test.YtnpnmdbleopikaaDoorP7
namespace Go.Proofs.YtnpnmdbleopikaaDoor
open Go
variable {K : Nat → Prop} {w0 : World} {H : List Chunk}

theorem Bin.eqT {k : IntKind} {a b : Int} (h : a = b) : Bin .eql (.int k a) (.int k b) (.bool true) := fun P w ty x y => by
  subst h
  have := Bin.eqI (k := k) (a := a) (b := a) P w ty x y
  simpa using this
theorem SlOf.cells1 {α : Type} {enc : α → List Value} {sz : Nat} {xs : List α} {v : Value} (h : SlOf K w0 enc sz v xs) : v.cells = #[v] := by
  rcases h.at_ with ⟨rfl, _⟩ | ⟨b, off, cap, rfl, _⟩ <;> rfl
theorem slNil {α : Type} {enc : α → List Value} {sz : Nat} (h : ∀ x, (enc x).length = sz) : SlOf K w0 enc sz (.slice none 0 0) [] := ⟨h, .inl ⟨rfl, rfl⟩⟩
theorem slKey {b : Nat} {k : KeyA} {e : TypeId} {K' : Nat → Prop} {w1 : World} (h : (own b (.cells (encKey k).toArray e)).holds w1 ∧ ∀ j, (own b (.cells (encKey k).toArray e)).foot j → K' j) : SlOf K' w1 encKey 2 (.slice (some ⟨b, 0, none⟩) 1 1) [k] :=
  SlOf.lent (xs := [k]) (fun _ => rfl) (Nat.le_refl _) rfl h
/-- sealed, opened with a literal's one key -/
theorem c_seal_SealL (T : List UInt32) (b : Nat) (k : KeyA) (h : HeadA) (s : List UInt8) (hT : ShaT K w0 T) (hn : s.length ≤ 9223372036854775807) : Con Tryd.prog K w0 16 [.slice (some ⟨b, 0, none⟩) 1 1, .agg (encHead h).toArray, vS s] [own b (.cells (encKey k).toArray 44)] H (fun r M => r = .tuple #[vS (sealA T [k] h s).1, vI (sealA T [k] h s).2] ∧ M = [own b (.cells (encKey k).toArray 44)]) := by
  have h1 := Con.lend (P := Tryd.prog) (K := K) (w0 := w0) (f := 16) (args := [.slice (some ⟨b, 0, none⟩) 1 1, .agg (encHead h).toArray, vS s]) (H := H) (B := [own b (.cells (encKey k).toArray 44)]) (Hin := []) (post := fun r M => r = .tuple #[vS (sealA T [k] h s).1, vI (sealA T [k] h s).2] ∧ M = []) (fun K' w1 hk hB => c_seal_Seal T _ [k] h s (hT.keeps hk) (slKey (hB _ (List.mem_cons_self ..))) rfl (by simp) hn)
  refine Con.mono h1 ?_
  rintro r M ⟨M', rfl, rfl, rfl⟩
  exact ⟨rfl, rfl⟩
theorem c_seal_OpenL (T : List UInt32) (b : Nat) (k : KeyA) (s : List UInt8) (hT : ShaT K w0 T) (hn : s.length ≤ 9223372036854775807) : Con Tryd.prog K w0 19 [.slice (some ⟨b, 0, none⟩) 1 1, vS s] [own b (.cells (encKey k).toArray 44)] H (fun r M => r = .tuple #[.agg (encHead (openA T [k] s).1).toArray, vS (openA T [k] s).2.1, vI (openA T [k] s).2.2] ∧ M = [own b (.cells (encKey k).toArray 44)]) := by
  have h1 := Con.lend (P := Tryd.prog) (K := K) (w0 := w0) (f := 19) (args := [.slice (some ⟨b, 0, none⟩) 1 1, vS s]) (H := H) (B := [own b (.cells (encKey k).toArray 44)]) (Hin := []) (post := fun r M => r = .tuple #[.agg (encHead (openA T [k] s).1).toArray, vS (openA T [k] s).2.1, vI (openA T [k] s).2.2] ∧ M = []) (fun K' w1 hk hB => c_seal_Open T _ [k] s (hT.keeps hk) (slKey (hB _ (List.mem_cons_self ..))) rfl (by simp) hn)
  refine Con.mono h1 ?_
  rintro r M ⟨M', rfl, rfl, rfl⟩
  exact ⟨rfl, rfl⟩
def shownH : HeadA := ⟨3, 1, 2, 5⟩
def shownS : List UInt8 := [97, 98]
theorem open_none (T : List UInt32) (k : KeyA) (h : HeadA) (s : List UInt8) (hs : s.length ≤ 198) : openA T [] (blkA T k h s) = (head0, [], 41) := by
  have h1 : rightA [] = true := rfl
  have h2 : ∀ g, findA [] g = (key0, 41) := fun _ => rfl
  unfold openA
  rw [if_neg (by simp [h1]), if_neg (by simp [blkA_length _ _ _ hs]), blk_take24, getA_putA, if_neg (by simp), h2, if_pos (by decide)]
theorem c_law06_shown (T : List UInt32) (hT : ShaT K w0 T) : Con Tryd.prog K w0 10 [] [] H (fun v M => v = vB true ∧ M = []) := by
  have hsl : sealA T [keyB 1 9] shownH shownS = (blkA T (keyB 1 9) shownH shownS, 0) := seal_key T 1 _ _ _ (by decide) (by simp) rfl (by decide)
  have hop : openA T [keyB 1 9] (blkA T (keyB 1 9) shownH shownS) = (shownH, shownS, 0) := by
    have := open_seal (T := T) (l := [keyB 1 9]) (h := shownH) (s := shownS) (by rw [hsl])
    rwa [hsl] at this
  have hno := open_none T (keyB 1 9) shownH shownS (by decide)
  have hbl : (blkA T (keyB 1 9) shownH shownS).length = 256 := blkA_length _ _ _ (by decide)
  generalize blkA T (keyB 1 9) shownH shownS = bl at hsl hop hno hbl
  refine Con.enter Tryd.func10 rfl rfl ?_
  refine SX.sr ?_
  refine SL.asg ⟨rfl, rfl, rfl, rfl⟩ rfl ?_
  refine SL.nx ?_
  refine SX.sr ?_
  refine SL.bld [_, _, _, _] ⟨rfl, rfl, rfl, rfl⟩ pl25 pk25 ze25 ⟨rfl, rfl, rfl, rfl, trivial⟩ rfl ?_
  refine SL.alloc ⟨rfl, rfl, rfl, rfl⟩ ze25 (fun _ => trivial) fun b0 => ?_
  refine SL.st 0 ⟨rfl, rfl, rfl⟩ rfl rfl rfl sz25 rfl rfl rfl trivial ?_
  refine SL.nx ?_
  refine SX.seq ?_
  refine SX.drawI mix [0] (Pl.of [(true, 2), (false, 0), (false, 1), (false, 3), (true, 4), (true, 5), (true, 6), (true, 7), (true, 8)]) (by kernel_rfl) ?_
  refine SL.ldA (encHead shownH) ⟨rfl, rfl, rfl, rfl⟩ ag25 rfl rfl (cells_all 0 rfl) ?_
  refine SL.call (vs := [_, _]) (Hin := []) ⟨rfl, rfl, rfl, rfl⟩ rfl ⟨rfl, rfl, trivial⟩ cal21 rfl rfl (c_law06_key 1 9) ?_
  rintro _ _ ⟨rfl, rfl⟩
  refine ⟨⟨⟨0, rfl⟩, trivial⟩, ?_⟩
  refine SL.bsl [_] ⟨rfl, rfl, rfl, rfl⟩ ty32 sz44 ze44 ⟨rfl, trivial⟩ rfl rfl rfl (by simp [Value.cells, encKey]) rfl rfl (fun _ => ⟨⟨1, rfl⟩, trivial⟩) fun b1 => ?_
  refine SL.call (vs := [_, _, _]) (Hin := [_]) ⟨rfl, rfl, rfl, rfl⟩ rfl ⟨rfl, rfl, rfl, trivial⟩ cal16 rfl rfl (c_seal_SealL T b1 (keyB 1 9) shownH shownS hT (by decide)) ?_
  rintro _ _ ⟨rfl, rfl⟩
  rw [hsl]
  refine ⟨⟨⟨1, rfl⟩, trivial⟩, ?_⟩
  refine SL.mv ⟨rfl, rfl, rfl, rfl⟩ rfl ?_
  refine SL.ext ⟨rfl, rfl, rfl, rfl⟩ rfl rfl ?_
  refine SL.ext ⟨rfl, rfl, rfl, rfl⟩ rfl rfl ?_
  refine SL.asg ⟨rfl, rfl, rfl, rfl⟩ rfl ?_
  refine SL.asg ⟨rfl, rfl, rfl, rfl⟩ rfl ?_
  refine SL.nx ?_
  refine SX.sr ?_
  refine SL.call (vs := [_, _]) (Hin := []) ⟨rfl, rfl, rfl, rfl⟩ rfl ⟨rfl, rfl, trivial⟩ cal21 rfl rfl (c_law06_key 1 9) ?_
  rintro _ _ ⟨rfl, rfl⟩
  refine ⟨trivial, ?_⟩
  refine SL.bsl [_] ⟨rfl, rfl, rfl, rfl⟩ ty32 sz44 ze44 ⟨rfl, trivial⟩ rfl rfl rfl (by simp [Value.cells, encKey]) rfl rfl (fun _ => trivial) fun b2 => ?_
  refine SL.mv ⟨rfl, rfl, rfl, rfl⟩ rfl ?_
  refine SL.call (vs := [_, _]) (Hin := [_]) ⟨rfl, rfl, rfl, rfl⟩ rfl ⟨rfl, rfl, trivial⟩ cal19 rfl rfl (c_seal_OpenL T b2 (keyB 1 9) bl hT (by omega)) ?_
  rintro _ _ ⟨rfl, rfl⟩
  rw [hop]
  refine ⟨trivial, ?_⟩
  refine SL.mv ⟨rfl, rfl, rfl, rfl⟩ rfl ?_
  refine SL.ext ⟨rfl, rfl, rfl, rfl⟩ rfl rfl ?_
  refine SL.ext ⟨rfl, rfl, rfl, rfl⟩ rfl rfl ?_
  refine SL.ext ⟨rfl, rfl, rfl, rfl⟩ rfl rfl ?_
  refine SL.alloc ⟨rfl, rfl, rfl, rfl⟩ ze25 (fun _ => trivial) fun b3 => ?_
  refine SL.st 0 ⟨rfl, rfl, rfl⟩ rfl rfl rfl sz25 rfl rfl rfl trivial ?_
  refine SL.asg ⟨rfl, rfl, rfl, rfl⟩ rfl ?_
  refine SL.asg ⟨rfl, rfl, rfl, rfl⟩ rfl ?_
  refine SL.nx ?_
  refine SX.sr ?_
  refine SL.mv ⟨rfl, rfl, rfl, rfl⟩ rfl ?_
  refine SL.call (vs := [_, _]) (Hin := []) ⟨rfl, rfl, rfl, rfl⟩ rfl ⟨rfl, rfl, trivial⟩ cal19 rfl rfl (c_seal_Open T _ [] bl hT (slNil fun _ => rfl) rfl (by simp) (by omega)) ?_
  rintro _ _ ⟨rfl, rfl⟩
  rw [hno]
  refine ⟨trivial, ?_⟩
  refine SL.mv ⟨rfl, rfl, rfl, rfl⟩ rfl ?_
  refine SL.ext ⟨rfl, rfl, rfl, rfl⟩ rfl rfl ?_
  refine SL.ext ⟨rfl, rfl, rfl, rfl⟩ rfl rfl ?_
  refine SL.ext ⟨rfl, rfl, rfl, rfl⟩ rfl rfl ?_
  refine SL.alloc ⟨rfl, rfl, rfl, rfl⟩ ze25 (fun _ => trivial) fun b4 => ?_
  refine SL.st 0 ⟨rfl, rfl, rfl⟩ rfl rfl rfl sz25 rfl rfl rfl trivial ?_
  refine SL.asg ⟨rfl, rfl, rfl, rfl⟩ rfl ?_
  refine SL.asg ⟨rfl, rfl, rfl, rfl⟩ rfl ?_
  refine SL.nx ?_
  refine SX.sr ?_
  refine SL.mv ⟨rfl, rfl, rfl, rfl⟩ rfl ?_
  refine SL.bin ⟨rfl, rfl, rfl, rfl⟩ rfl rfl Bin.eqI ?_
  refine SL.mv ⟨rfl, rfl, rfl, rfl⟩ rfl ?_
  refine SL.mv ⟨rfl, rfl, rfl, rfl⟩ rfl ?_
  refine SL.bin ⟨rfl, rfl, rfl, rfl⟩ rfl rfl Bin.eqI ?_
  refine SL.pk ⟨rfl, rfl, rfl, rfl⟩ rfl rfl ?_
  refine SL.mv ⟨rfl, rfl, rfl, rfl⟩ rfl ?_
  refine SL.mv ⟨rfl, rfl, rfl, rfl⟩ rfl ?_
  refine SL.lenS ⟨rfl, rfl, rfl, rfl⟩ ty9 rfl ?_
  refine SL.bin ⟨rfl, rfl, rfl, rfl⟩ rfl rfl (Bin.eqT (by simp [hbl])) ?_
  refine SL.pk ⟨rfl, rfl, rfl, rfl⟩ rfl rfl ?_
  refine SL.mv ⟨rfl, rfl, rfl, rfl⟩ rfl ?_
  refine SL.ldA (encHead shownH) ⟨rfl, rfl, rfl, rfl⟩ ag25 rfl rfl (cells_all 1 rfl) ?_
  refine SL.ldA (encHead shownH) ⟨rfl, rfl, rfl, rfl⟩ ag25 rfl rfl (cells_all 4 rfl) ?_
  refine SL.eqAgg (b := true) ⟨rfl, rfl, rfl, rfl⟩ fl25 rfl rfl rfl ?_
  refine SL.pk ⟨rfl, rfl, rfl, rfl⟩ rfl rfl ?_
  refine SL.mv ⟨rfl, rfl, rfl, rfl⟩ rfl ?_
  refine SL.mv ⟨rfl, rfl, rfl, rfl⟩ rfl ?_
  refine SL.bin ⟨rfl, rfl, rfl, rfl⟩ rfl rfl Bin.eqS ?_
  refine SL.pk ⟨rfl, rfl, rfl, rfl⟩ rfl rfl ?_
  refine SL.mv ⟨rfl, rfl, rfl, rfl⟩ rfl ?_
  refine SL.mv ⟨rfl, rfl, rfl, rfl⟩ rfl ?_
  refine SL.bin ⟨rfl, rfl, rfl, rfl⟩ rfl rfl Bin.eqI ?_
  refine SL.pk ⟨rfl, rfl, rfl, rfl⟩ rfl rfl ?_
  refine SL.mv ⟨rfl, rfl, rfl, rfl⟩ rfl ?_
  refine SL.mv ⟨rfl, rfl, rfl, rfl⟩ rfl ?_
  refine SL.call (vs := [_]) (Hin := []) ⟨rfl, rfl, rfl, rfl⟩ rfl ⟨rfl, trivial⟩ cal15 rfl rfl (c_seal_Tag bl (by omega)) ?_
  rintro _ _ ⟨rfl, rfl⟩
  refine ⟨trivial, ?_⟩
  refine SL.lenS ⟨rfl, rfl, rfl, rfl⟩ ty9 rfl ?_
  refine SL.bin ⟨rfl, rfl, rfl, rfl⟩ rfl rfl (Bin.eqT (by simp [hbl])) ?_
  refine SL.pk ⟨rfl, rfl, rfl, rfl⟩ rfl rfl ?_
  refine SL.asg ⟨rfl, rfl, rfl, rfl⟩ rfl ?_
  refine SL.nx ?_
  refine SX.ret ?_
  exact SQ.fret (res1 rfl rfl) (ret_of (M := []) ⟨rfl, rfl⟩ fun _ h => h.skip [_, _, _, _, _])



end Go.Proofs.YtnpnmdbleopikaaDoor
