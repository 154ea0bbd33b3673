/- Walks of strings.Builder's methods: what is written is held, String hands it back. Condition: the bytes number at most 2^47. -/
import Derived.Test.YtnpnmdbleopikaaDoorT0
namespace Go.Proofs.YtnpnmdbleopikaaDoor
open Go
variable {K : Nat → Prop} {w0 : World} {H : List Chunk}

def lies (e : TypeId) : Prop := liesAt Tryd.prog Tryd.prog.depth e (2 / Tryd.prog.cellsOf e) 0 53 1 = true
theorem nesc (v : Value) (w : World) : (callFunc 80 [v].toArray).run Tryd.prog w = .ok (.value v) w := by
  rw [run_callFunc_extern (e := Extern.AbiNoEscape.same) Tryd.func80 (by kernel_rfl) (by kernel_rfl) (by kernel_rfl) (by kernel_rfl)]
  rfl

theorem c_copyCheck0 (e : TypeId) (b : Nat) (v : Value) (hl : lies e) : Con Tryd.prog K w0 58 [vP b 0] [own b (.cells #[.pointer none, v] e)] H (fun r M => r = .tuple #[] ∧ M = [own b (.cells #[vP b 0, v] e)]) := by
  refine Con.enter Tryd.func58 rfl rfl ?_
  refine SX.sr ?_
  refine SL.mv ⟨rfl, rfl, rfl, rfl⟩ rfl ?_
  refine SL.nchk ⟨rfl, rfl, rfl, rfl⟩ rfl ?_
  refine SL.fa ⟨rfl, rfl, rfl, rfl⟩ rfl fo53_0 ?_
  refine SL.ld ⟨rfl, rfl, rfl, rfl⟩ sc51 rfl (cell_own 0 rfl rfl) ?_
  refine SL.eqPN ⟨rfl, rfl, rfl, rfl⟩ ty51 rfl rfl ?_
  refine SL.nx ?_
  refine SX.condT rfl ?_
  refine SX.region ?_
  refine SL.mv ⟨rfl, rfl, rfl, rfl⟩ rfl ?_
  refine SL.mv ⟨rfl, rfl, rfl, rfl⟩ rfl ?_
  refine SL.toU 0 ⟨rfl, rfl, rfl, rfl⟩ ty51 ty117 sz53 rfl rfl rfl rfl ?_
  refine SL.extv ⟨rfl, rfl, rfl, rfl⟩ (vs := [_]) ⟨rfl, trivial⟩ (nesc _) ?_
  refine SL.frU 0 ⟨rfl, rfl, rfl, rfl⟩ ty117 ty51 sz53 rfl rfl hl ?_
  refine SL.nchk ⟨rfl, rfl, rfl, rfl⟩ rfl ?_
  refine SL.fa ⟨rfl, rfl, rfl, rfl⟩ rfl fo53_0 ?_
  refine SL.st 0 ⟨rfl, rfl, rfl⟩ rfl rfl rfl sz51 rfl rfl rfl trivial ?_
  refine SL.nil ?_
  exact SQ.fend (res0 rfl) (ret_of (M := [_]) ⟨rfl, rfl⟩ fun _ h => h)

theorem c_copyCheck1 (e : TypeId) (b : Nat) (v : Value) : Con Tryd.prog K w0 58 [vP b 0] [own b (.cells #[vP b 0, v] e)] H (fun r M => r = .tuple #[] ∧ M = [own b (.cells #[vP b 0, v] e)]) := by
  refine Con.enter Tryd.func58 rfl rfl ?_
  refine SX.sr ?_
  refine SL.mv ⟨rfl, rfl, rfl, rfl⟩ rfl ?_
  refine SL.nchk ⟨rfl, rfl, rfl, rfl⟩ rfl ?_
  refine SL.fa ⟨rfl, rfl, rfl, rfl⟩ rfl fo53_0 ?_
  refine SL.ld ⟨rfl, rfl, rfl, rfl⟩ sc51 rfl (cell_own 0 rfl rfl) ?_
  refine SL.eqPN ⟨rfl, rfl, rfl, rfl⟩ ty51 rfl rfl ?_
  refine SL.nx ?_
  refine SX.condF rfl ?_
  refine SX.sr ?_
  refine SL.mv ⟨rfl, rfl, rfl, rfl⟩ rfl ?_
  refine SL.nchk ⟨rfl, rfl, rfl, rfl⟩ rfl ?_
  refine SL.fa ⟨rfl, rfl, rfl, rfl⟩ rfl fo53_0 ?_
  refine SL.ld ⟨rfl, rfl, rfl, rfl⟩ sc51 rfl (cell_own 0 rfl rfl) ?_
  refine SL.mv ⟨rfl, rfl, rfl, rfl⟩ rfl ?_
  refine SL.nePP ⟨rfl, rfl, rfl, rfl⟩ ty51 sz53 rfl rfl ?_
  refine SL.nx ?_
  refine SX.condF rfl ?_
  refine SX.skip ?_
  exact SQ.fend (res0 rfl) (ret_of (M := [_]) ⟨rfl, rfl⟩ fun _ h => h)

/-- the builder's first field: nil, or its own address -/
def adr (b : Nat) (p : Value) : Prop := p = .pointer none ∨ p = vP b 0
theorem c_copyCheck (e : TypeId) (b : Nat) (p v : Value) (hp : adr b p) (hl : lies e) : Con Tryd.prog K w0 58 [vP b 0] [own b (.cells #[p, v] e)] H (fun r M => r = .tuple #[] ∧ M = [own b (.cells #[vP b 0, v] e)]) := by
  rcases hp with rfl | rfl
  · exact c_copyCheck0 e b v hl
  · exact c_copyCheck1 e b v

theorem c_WriteByte (e : TypeId) (b : Nat) (p v : Value) (n : Nat) (xs : List Value) (c : UInt8) (hp : adr b p) (hl : lies e) (hn : n + 1 ≤ 140737488355328) :
    Con Tryd.prog K w0 46 [vP b 0, vU8 c] [own b (.cells #[p, v] e), rowC 5 1 v n xs] H
      (fun r M => r = .nilIface ∧ ∃ v', M = [own b (.cells #[vP b 0, v'] e), rowC 5 1 v' (n + 1) (xs ++ [vU8 c])]) := by
  refine Con.enter Tryd.func46 rfl rfl ?_
  refine SX.sr ?_
  refine SL.asg ⟨rfl, rfl, rfl, rfl⟩ rfl ?_
  refine SL.nx ?_
  refine SX.sr ?_
  refine SL.mv ⟨rfl, rfl, rfl, rfl⟩ rfl ?_
  refine SL.call (vs := [_]) (Hin := [_]) ⟨rfl, rfl, rfl, rfl⟩ rfl ⟨rfl, trivial⟩ cal58 rfl rfl (c_copyCheck e b p v hp hl) ?_
  rintro _ _ ⟨rfl, rfl⟩
  refine ⟨trivial, ?_⟩
  refine SL.nx ?_
  refine SX.sr ?_
  refine SL.mv ⟨rfl, rfl, rfl, rfl⟩ rfl ?_
  refine SL.mv ⟨rfl, rfl, rfl, rfl⟩ rfl ?_
  refine SL.nchk ⟨rfl, rfl, rfl, rfl⟩ rfl ?_
  refine SL.fa ⟨rfl, rfl, rfl, rfl⟩ rfl fo53_1 ?_
  refine SL.ld ⟨rfl, rfl, rfl, rfl⟩ sc41 rfl (cell_own 0 rfl rfl) ?_
  refine SL.mv ⟨rfl, rfl, rfl, rfl⟩ rfl ?_
  refine SL.bsl [vU8 c] ⟨rfl, rfl, rfl, rfl⟩ ty41 sz5 ze5 ⟨rfl, trivial⟩ rfl rfl rfl (by simp [Value.cells]) rfl rfl (fun _ => trivial) fun b1 => ?_
  refine SL.app 2 ⟨rfl, rfl, rfl, rfl⟩ (news := [vU8 c]) ty41 sz5 by5 ze5 rfl (by decide) rfl rfl rfl rfl (cells_all 0 rfl) (by simp [Value.oneCell']) (by omega) (by omega) (fun _ => trivial) fun v' => ?_
  refine SL.nchk ⟨rfl, rfl, rfl, rfl⟩ rfl ?_
  refine SL.fa ⟨rfl, rfl, rfl, rfl⟩ rfl fo53_1 ?_
  refine SL.fact (fun w hw => row_shape (hw.holds _ (List.mem_append_left _ (List.mem_of_getElem? (i := 2) rfl)))) fun hsh => ?_
  have hc1 : v'.cells = #[v'] := by rcases hsh with ⟨rfl, _⟩ | ⟨g, cap, rfl, _⟩ <;> rfl
  have ho1 : v'.oneCell' = true := by rcases hsh with ⟨rfl, _⟩ | ⟨g, cap, rfl, _⟩ <;> rfl
  refine SL.st 1 ⟨rfl, rfl, rfl⟩ rfl rfl rfl sz41 (by rw [hc1]; rfl) (by rw [hc1]; simp [ho1]) rfl trivial ?_
  rw [hc1]
  refine SL.nx ?_
  refine SX.sr ?_
  refine SL.asg ⟨rfl, rfl, rfl, rfl⟩ rfl ?_
  refine SL.nx ?_
  refine SX.ret ?_
  exact SQ.fret (res1 rfl rfl) (ret_of (M := [_, _]) ⟨rfl, v', rfl⟩ fun _ h => h.skip [_])

theorem c_WriteString (e : TypeId) (b : Nat) (p v : Value) (n : Nat) (xs : List Value) (s : List UInt8) (hp : adr b p) (hl : lies e) (hn : n + s.length ≤ 140737488355328) :
    Con Tryd.prog K w0 64 [vP b 0, vS s] [own b (.cells #[p, v] e), rowC 5 1 v n xs] H
      (fun r M => r = .tuple #[vI s.length, .nilIface] ∧ ∃ v', M = [own b (.cells #[vP b 0, v'] e), rowC 5 1 v' (n + s.length) (xs ++ s.map fun b => vU8 b)]) := by
  refine Con.enter Tryd.func64 rfl rfl ?_
  refine SX.sr ?_
  refine SL.asg ⟨rfl, rfl, rfl, rfl⟩ rfl ?_
  refine SL.asg ⟨rfl, rfl, rfl, rfl⟩ rfl ?_
  refine SL.nx ?_
  refine SX.sr ?_
  refine SL.mv ⟨rfl, rfl, rfl, rfl⟩ rfl ?_
  refine SL.call (vs := [_]) (Hin := [_]) ⟨rfl, rfl, rfl, rfl⟩ rfl ⟨rfl, trivial⟩ cal58 rfl rfl (c_copyCheck e b p v hp hl) ?_
  rintro _ _ ⟨rfl, rfl⟩
  refine ⟨trivial, ?_⟩
  refine SL.nx ?_
  refine SX.sr ?_
  refine SL.mv ⟨rfl, rfl, rfl, rfl⟩ rfl ?_
  refine SL.mv ⟨rfl, rfl, rfl, rfl⟩ rfl ?_
  refine SL.nchk ⟨rfl, rfl, rfl, rfl⟩ rfl ?_
  refine SL.fa ⟨rfl, rfl, rfl, rfl⟩ rfl fo53_1 ?_
  refine SL.ld ⟨rfl, rfl, rfl, rfl⟩ sc41 rfl (cell_own 0 rfl rfl) ?_
  refine SL.mv ⟨rfl, rfl, rfl, rfl⟩ rfl ?_
  refine SL.appS 1 ⟨rfl, rfl, rfl, rfl⟩ ty41 ty9 sz5 by5 ze5 rfl rfl rfl hn (fun _ => trivial) fun v' => ?_
  refine SL.nchk ⟨rfl, rfl, rfl, rfl⟩ rfl ?_
  refine SL.fa ⟨rfl, rfl, rfl, rfl⟩ rfl fo53_1 ?_
  refine SL.fact (fun w hw => row_shape (hw.holds _ (List.mem_append_left _ (List.mem_of_getElem? (i := 1) rfl)))) fun hsh => ?_
  have hc1 : v'.cells = #[v'] := by rcases hsh with ⟨rfl, _⟩ | ⟨g, cap, rfl, _⟩ <;> rfl
  have ho1 : v'.oneCell' = true := by rcases hsh with ⟨rfl, _⟩ | ⟨g, cap, rfl, _⟩ <;> rfl
  refine SL.st 0 ⟨rfl, rfl, rfl⟩ rfl rfl rfl sz41 (by rw [hc1]; rfl) (by rw [hc1]; simp [ho1]) rfl trivial ?_
  rw [hc1]
  refine SL.nx ?_
  refine SX.sr ?_
  refine SL.mv ⟨rfl, rfl, rfl, rfl⟩ rfl ?_
  refine SL.lenS ⟨rfl, rfl, rfl, rfl⟩ ty9 rfl ?_
  refine SL.asg ⟨rfl, rfl, rfl, rfl⟩ rfl ?_
  refine SL.asg ⟨rfl, rfl, rfl, rfl⟩ rfl ?_
  refine SL.nx ?_
  refine SX.ret ?_
  exact SQ.fret (res2 rfl rfl rfl) (ret_of (M := [_, _]) ⟨rfl, v', rfl⟩ fun _ h => h)

theorem c_Len (e : TypeId) (b : Nat) (p v : Value) (n : Nat) (xs : List Value) :
    Con Tryd.prog K w0 65 [vP b 0] [own b (.cells #[p, v] e), rowC 5 1 v n xs] H
      (fun r M => r = vI n ∧ M = [own b (.cells #[p, v] e), rowC 5 1 v n xs]) := by
  refine Con.enter Tryd.func65 rfl rfl ?_
  refine SX.sr ?_
  refine SL.asg ⟨rfl, rfl, rfl, rfl⟩ rfl ?_
  refine SL.nx ?_
  refine SX.sr ?_
  refine SL.mv ⟨rfl, rfl, rfl, rfl⟩ rfl ?_
  refine SL.nchk ⟨rfl, rfl, rfl, rfl⟩ rfl ?_
  refine SL.fa ⟨rfl, rfl, rfl, rfl⟩ rfl fo53_1 ?_
  refine SL.ld ⟨rfl, rfl, rfl, rfl⟩ sc41 rfl (cell_own 0 rfl rfl) ?_
  refine SL.lenR 1 ⟨rfl, rfl, rfl, rfl⟩ ty41 rfl rfl ?_
  refine SL.asg ⟨rfl, rfl, rfl, rfl⟩ rfl ?_
  refine SL.nx ?_
  refine SX.ret ?_
  exact SQ.fret (res1 rfl rfl) (ret_of (M := [_, _]) ⟨rfl, rfl⟩ fun _ h => h)

theorem c_String (e : TypeId) (b : Nat) (p v : Value) (n : Nat) (s : List UInt8) (hn : n ≤ 140737488355328) :
    Con Tryd.prog K w0 25 [vP b 0] [own b (.cells #[p, v] e), rowC 5 1 v n (s.map fun b => vU8 b)] H
      (fun r M => r = vS s ∧ M = [own b (.cells #[p, v] e), rowC 5 1 v n (s.map fun b => vU8 b)]) := by
  refine Con.enter Tryd.func25 rfl rfl ?_
  refine SX.sr ?_
  refine SL.asg ⟨rfl, rfl, rfl, rfl⟩ rfl ?_
  refine SL.nx ?_
  refine SX.seq ?_
  refine SX.drawI mix [0, 1] (Pl.of [(true, 0), (true, 1), (true, 2), (true, 3), (true, 5), (true, 6), (true, 7), (true, 8), (true, 9), (false, 4), (false, 10), (true, 11)]) (by kernel_rfl) ?_
  refine SL.mv ⟨rfl, rfl, rfl, rfl⟩ rfl ?_
  refine SL.nchk ⟨rfl, rfl, rfl, rfl⟩ rfl ?_
  refine SL.fa ⟨rfl, rfl, rfl, rfl⟩ rfl fo53_1 ?_
  refine SL.ld ⟨rfl, rfl, rfl, rfl⟩ sc41 rfl (cell_own 0 rfl rfl) ?_
  refine SL.mv ⟨rfl, rfl, rfl, rfl⟩ rfl ?_
  refine SL.nchk ⟨rfl, rfl, rfl, rfl⟩ rfl ?_
  refine SL.fa ⟨rfl, rfl, rfl, rfl⟩ rfl fo53_1 ?_
  refine SL.ld ⟨rfl, rfl, rfl, rfl⟩ sc41 rfl (cell_own 0 rfl rfl) ?_
  refine SL.lenR 1 ⟨rfl, rfl, rfl, rfl⟩ ty41 rfl rfl ?_
  refine SL.usdR 1 ⟨rfl, rfl, rfl, rfl⟩ ty76 rfl rfl ⟨⟨0, rfl⟩, ⟨1, rfl⟩, trivial⟩ fun q hq => ?_
  refine SL.ustR 1 ⟨rfl, rfl, rfl, rfl⟩ ty76 ce5 rfl rfl hq rfl (by omega) ⟨⟨0, rfl⟩, ⟨1, rfl⟩, trivial⟩ ?_
  refine SL.asg ⟨rfl, rfl, rfl, rfl⟩ rfl ?_
  refine SL.nx ?_
  refine SX.ret ?_
  exact SQ.fret (res1 rfl rfl) (ret_of (M := [_, _]) ⟨rfl, rfl⟩ fun _ h => h)
end Go.Proofs.YtnpnmdbleopikaaDoor
