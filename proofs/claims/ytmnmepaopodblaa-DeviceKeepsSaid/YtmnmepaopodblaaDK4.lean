/- The texts Y0, W9, W10, W11, W12, Y1, Y2, one behind the other, of the proof of RDKeeps: each bears its own sentence. Conditions: as each says. -/
import Derived.Test.YtmnmepaopodblaaDK1
import Derived.Test.YtmnmepaopodblaaDK2
import Derived.Test.YtmnmepaopodblaaDK3

/- Plain laws: slices.Sort of few numbers sorts. No program's walk in sight. Condition: at most twelve. -/
namespace Go.Proofs.Ytmnmepaopodblaa
open Go

theorem less_eq (a b : UInt32) : f_cmp_Less_uint32 a b = some (decide (a < b)) := by
  simp [f_cmp_Less_uint32, f_cmp_isNaN_uint32, ret, andO]
/-- a number goes down a row that lies in reverse -/
def sink : List UInt32 → UInt32 → List UInt32
  | [], x => [x]
  | y :: r, x => if x < y then y :: sink r x else x :: y :: r
theorem sink_perm : ∀ (r : List UInt32) (x : UInt32), (sink r x).Perm (x :: r)
  | [], x => .refl _
  | y :: r, x => by
    unfold sink
    split
    · exact ((sink_perm r x).cons y).trans (.swap _ _ _)
    · exact .refl _
theorem sink_sorted : ∀ (r : List UInt32) (x : UInt32), r.Pairwise (fun a b => b ≤ a) → (sink r x).Pairwise (fun a b => b ≤ a)
  | [], x, _ => by simp [sink]
  | y :: r, x, h => by
    obtain ⟨h1, h2⟩ := List.pairwise_cons.1 h
    unfold sink
    split
    · rename_i hlt
      refine List.pairwise_cons.2 ⟨fun z hz => ?_, sink_sorted r x h2⟩
      rcases List.mem_cons.1 ((sink_perm r x).mem_iff.1 hz) with rfl | hz
      · exact UInt32.le_of_lt hlt
      · exact h1 z hz
    · rename_i hge
      refine List.pairwise_cons.2 ⟨fun z hz => ?_, h⟩
      have hyx : y ≤ x := UInt32.not_lt.1 hge
      rcases List.mem_cons.1 hz with rfl | hz
      · exact hyx
      · exact UInt32.le_trans (h1 z hz) hyx
theorem sinks_perm : ∀ (l r : List UInt32), (l.foldl sink r).Perm (l ++ r)
  | [], r => .refl _
  | x :: l, r => (sinks_perm l (sink r x)).trans (((sink_perm r x).append_left l).trans List.perm_middle)
theorem sinks_sorted : ∀ (l r : List UInt32), r.Pairwise (fun a b => b ≤ a) → (l.foldl sink r).Pairwise (fun a b => b ≤ a)
  | [], _, h => h
  | x :: l, r, h => sinks_sorted l (sink r x) (sink_sorted r x h)
theorem sort_unique {a b : List UInt32} (hp : a.Perm b) (ha : a.Pairwise (fun x y => decide (x ≤ y) = true)) (hb : b.Pairwise (fun x y => decide (x ≤ y) = true)) : a = b :=
  List.Perm.eq_of_pairwise (fun x y _ _ h1 h2 => UInt32.le_antisymm (of_decide_eq_true h1) (of_decide_eq_true h2)) ha hb hp
theorem ms_sorted (l : List UInt32) : (l.mergeSort fun a b => decide (a ≤ b)).Pairwise (fun x y => decide (x ≤ y) = true) :=
  List.pairwise_mergeSort (le := fun a b : UInt32 => decide (a ≤ b)) (fun a b c h1 h2 => decide_eq_true (UInt32.le_trans (of_decide_eq_true h1) (of_decide_eq_true h2))) (fun a b => by
    rcases UInt32.le_total a b with h | h
    · exact (by simp [h])
    · exact (by simp [h])) l
theorem mergeSort_perm_eq {a b : List UInt32} (h : a.Perm b) : (a.mergeSort fun a b => decide (a ≤ b)) = b.mergeSort fun a b => decide (a ≤ b) :=
  sort_unique ((List.mergeSort_perm a _).trans (h.trans (List.mergeSort_perm b _).symm)) (ms_sorted a) (ms_sorted b)
theorem sinks_ms (l : List UInt32) : (l.foldl sink []).reverse = l.mergeSort fun a b => decide (a ≤ b) := by
  refine sort_unique ?_ ?_ (ms_sorted l)
  · exact (List.reverse_perm _).trans ((show (l.foldl sink []).Perm l by simpa using sinks_perm l []).trans (List.mergeSort_perm l _).symm)
  · rw [List.pairwise_reverse]
    exact (sinks_sorted l [] List.Pairwise.nil).imp fun h => decide_eq_true h

theorem ins_l2 (nx1 : List UInt32 × Int → Option (List UInt32)) (a1 : Int) (x : UInt32) (B : List UInt32) : ∀ (R : List UInt32) (m : Nat), R.length < m → R.length < 4611686018427387904 →
    f_slices_insertionSortOrdered_uint32_l2 0 a1 nx1 m (R.reverse ++ x :: B, (R.length : Int)) = f_slices_insertionSortOrdered_uint32_j1 a1 nx1 ((sink R x).reverse ++ B)
  | [], m, hm, _ => by
    obtain ⟨m, rfl⟩ : ∃ k, m = k + 1 := ⟨m - 1, by simp at hm; omega⟩
    show f_slices_insertionSortOrdered_uint32_l2_b 0 a1 nx1 (f_slices_insertionSortOrdered_uint32_l2 0 a1 nx1 m) (x :: B) 0 = _
    unfold f_slices_insertionSortOrdered_uint32_l2_b
    simp [andO, sink]
  | y :: R, m, hm, hb => by
    obtain ⟨m, rfl⟩ : ∃ k, m = k + 1 := ⟨m - 1, by simp at hm; omega⟩
    simp only [List.length_cons] at hm hb
    have ih := ins_l2 nx1 a1 x (y :: B) R m (by omega) (by omega)
    show f_slices_insertionSortOrdered_uint32_l2_b 0 a1 nx1 (f_slices_insertionSortOrdered_uint32_l2 0 a1 nx1 m) ((y :: R).reverse ++ x :: B) (((R.length + 1 : Nat)) : Int) = _
    have hw : wI (((R.length + 1 : Nat) : Int) - 1) = (R.length : Int) := by rw [wI_eq (by omega) (by omega)]; omega
    have e1 : nthI ((y :: R).reverse ++ x :: B) (((R.length + 1 : Nat)) : Int) = some x := by
      rw [nthI_nat, List.getElem?_append_right (by simp)]; simp
    have e2 : nthI ((y :: R).reverse ++ x :: B) (R.length : Int) = some y := by
      rw [nthI_nat, List.getElem?_append_left (by simp)]; simp
    have hpos : (0 : Int) < ((R.length + 1 : Nat) : Int) := by omega
    unfold f_slices_insertionSortOrdered_uint32_l2_b
    rw [hw, e1, e2, decide_eq_true hpos]
    simp only [andO, less_eq, cond_true, some_bind]
    by_cases hlt : x < y
    · rw [decide_eq_true hlt]
      simp only [cond_true]
      have e3 : setI ((y :: R).reverse ++ x :: B) (((R.length + 1 : Nat)) : Int) y = some (R.reverse ++ y :: y :: B) := by
        rw [setI_of rfl (by simp)]
        simp
      have e4 : nthI (R.reverse ++ y :: y :: B) (R.length : Int) = some y := by
        rw [nthI_nat, List.getElem?_append_right (by simp)]; simp
      have e5 : setI (R.reverse ++ y :: y :: B) (R.length : Int) x = some (R.reverse ++ x :: y :: B) := by
        rw [setI_of rfl (by simp)]
        simp
      rw [e3]
      simp only [some_bind]
      rw [e4, e5]
      simp only [some_bind, ret_eq]
      rw [ih]
      simp [sink, hlt]
    · rw [decide_eq_false hlt]
      simp only [cond_false]
      simp [sink, hlt]
theorem ins_l1 (n : Nat) (N : Nat) (hn : N < n) (hN : N < 4611686018427387904) : ∀ (B R : List UInt32) (m : Nat), R.length + B.length = N → B.length < m →
    f_slices_insertionSortOrdered_uint32_l1 n 0 (N : Int) m (R.reverse ++ B, (R.length : Int)) = some (B.foldl sink R).reverse
  | [], R, m, hl, hm => by
    obtain ⟨m, rfl⟩ : ∃ k, m = k + 1 := ⟨m - 1, by simp at hm; omega⟩
    show f_slices_insertionSortOrdered_uint32_l1_b n 0 (N : Int) (f_slices_insertionSortOrdered_uint32_l1 n 0 (N : Int) m) (R.reverse ++ []) (R.length : Int) = _
    unfold f_slices_insertionSortOrdered_uint32_l1_b
    have : ¬ ((R.length : Int) < (N : Int)) := by simp at hl; omega
    rw [decide_eq_false this]
    simp
  | x :: B, R, m, hl, hm => by
    obtain ⟨m, rfl⟩ : ∃ k, m = k + 1 := ⟨m - 1, by simp at hm; omega⟩
    simp only [List.length_cons] at hl hm
    have ih := ins_l1 n N hn hN B (sink R x) m (by rw [(sink_perm R x).length_eq]; simp only [List.length_cons]; omega) (by omega)
    show f_slices_insertionSortOrdered_uint32_l1_b n 0 (N : Int) (f_slices_insertionSortOrdered_uint32_l1 n 0 (N : Int) m) (R.reverse ++ x :: B) (R.length : Int) = _
    unfold f_slices_insertionSortOrdered_uint32_l1_b
    have : (R.length : Int) < (N : Int) := by omega
    rw [decide_eq_true this, cond_true, ins_l2 _ _ x B R n (by omega) (by omega)]
    unfold f_slices_insertionSortOrdered_uint32_j1
    rw [ret_eq, wI_eq (by omega) (by omega)]
    have e : (R.length : Int) + 1 = ((sink R x).length : Int) := by rw [(sink_perm R x).length_eq]; simp
    rw [e, ih]
    rfl
theorem ins_all (l : List UInt32) (hl : l.length < 4611686018427387904) : f_slices_insertionSortOrdered_uint32 (l.length + 1) l 0 (l.length : Int) = some (l.mergeSort fun a b => decide (a ≤ b)) := by
  unfold f_slices_insertionSortOrdered_uint32
  rw [ret_eq, ← sinks_ms]
  show f_slices_insertionSortOrdered_uint32_l1 (l.length + 1) 0 (l.length : Int) (l.length + 1) (l, wI (0 + 1)) = _
  rw [wI_eq (by omega) (by omega)]
  cases l with
  | nil => rfl
  | cons x r =>
    have := ins_l1 ((x :: r).length + 1) ((x :: r).length) (by omega) hl r [x] ((x :: r).length + 1) (by simp; omega) (by simp; omega)
    simpa [sink] using this
theorem bind_nth {α : Type} {L : List UInt8} (hL : L.length = 256) (k : UInt8) {f : UInt8 → Option α} (hf : ∀ c, ∃ r, f c = some r) : ∃ r, (nthI L (k.toNat : Int)).bind f = some r := by
  have hk : k.toNat < L.length := by have := k.toNat_lt; omega
  rw [nthI_nat, List.getElem?_eq_getElem hk, some_bind]
  exact hf _
set_option maxRecDepth 100000 in
theorem len_j3 (a : UInt64) (b : Int) : ∃ r, f_math_bits_Len64_j3 a b = some r := by
  unfold f_math_bits_Len64_j3
  exact bind_nth (by kernel_rfl) _ (fun c => ⟨_, by rw [ret_eq]⟩)
theorem len_j2 (a : UInt64) (b : Int) : ∃ r, f_math_bits_Len64_j2 a b = some r := by
  unfold f_math_bits_Len64_j2
  cases decide (256 ≤ a)
  · exact len_j3 _ _
  · rw [cond_true, ret_eq, ret_eq]; exact len_j3 _ _
theorem len_j1 (a : UInt64) (b : Int) : ∃ r, f_math_bits_Len64_j1 a b = some r := by
  unfold f_math_bits_Len64_j1
  cases decide (65536 ≤ a)
  · exact len_j2 _ _
  · rw [cond_true, ret_eq, ret_eq]; exact len_j2 _ _
theorem len_some (x : UInt64) : ∃ r, f_math_bits_Len x = some r := by
  have h : ∃ r, f_math_bits_Len64 x = some r := by
    unfold f_math_bits_Len64
    cases decide (4294967296 ≤ x)
    · exact len_j1 _ _
    · rw [cond_true, ret_eq]; exact len_j1 _ _
  obtain ⟨r, hr⟩ := h
  exact ⟨r, by unfold f_math_bits_Len; rw [hr, some_bind]⟩
theorem sort_small (ks : List UInt32) (h : ks.length ≤ 12) : ∃ n, f_slices_Sort_uint32_uint32 n ks = some (ks.mergeSort fun a b => decide (a ≤ b)) := by
  refine ⟨ks.length + 1, ?_⟩
  obtain ⟨r, hr⟩ := len_some (toU64 (ks.length : Int))
  unfold f_slices_Sort_uint32_uint32 pdqO
  rw [hr, some_bind, Int.sub_zero, wI_eq (by omega) (by omega), if_pos (by omega), ins_all ks (by omega), some_bind]
end Go.Proofs.Ytmnmepaopodblaa

/- Ranges in plain form; the places of pending blocks, sorted. No condition beyond those stated. -/
namespace Go.Proofs.Ytmnmepaopodblaa
open Go
variable {K : Nat → Prop} {w0 : World} {H : List Chunk}

def rangeL {α σ R : Type} (body : (σ → Option R) → α → σ → Option R) (fin : σ → Option R) : List α → σ → Option R
  | [], s => fin s
  | x :: r, s => body (rangeL body fin r) x s
theorem suf_eq {α : Type} {xs pre suf suf' : List α} {x : α} (h : xs = pre ++ x :: suf) (h' : xs = (pre ++ [x]) ++ suf') : suf' = suf := by
  rw [h, List.append_assoc] at h'
  simpa using (List.append_cancel_left h').symm
def keysOf {α : Type} (m : List (UInt32 × α)) : List UInt32 := (m.map (·.1)).mergeSort fun a b => decide (a ≤ b)
def waitsO (d : DevA) : Option (List (Int × UInt32)) := if d.pend.length ≤ 12 then some (enumU (keysOf d.pend)) else none
theorem q_waits {b mp mb bx : Nat} {vb : Value} {d : DevA} {G1 : List Chunk} {xs : List (Int × UInt32)} (h : waitsO d = some xs) :
    SeqAt Try.prog K w0 53 [vP bx 0] [own bx (.cells #[vP b 0] 25)] (devC b mp mb vb d G1) encIU xs := by
  unfold waitsO at h
  split at h
  · rename_i hl
    obtain rfl := Option.some.inj h
    refine q_waiting b mp mb bx vb d G1 (keysOf d.pend) (fun ks hk => ?_) (by omega) (by simp [keysOf]; omega)
    obtain ⟨n, hn⟩ := sort_small ks (by rw [hk.length_eq]; simpa using hl)
    exact ⟨n, by rw [hn, mergeSort_perm_eq hk]; rfl⟩
  · cases h
def waitingO (_ : DevA) : Option Unit := some ()
theorem w_waiting {b : Nat} {d : DevA} {r : Unit} (_ : waitingO d = some r) : Con Try.prog K w0 34 [vP b 0] [] H (fun u M => ∃ bx : Nat, u = .func (.func 53) #[] #[vP bx 0] ∧ M = [own bx (.cells #[vP b 0] 25)]) := c_waiting b
end Go.Proofs.Ytmnmepaopodblaa

/- Plain functions of the references and the laws, printed from the loaded program, and the walks that show that the program computes them. Condition: the plain function yields. -/
namespace Go.Proofs.Ytmnmepaopodblaa
open Go
variable {K : Nat → Prop} {w0 : World} {H : List Chunk}

def f_device_Device_Flush_j1 (y1 : Int × DevA) (l1 : List (List UInt8)) (l2 : List (UInt32 × List UInt8)) : Option (Int × DevA) :=
  some (y1.1, { y1.2 with blocks := l1, pend := l2 })
def f_device_Device_Flush_j2 (y1 : Int × DevA) (l3 : List (List UInt8)) : Option (Int × DevA) :=
  f_device_Device_Flush_j1 y1 l3 []
def f_device_Device_Flush_j3 (y1 : Int × DevA) (l4 : List (List UInt8)) : Option (Int × DevA) :=
  f_device_Device_Flush_j2 y1 l4
def f_device_Device_Flush_r1_b (y1 : Int × DevA) (nx_f_device_Device_Flush_r1 : List (List UInt8) → Option (Int × DevA)) (e1 : Int × UInt32) (l4 : List (List UInt8)) : Option (Int × DevA) :=
  (nthI l4 (e1.2.toNat : Int)).bind fun x1 =>
  (setI l4 (e1.2.toNat : Int) ((mget y1.2.pend e1.2).getD [])).bind fun l5 =>
  nx_f_device_Device_Flush_r1 l5
def f_device_Device_Flush_r1 (y1 : Int × DevA) : List (Int × UInt32) → List (List UInt8) → Option (Int × DevA) := rangeL (fun nx e x => f_device_Device_Flush_r1_b y1 nx e x) (fun x => f_device_Device_Flush_j3 y1 x)
def f_device_Device_Flush (p0 : DevA) : Option (Int × DevA) :=
  (f_device_power_spend p0).bind fun y1 =>
  cond (decide (y1.1 = 0))
  (
    (waitingO y1.2).bind fun y2 =>
    (waitsO y1.2).bind fun xs1 =>
    f_device_Device_Flush_r1 y1 xs1 y1.2.blocks)
  (
    f_device_Device_Flush_j1 y1 y1.2.blocks y1.2.pend)
set_option maxRecDepth 100000 in
theorem c_device_Device_Flush {b0_ : Nat} {v0x4_ : Value} {m0x5_ : Nat} {m0x6_ : Nat} {p0 : DevA} {r : Int × DevA} (h : f_device_Device_Flush p0 = some r)  : Con Try.prog K w0 14 [vP b0_ 0] [own b0_ (.cells #[vB p0.off, vB p0.isCut, vI p0.lasts, vI p0.counts, v0x4_, .map (some m0x5_), .map (some m0x6_), vU64 p0.rcnt, vS p0.rtag, vU32 p0.rboots] 72), rowT 9 1 v0x4_ eS p0.blocks, mapC m0x5_ vU32 vS p0.pend, mapC m0x6_ vU32 vB p0.bad] H (fun u M => u = vI r.1 ∧ M = [own b0_ (.cells #[vB r.2.off, vB r.2.isCut, vI r.2.lasts, vI r.2.counts, v0x4_, .map (some m0x5_), .map (some m0x6_), vU64 r.2.rcnt, vS r.2.rtag, vU32 r.2.rboots] 72), rowT 9 1 v0x4_ eS r.2.blocks, mapC m0x5_ vU32 vS r.2.pend, mapC m0x6_ vU32 vB r.2.bad]) := by
  unfold f_device_Device_Flush at h
  refine Con.enter Try.func14 rfl rfl ?_
  refine SX.sr ?_
  refine SL.box ⟨rfl, rfl, rfl, rfl⟩ rfl (fun _ => trivial) fun b1 => ?_
  refine SL.asg ⟨rfl, rfl, rfl, rfl⟩ rfl ?_
  refine SL.nx ?_
  refine SX.seq ?_
  refine SX.sr ?_
  refine SL.ld ⟨rfl, rfl, rfl, rfl⟩ sc25 rfl (cell_own 0 rfl rfl) ?_
  refine SL.eqPN ⟨rfl, rfl, rfl, rfl⟩ ty25 rfl rfl ?_
  refine SL.nx ?_
  refine SX.condF rfl ?_
  refine SX.skip ?_
  refine SQ.thn ?_
  refine SX.sr ?_
  obtain ⟨y1, hy1, h⟩ := bnd h
  refine SL.ld ⟨rfl, rfl, rfl, rfl⟩ sc25 rfl (cell_own 0 rfl rfl) ?_
  refine SL.nchk ⟨rfl, rfl, rfl, rfl⟩ rfl ?_
  refine SL.fa ⟨rfl, rfl, rfl, rfl⟩ rfl fo72_0 ?_
  refine SL.pick [1, 2, 3, 4, 0] 5 ?_
  refine SL.call (vs := [_]) (Hin := [_, _, _, _]) (Hr := _ :: _) ⟨rfl, rfl, rfl, rfl⟩ rfl ⟨rfl, trivial⟩ cal33 rfl rfl (c_device_power_spend hy1) ?_
  rintro _ _ ⟨rfl, rfl⟩
  refine ⟨trivial, ?_⟩
  refine SL.asg ⟨rfl, rfl, rfl, rfl⟩ rfl ?_
  refine SL.nx ?_
  refine SX.meetD (α := List (List UInt8) × List (UInt32 × List UInt8)) (fun x => f_device_Device_Flush_j1 y1 x.1 x.2 = some r) (fun x => [(0, vP b0_ 0), (3, vI y1.1)]) (fun x => own b0_ (.cells #[vB y1.2.off, vB y1.2.isCut, vI y1.2.lasts, vI y1.2.counts, v0x4_, .map (some m0x5_), .map (some m0x6_), vU64 y1.2.rcnt, vS y1.2.rtag, vU32 y1.2.rboots] 72) :: rowT 9 1 v0x4_ eS x.1 :: mapC m0x5_ vU32 vS x.2 :: mapC m0x6_ vU32 vB y1.2.bad :: H) ?_ (fun x D h => ?_)
  · skip
    refine SX.sr ?_
    refine SL.mv ⟨rfl, rfl, rfl, rfl⟩ rfl ?_
    refine SL.bin ⟨rfl, rfl, rfl, rfl⟩ rfl rfl Bin.eqI ?_
    refine SL.nx ?_
    refine SX.cond rfl (fun hc2 => ?_) (fun hc2 => ?_)
    · skip
      replace h := cT hc2 h
      refine SX.meetD (α := List (List UInt8)) (fun x => f_device_Device_Flush_j2 y1 x = some r) (fun x => [(0, vP b0_ 0), (1, vP b1 0), (3, vI y1.1)]) (fun x => own b0_ (.cells #[vB y1.2.off, vB y1.2.isCut, vI y1.2.lasts, vI y1.2.counts, v0x4_, .map (some m0x5_), .map (some m0x6_), vU64 y1.2.rcnt, vS y1.2.rtag, vU32 y1.2.rboots] 72) :: rowT 9 1 v0x4_ eS x :: mapC m0x5_ vU32 vS y1.2.pend :: mapC m0x6_ vU32 vB y1.2.bad :: own b1 (.cells #[vP b0_ 0] 25) :: H) ?_ (fun l3 D h => ?_)
      · skip
        refine SX.sr ?_
        obtain ⟨y2, hy2, h⟩ := bnd h
        refine SL.ld ⟨rfl, rfl, rfl, rfl⟩ sc25 rfl (cell_own 4 rfl rfl) ?_
        refine SL.call (vs := [_]) (Hin := []) (Hr := _ :: _ :: _ :: _ :: _ :: _) ⟨rfl, rfl, rfl, rfl⟩ rfl ⟨rfl, trivial⟩ cal34 rfl rfl (w_waiting hy2) ?_
        rintro _ _ ⟨b2, rfl, rfl⟩
        refine ⟨trivial, ?_⟩
        refine SL.nx ?_
        refine SX.block ?_
        obtain ⟨xs1, hxs1, h⟩ := bnd h
        refine SX.heap (SX.rangeAt (enc := encIU) xs1 (G0 := own b0_ (.cells #[vB y1.2.off, vB y1.2.isCut, vI y1.2.lasts, vI y1.2.counts, v0x4_, .map (some m0x5_), .map (some m0x6_), vU64 y1.2.rcnt, vS y1.2.rtag, vU32 y1.2.rboots] 72) :: rowT 9 1 v0x4_ eS y1.2.blocks :: mapC m0x5_ vU32 vS y1.2.pend :: mapC m0x6_ vU32 vB y1.2.bad :: own b1 (.cells #[vP b0_ 0] 25) :: H) (fun pre G => ∃ x : List (List UInt8), (∀ suf, xs1 = pre ++ suf → f_device_Device_Flush_r1 y1 suf x = some r) ∧ G = own b0_ (.cells #[vB y1.2.off, vB y1.2.isCut, vI y1.2.lasts, vI y1.2.counts, v0x4_, .map (some m0x5_), .map (some m0x6_), vU64 y1.2.rcnt, vS y1.2.rtag, vU32 y1.2.rboots] 72) :: rowT 9 1 v0x4_ eS x :: mapC m0x5_ vU32 vS y1.2.pend :: mapC m0x6_ vU32 vB y1.2.bad :: own b1 (.cells #[vP b0_ 0] 25) :: H) (fun c G => False) rfl cal53 rfl (fun _ => rfl) (q_waits hxs1) rfl ⟨y1.2.blocks, fun suf e => by rw [← show xs1 = suf from e]; exact h, rfl⟩ (fun pre e1 suf1 G hpre hJ lr lp Rest => ?_) (fun G D hJ => ?_) (fun c G D hX => ?_)) (fun _ hw => HpOk.pick (H := [_, _, _, _, _, _]) hw [0, 1, 2, 3, 4, 5] 6 rfl)
        · skip
          obtain ⟨l4, h, rfl⟩ := hJ
          replace h : f_device_Device_Flush_r1_b y1 (f_device_Device_Flush_r1 y1 suf1) e1 l4 = some r := h _ hpre
          unfold f_device_Device_Flush_r1_b at h
          refine SX.region ?_
          refine SL.asg ⟨rfl, rfl, rfl, rfl⟩ rfl ?_
          refine SL.nil ?_
          refine SQ.bgn ?_
          refine SX.block ?_
          obtain ⟨x1, hx1, h⟩ := bnd h
          obtain ⟨l5, hl5, h⟩ := bnd h
          refine SX.drawI mix [0, 2, 4] (Pl.ap [(true, 0), (true, 1), (true, 2), (true, 3), (true, 4), (true, 5), (true, 6), (true, 7), (true, 8), (true, 9), (true, 10), (true, 11)] (.last 12 .nil)) (by kernel_rfl) ?_
          refine SL.ld ⟨rfl, rfl, rfl, rfl⟩ sc25 rfl (cell_own 2 rfl rfl) ?_
          refine SL.nchk ⟨rfl, rfl, rfl, rfl⟩ rfl ?_
          refine SL.fa ⟨rfl, rfl, rfl, rfl⟩ rfl fo72_1 ?_
          refine SL.ld ⟨rfl, rfl, rfl, rfl⟩ sc41 rfl (cell_own 0 rfl rfl) ?_
          refine SL.mv ⟨rfl, rfl, rfl, rfl⟩ rfl ?_
          refine SL.ld ⟨rfl, rfl, rfl, rfl⟩ sc25 rfl (cell_own 2 rfl rfl) ?_
          refine SL.nchk ⟨rfl, rfl, rfl, rfl⟩ rfl ?_
          refine SL.fa ⟨rfl, rfl, rfl, rfl⟩ rfl fo72_2 ?_
          refine SL.ld ⟨rfl, rfl, rfl, rfl⟩ sc67 rfl (cell_own 0 rfl rfl) ?_
          refine SL.mv ⟨rfl, rfl, rfl, rfl⟩ rfl ?_
          refine SL.lkp (zv := []) 1 (MapE.u32S ty22) ⟨rfl, rfl, rfl, rfl⟩ ty67 ze9 rfl rfl rfl ?_
          refine SL.iaT 1 hx1 ⟨rfl, rfl, rfl, rfl⟩ ty41 sz9 rfl rfl rfl fun g1 m1 cp1 hv1 => ?_
          refine SL.last ?_
          refine SL.stTN (sz := 1) (enc := eS) 1 hl5 (fun _ => rfl) ⟨rfl, rfl, rfl⟩ rfl rfl rfl rfl hv1 sz9 (by simp [Value.oneCell']) trivial ?_
          refine SL.nil ?_
          refine SQ.blk ?_
          exact SQ.rndN ⟨l5, fun suf e => by rw [suf_eq hpre e]; exact h, rfl⟩ (fun _ hw => HpOk.pick (H := [_, _, _, _, _]) hw [0, 1, 2, 3, 4] 5 rfl)
        · skip
          obtain ⟨l4, h, rfl⟩ := hJ
          replace h : f_device_Device_Flush_j3 y1 l4 = some r := h [] (List.append_nil _).symm
          unfold f_device_Device_Flush_j3 at h
          refine SQ.blk ?_
          exact SQ.midD l4 h (by repeat' (first | exact trivial | refine And.intro rfl ?_)) (fun _ hw => HpOk.pick (H := [_, _, _, _, _]) hw [0, 1, 2, 3, 4] 5 rfl)
        · skip
          exact hX.elim
      · skip
        unfold f_device_Device_Flush_j2 at h
        refine SX.re [(0, vP b0_ 0), (1, vP b1 0), (3, vI y1.1)] (own b0_ (.cells #[vB y1.2.off, vB y1.2.isCut, vI y1.2.lasts, vI y1.2.counts, v0x4_, .map (some m0x5_), .map (some m0x6_), vU64 y1.2.rcnt, vS y1.2.rtag, vU32 y1.2.rboots] 72) :: rowT 9 1 v0x4_ eS l3 :: mapC m0x5_ vU32 vS y1.2.pend :: mapC m0x6_ vU32 vB y1.2.bad :: own b1 (.cells #[vP b0_ 0] 25) :: H) ?_ (by repeat' (first | exact trivial | refine And.intro rfl ?_))
        refine SX.region ?_
        refine SL.ld ⟨rfl, rfl, rfl, rfl⟩ sc25 rfl (cell_own 4 rfl rfl) ?_
        refine SL.nchk ⟨rfl, rfl, rfl, rfl⟩ rfl ?_
        refine SL.fa ⟨rfl, rfl, rfl, rfl⟩ rfl fo72_2 ?_
        refine SL.ld ⟨rfl, rfl, rfl, rfl⟩ sc67 rfl (cell_own 0 rfl rfl) ?_
        refine SL.mcl 2 rfl rfl rfl ty67 rfl rfl trivial ?_
        refine SL.nil ?_
        exact SQ.midD (l3, []) h (by repeat' (first | exact trivial | refine And.intro rfl ?_)) (fun _ hw => HpOk.pick (H := [_, _, _, _, _]) hw [0, 1, 2, 3] 5 rfl)
    · skip
      replace h := cF hc2 h
      refine SX.skip ?_
      exact SQ.midD (y1.2.blocks, y1.2.pend) h (by repeat' (first | exact trivial | refine And.intro rfl ?_)) (fun _ hw => HpOk.pick (H := [_, _, _, _, _]) hw [0, 1, 2, 3] 5 rfl)
  · skip
    obtain ⟨l1, l2⟩ := x
    dsimp only at h
    unfold f_device_Device_Flush_j1 at h
    refine SX.re [(0, vP b0_ 0), (3, vI y1.1)] (own b0_ (.cells #[vB y1.2.off, vB y1.2.isCut, vI y1.2.lasts, vI y1.2.counts, v0x4_, .map (some m0x5_), .map (some m0x6_), vU64 y1.2.rcnt, vS y1.2.rtag, vU32 y1.2.rboots] 72) :: rowT 9 1 v0x4_ eS l1 :: mapC m0x5_ vU32 vS l2 :: mapC m0x6_ vU32 vB y1.2.bad :: H) ?_ (by repeat' (first | exact trivial | refine And.intro rfl ?_))
    refine SX.sr ?_
    refine SL.mv ⟨rfl, rfl, rfl, rfl⟩ rfl ?_
    refine SL.asg ⟨rfl, rfl, rfl, rfl⟩ rfl ?_
    refine SL.nx ?_
    refine SX.ret ?_
    obtain rfl := Option.some.inj h
    exact SQ.fret (res1 rfl rfl) (ret_of (M := [_, _, _, _]) ⟨rfl, rfl⟩ fun _ hw => HpOk.pick (H := [_, _, _, _]) hw [0, 1, 2, 3] 4 rfl)

def f_device_Device_Wake_j1 (p0 : DevA) (l1 : List (List UInt8)) : Option (Int × DevA) :=
  some (0, { p0 with off := false, isCut := false, lasts := 0, blocks := l1, pend := [] })
def f_device_Device_Wake_j2 (p0 : DevA) (l2 : List (List UInt8)) : Option (Int × DevA) :=
  f_device_Device_Wake_j1 p0 l2
def f_device_Device_Wake_r1_b (p0 : DevA) (p1 : List Int) (nx_f_device_Device_Wake_r1 : List (List UInt8) → Option (Int × DevA)) (e1 : Int × UInt32) (l2 : List (List UInt8)) : Option (Int × DevA) :=
  (orO (decide ((p1.length : Int) ≤ e1.1)) ((nthI p1 e1.1).bind fun x1 => some (decide (x1 < 1)))).bind fun y2 =>
  (orO y2 ((nthI p1 e1.1).bind fun x2 => some (decide (4 < x2)))).bind fun y3 =>
  cond y3
  (
    nx_f_device_Device_Wake_r1 l2)
  (
    (nthI p1 e1.1).bind fun x3 =>
    ret (wI (x3 * 64)) fun x4 =>
    (slcI ((mget p0.pend e1.2).getD []) 0 x4).bind fun s1 =>
    (nthI l2 (e1.2.toNat : Int)).bind fun x5 =>
    (slcI x5 x4 (x5.length : Int)).bind fun s2 =>
    (catS s1 s2).bind fun s3 =>
    (nthI l2 (e1.2.toNat : Int)).bind fun x6 =>
    (setI l2 (e1.2.toNat : Int) s3).bind fun l3 =>
    nx_f_device_Device_Wake_r1 l3)
def f_device_Device_Wake_r1 (p0 : DevA) (p1 : List Int) : List (Int × UInt32) → List (List UInt8) → Option (Int × DevA) := rangeL (fun nx e x => f_device_Device_Wake_r1_b p0 p1 nx e x) (fun x => f_device_Device_Wake_j2 p0 x)
def f_device_Device_Wake (p0 : DevA) (p1 : List Int) : Option (Int × DevA) :=
  (waitingO p0).bind fun y1 =>
  (waitsO p0).bind fun xs1 =>
  f_device_Device_Wake_r1 p0 p1 xs1 p0.blocks
set_option maxRecDepth 100000 in
theorem c_device_Device_Wake {b0_ : Nat} {v0x4_ : Value} {m0x5_ : Nat} {m0x6_ : Nat} {p0 : DevA} {v1_ : Value} {p1 : List Int} {r : Int × DevA} (h : f_device_Device_Wake p0 p1 = some r) (hs1_ : SlOf K w0 eI 1 v1_ p1) : Con Try.prog K w0 16 [vP b0_ 0, v1_] [own b0_ (.cells #[vB p0.off, vB p0.isCut, vI p0.lasts, vI p0.counts, v0x4_, .map (some m0x5_), .map (some m0x6_), vU64 p0.rcnt, vS p0.rtag, vU32 p0.rboots] 72), rowT 9 1 v0x4_ eS p0.blocks, mapC m0x5_ vU32 vS p0.pend, mapC m0x6_ vU32 vB p0.bad] H (fun u M => u = vI r.1 ∧ M = [own b0_ (.cells #[vB r.2.off, vB r.2.isCut, vI r.2.lasts, vI r.2.counts, v0x4_, .map (some m0x5_), .map (some m0x6_), vU64 r.2.rcnt, vS r.2.rtag, vU32 r.2.rboots] 72), rowT 9 1 v0x4_ eS r.2.blocks, mapC m0x5_ vU32 vS r.2.pend, mapC m0x6_ vU32 vB r.2.bad]) := by
  unfold f_device_Device_Wake at h
  refine Con.enter Try.func16 rfl rfl ?_
  refine SX.sr ?_
  refine SL.box ⟨rfl, rfl, rfl, rfl⟩ rfl (fun _ => trivial) fun b1 => ?_
  refine SL.slV1 hs1_ fun hv1 ho1 => ?_
  refine SL.boxR hv1 ⟨rfl, rfl, rfl, rfl⟩ rfl (fun _ => trivial) fun b2 => ?_
  refine SL.asg ⟨rfl, rfl, rfl, rfl⟩ rfl ?_
  refine SL.nx ?_
  refine SX.scope ?_
  refine SX.seq ?_
  refine SX.sr ?_
  refine SL.ld ⟨rfl, rfl, rfl, rfl⟩ sc25 rfl (cell_own 1 rfl rfl) ?_
  refine SL.eqPN ⟨rfl, rfl, rfl, rfl⟩ ty25 rfl rfl ?_
  refine SL.nx ?_
  refine SX.condF rfl ?_
  refine SX.skip ?_
  refine SQ.thn ?_
  refine SX.seq ?_
  refine SX.label ?_
  refine SQ.thn ?_
  refine SX.meetD (α := List (List UInt8)) (fun x => f_device_Device_Wake_j1 p0 x = some r) (fun x => [(0, vP b0_ 0), (2, vP b1 0)]) (fun x => own b0_ (.cells #[vB p0.off, vB p0.isCut, vI p0.lasts, vI p0.counts, v0x4_, .map (some m0x5_), .map (some m0x6_), vU64 p0.rcnt, vS p0.rtag, vU32 p0.rboots] 72) :: rowT 9 1 v0x4_ eS x :: mapC m0x5_ vU32 vS p0.pend :: mapC m0x6_ vU32 vB p0.bad :: own b1 (.cells #[vP b0_ 0] 25) :: H) ?_ (fun l1 D h => ?_)
  · skip
    refine SX.sr ?_
    obtain ⟨y1, hy1, h⟩ := bnd h
    refine SL.ld ⟨rfl, rfl, rfl, rfl⟩ sc25 rfl (cell_own 1 rfl rfl) ?_
    refine SL.call (vs := [_]) (Hin := []) (Hr := _ :: _ :: _ :: _ :: _ :: _ :: _) ⟨rfl, rfl, rfl, rfl⟩ rfl ⟨rfl, trivial⟩ cal34 rfl rfl (w_waiting hy1) ?_
    rintro _ _ ⟨b3, rfl, rfl⟩
    refine ⟨trivial, ?_⟩
    refine SL.nx ?_
    refine SX.block ?_
    obtain ⟨xs1, hxs1, h⟩ := bnd h
    refine SX.heap (SX.rangeAt (enc := encIU) xs1 (G0 := own b0_ (.cells #[vB p0.off, vB p0.isCut, vI p0.lasts, vI p0.counts, v0x4_, .map (some m0x5_), .map (some m0x6_), vU64 p0.rcnt, vS p0.rtag, vU32 p0.rboots] 72) :: rowT 9 1 v0x4_ eS p0.blocks :: mapC m0x5_ vU32 vS p0.pend :: mapC m0x6_ vU32 vB p0.bad :: own b1 (.cells #[vP b0_ 0] 25) :: own b2 (.cells #[v1_] 32) :: H) (fun pre G => ∃ x : List (List UInt8), (∀ suf, xs1 = pre ++ suf → f_device_Device_Wake_r1 p0 p1 suf x = some r) ∧ G = own b0_ (.cells #[vB p0.off, vB p0.isCut, vI p0.lasts, vI p0.counts, v0x4_, .map (some m0x5_), .map (some m0x6_), vU64 p0.rcnt, vS p0.rtag, vU32 p0.rboots] 72) :: rowT 9 1 v0x4_ eS x :: mapC m0x5_ vU32 vS p0.pend :: mapC m0x6_ vU32 vB p0.bad :: own b1 (.cells #[vP b0_ 0] 25) :: own b2 (.cells #[v1_] 32) :: H) (fun c G => False) rfl cal53 rfl (fun _ => rfl) (q_waits hxs1) rfl ⟨p0.blocks, fun suf e => by rw [← show xs1 = suf from e]; exact h, rfl⟩ (fun pre e1 suf1 G hpre hJ lr lp Rest => ?_) (fun G D hJ => ?_) (fun c G D hX => ?_)) (fun _ hw => HpOk.pick (H := [_, _, _, _, _, _, _]) hw [0, 3, 4, 5, 6, 2, 1] 7 rfl)
    · skip
      obtain ⟨l2, h, rfl⟩ := hJ
      replace h : f_device_Device_Wake_r1_b p0 p1 (f_device_Device_Wake_r1 p0 p1 suf1) e1 l2 = some r := h _ hpre
      unfold f_device_Device_Wake_r1_b at h
      refine SX.sr ?_
      refine SL.asg ⟨rfl, rfl, rfl, rfl⟩ rfl ?_
      refine SL.nx ?_
      refine SX.region ?_
      refine SL.asg ⟨rfl, rfl, rfl, rfl⟩ rfl ?_
      refine SL.nil ?_
      refine SQ.bgn ?_
      refine SX.block ?_
      refine SX.seq ?_
      refine SX.sr ?_
      obtain ⟨y2, hy2, h⟩ := bnd h
      obtain ⟨y3, hy3, h⟩ := bnd h
      refine SL.mv ⟨rfl, rfl, rfl, rfl⟩ rfl ?_
      refine SL.ld ⟨rfl, rfl, rfl, rfl⟩ sc32 rfl (cell_own 5 rfl rfl) ?_
      refine SL.lenV hs1_ ⟨rfl, rfl, rfl, rfl⟩ ty32 rfl ?_
      refine SL.bin ⟨rfl, rfl, rfl, rfl⟩ rfl rfl Bin.geI ?_
      refine SL.mv ⟨rfl, rfl, rfl, rfl⟩ rfl ?_
      refine SL.orN 18 6 24 hy2 rfl (fun hb k => ?_) (fun hb hg1 k => ?_) ?_
      · skip
        refine SL.pass rfl rfl rfl ?_
        refine SL.pass rfl rfl rfl ?_
        refine SL.pass rfl rfl rfl ?_
        refine SL.pass rfl rfl rfl ?_
        refine SL.pass rfl rfl rfl ?_
        refine SL.pk ⟨rfl, rfl, rfl, rfl⟩ rfl rfl ?_
        exact k.mono (by repeat' (first | exact trivial | refine And.intro rfl ?_))
      · skip
        obtain ⟨x1, hx1, hg1⟩ := bnd hg1
        obtain rfl := Option.some.inj hg1
        refine SL.ld ⟨rfl, rfl, rfl, rfl⟩ sc32 rfl (cell_own 5 rfl rfl) ?_
        refine SL.mv ⟨rfl, rfl, rfl, rfl⟩ rfl ?_
        refine SL.iaN hx1 hs1_ ⟨rfl, rfl, rfl, rfl⟩ ty32 sz3 rfl rfl fun be1 of1 hc2 => ?_
        refine SL.ld ⟨rfl, rfl, rfl, rfl⟩ sc3 rfl (cell_kept (j := 0) hc2 rfl) ?_
        refine SL.bin ⟨rfl, rfl, rfl, rfl⟩ rfl rfl Bin.ltI ?_
        refine SL.pk ⟨rfl, rfl, rfl, rfl⟩ rfl rfl ?_
        exact k.mono (by repeat' (first | exact trivial | refine And.intro rfl ?_))
      refine SL.mv ⟨rfl, rfl, rfl, rfl⟩ rfl ?_
      refine SL.orN 25 6 31 hy3 rfl (fun hb k => ?_) (fun hb hg2 k => ?_) ?_
      · skip
        refine SL.pass rfl rfl rfl ?_
        refine SL.pass rfl rfl rfl ?_
        refine SL.pass rfl rfl rfl ?_
        refine SL.pass rfl rfl rfl ?_
        refine SL.pass rfl rfl rfl ?_
        refine SL.pk ⟨rfl, rfl, rfl, rfl⟩ rfl rfl ?_
        exact k.mono (by repeat' (first | exact trivial | refine And.intro rfl ?_))
      · skip
        obtain ⟨x2, hx2, hg2⟩ := bnd hg2
        obtain rfl := Option.some.inj hg2
        refine SL.ld ⟨rfl, rfl, rfl, rfl⟩ sc32 rfl (cell_own 5 rfl rfl) ?_
        refine SL.mv ⟨rfl, rfl, rfl, rfl⟩ rfl ?_
        refine SL.iaN hx2 hs1_ ⟨rfl, rfl, rfl, rfl⟩ ty32 sz3 rfl rfl fun be2 of2 hc3 => ?_
        refine SL.ld ⟨rfl, rfl, rfl, rfl⟩ sc3 rfl (cell_kept (j := 0) hc3 rfl) ?_
        refine SL.bin ⟨rfl, rfl, rfl, rfl⟩ rfl rfl Bin.gtI ?_
        refine SL.pk ⟨rfl, rfl, rfl, rfl⟩ rfl rfl ?_
        exact k.mono (by repeat' (first | exact trivial | refine And.intro rfl ?_))
      refine SL.nx ?_
      refine SX.cond rfl (fun hc4 => ?_) (fun hc4 => ?_)
      · skip
        replace h := cT hc4 h
        refine SX.exit ?_
        refine SQ.thnE ?_
        refine SQ.blkE ?_
        exact SQ.rndN ⟨l2, fun suf e => by rw [suf_eq hpre e]; exact h, rfl⟩ (fun _ hw => HpOk.pick (H := [_, _, _, _, _, _]) hw [0, 1, 2, 3, 4, 5] 6 rfl)
      · skip
        replace h := cF hc4 h
        refine SX.skip ?_
        refine SQ.thn ?_
        refine SX.sr ?_
        obtain ⟨x3, hx3, h⟩ := bnd h
        obtain ⟨x4, ex4, h⟩ := retE h
        refine SL.ld ⟨rfl, rfl, rfl, rfl⟩ sc32 rfl (cell_own 5 rfl rfl) ?_
        refine SL.mv ⟨rfl, rfl, rfl, rfl⟩ rfl ?_
        refine SL.iaN hx3 hs1_ ⟨rfl, rfl, rfl, rfl⟩ ty32 sz3 rfl rfl fun be3 of3 hc5 => ?_
        refine SL.ld ⟨rfl, rfl, rfl, rfl⟩ sc3 rfl (cell_kept (j := 0) hc5 rfl) ?_
        refine SL.bin ⟨rfl, rfl, rfl, rfl⟩ rfl rfl Bin.mulW ?_
        refine SL.asgX (u := vI x4) ⟨rfl, rfl, rfl, rfl⟩ rfl (congrArg vI ex4) ?_
        refine SL.nx ?_
        obtain ⟨s1, hs1, h⟩ := bnd h
        obtain ⟨x5, hx5, h⟩ := bnd h
        obtain ⟨s2, hs2, h⟩ := bnd h
        obtain ⟨s3, hs3, h⟩ := bnd h
        obtain ⟨x6, hx6, h⟩ := bnd h
        obtain ⟨l3, hl3, h⟩ := bnd h
        refine SX.drawI mix [0, 1, 2, 4] (Pl.ap [(true, 0), (true, 1), (true, 2), (true, 3), (true, 4), (true, 5), (true, 6), (true, 7), (true, 8), (true, 9), (true, 10), (true, 11), (true, 12), (true, 13), (true, 14), (true, 15), (true, 16), (true, 17), (true, 18), (true, 19), (true, 20), (true, 21), (true, 22), (true, 23)] (.last 24 .nil)) (by kernel_rfl) ?_
        refine SL.ld ⟨rfl, rfl, rfl, rfl⟩ sc25 rfl (cell_own 3 rfl rfl) ?_
        refine SL.nchk ⟨rfl, rfl, rfl, rfl⟩ rfl ?_
        refine SL.fa ⟨rfl, rfl, rfl, rfl⟩ rfl fo72_1 ?_
        refine SL.ld ⟨rfl, rfl, rfl, rfl⟩ sc41 rfl (cell_own 0 rfl rfl) ?_
        refine SL.mv ⟨rfl, rfl, rfl, rfl⟩ rfl ?_
        refine SL.ld ⟨rfl, rfl, rfl, rfl⟩ sc25 rfl (cell_own 3 rfl rfl) ?_
        refine SL.nchk ⟨rfl, rfl, rfl, rfl⟩ rfl ?_
        refine SL.fa ⟨rfl, rfl, rfl, rfl⟩ rfl fo72_2 ?_
        refine SL.ld ⟨rfl, rfl, rfl, rfl⟩ sc67 rfl (cell_own 0 rfl rfl) ?_
        refine SL.mv ⟨rfl, rfl, rfl, rfl⟩ rfl ?_
        refine SL.lkp (zv := []) 2 (MapE.u32S ty22) ⟨rfl, rfl, rfl, rfl⟩ ty67 ze9 rfl rfl rfl ?_
        refine SL.mv ⟨rfl, rfl, rfl, rfl⟩ rfl ?_
        refine SL.slNh hs1 ⟨rfl, rfl, rfl, rfl⟩ ty9 rfl rfl ?_
        refine SL.ld ⟨rfl, rfl, rfl, rfl⟩ sc25 rfl (cell_own 3 rfl rfl) ?_
        refine SL.nchk ⟨rfl, rfl, rfl, rfl⟩ rfl ?_
        refine SL.fa ⟨rfl, rfl, rfl, rfl⟩ rfl fo72_1 ?_
        refine SL.ld ⟨rfl, rfl, rfl, rfl⟩ sc41 rfl (cell_own 0 rfl rfl) ?_
        refine SL.mv ⟨rfl, rfl, rfl, rfl⟩ rfl ?_
        refine SL.iaT 1 hx5 ⟨rfl, rfl, rfl, rfl⟩ ty41 sz9 rfl rfl rfl fun g1 m1 cp1 hv2 => ?_
        refine SL.ld ⟨rfl, rfl, rfl, rfl⟩ sc9 rfl (cell_rowT (sz := 1) (enc := eS) 1 0 (fun _ => rfl) rfl hv2 hx5 rfl) ?_
        refine SL.mv ⟨rfl, rfl, rfl, rfl⟩ rfl ?_
        refine SL.slNl hs2 ⟨rfl, rfl, rfl, rfl⟩ ty9 rfl rfl ?_
        refine SL.bin ⟨rfl, rfl, rfl, rfl⟩ rfl rfl (Bin.catO hs3) ?_
        refine SL.iaT 1 hx6 ⟨rfl, rfl, rfl, rfl⟩ ty41 sz9 rfl rfl rfl fun g2 m2 cp2 hv3 => ?_
        refine SL.last ?_
        refine SL.stTN (sz := 1) (enc := eS) 1 hl3 (fun _ => rfl) ⟨rfl, rfl, rfl⟩ rfl rfl rfl rfl hv3 sz9 (by simp [Value.oneCell']) trivial ?_
        refine SL.nil ?_
        refine SQ.blk ?_
        exact SQ.rndN ⟨l3, fun suf e => by rw [suf_eq hpre e]; exact h, rfl⟩ (fun _ hw => HpOk.pick (H := [_, _, _, _, _, _]) hw [0, 1, 2, 3, 4, 5] 6 rfl)
    · skip
      obtain ⟨l2, h, rfl⟩ := hJ
      replace h : f_device_Device_Wake_j2 p0 l2 = some r := h [] (List.append_nil _).symm
      unfold f_device_Device_Wake_j2 at h
      refine SQ.blk ?_
      exact SQ.midD l2 h (by repeat' (first | exact trivial | refine And.intro rfl ?_)) (fun _ hw => HpOk.pick (H := [_, _, _, _, _, _]) hw [0, 1, 2, 3, 4] 6 rfl)
    · skip
      exact hX.elim
  · skip
    unfold f_device_Device_Wake_j1 at h
    refine SX.re [(0, vP b0_ 0), (2, vP b1 0)] (own b0_ (.cells #[vB p0.off, vB p0.isCut, vI p0.lasts, vI p0.counts, v0x4_, .map (some m0x5_), .map (some m0x6_), vU64 p0.rcnt, vS p0.rtag, vU32 p0.rboots] 72) :: rowT 9 1 v0x4_ eS l1 :: mapC m0x5_ vU32 vS p0.pend :: mapC m0x6_ vU32 vB p0.bad :: own b1 (.cells #[vP b0_ 0] 25) :: H) ?_ (by repeat' (first | exact trivial | refine And.intro rfl ?_))
    refine SX.sr ?_
    refine SL.ld ⟨rfl, rfl, rfl, rfl⟩ sc25 rfl (cell_own 4 rfl rfl) ?_
    refine SL.nchk ⟨rfl, rfl, rfl, rfl⟩ rfl ?_
    refine SL.fa ⟨rfl, rfl, rfl, rfl⟩ rfl fo72_2 ?_
    refine SL.ld ⟨rfl, rfl, rfl, rfl⟩ sc67 rfl (cell_own 0 rfl rfl) ?_
    refine SL.mcl 2 rfl rfl rfl ty67 rfl rfl trivial ?_
    refine SL.nx ?_
    refine SX.seq ?_
    refine SX.drawI mix [0, 4] (Pl.ap [(true, 0), (true, 1), (true, 2), (true, 3), (true, 4), (true, 5), (true, 6), (true, 7), (true, 8)] (.last 9 .nil)) (by kernel_rfl) ?_
    refine SL.ld ⟨rfl, rfl, rfl, rfl⟩ sc25 rfl (cell_own 1 rfl rfl) ?_
    refine SL.ld ⟨rfl, rfl, rfl, rfl⟩ sc25 rfl (cell_own 1 rfl rfl) ?_
    refine SL.nchk ⟨rfl, rfl, rfl, rfl⟩ rfl ?_
    refine SL.fa ⟨rfl, rfl, rfl, rfl⟩ rfl fo72_0 ?_
    refine SL.fa ⟨rfl, rfl, rfl, rfl⟩ rfl fo70_3 ?_
    refine SL.ld ⟨rfl, rfl, rfl, rfl⟩ sc3 rfl (cell_own 0 rfl rfl) ?_
    refine SL.bld [_] ⟨rfl, rfl, rfl, rfl⟩ pl70 pk70 ze70 ⟨rfl, trivial⟩ rfl ?_
    refine SL.nchk ⟨rfl, rfl, rfl, rfl⟩ rfl ?_
    refine SL.fa ⟨rfl, rfl, rfl, rfl⟩ rfl fo72_0 ?_
    refine SL.last ?_
    refine SL.st 0 ⟨rfl, rfl, rfl⟩ rfl rfl rfl sz70 rfl rfl rfl trivial ?_
    refine SL.nx ?_
    refine SX.sr ?_
    refine SL.asg ⟨rfl, rfl, rfl, rfl⟩ rfl ?_
    refine SL.nx ?_
    refine SX.ret ?_
    refine SQ.scpR ?_
    obtain rfl := Option.some.inj h
    exact SQ.fret (res1 rfl rfl) (ret_of (M := [_, _, _, _]) ⟨rfl, rfl⟩ fun _ hw => HpOk.pick (H := [_, _, _, _, _]) hw [0, 1, 2, 3] 5 rfl)


end Go.Proofs.Ytmnmepaopodblaa

/- Plain functions of the references and the laws, printed from the loaded program, and the walks that show that the program computes them. Condition: the plain function yields. -/
namespace Go.Proofs.Ytmnmepaopodblaa
open Go
variable {K : Nat → Prop} {w0 : World} {H : List Chunk}

def f_law07_shown : Option Bool :=
  (f_device_New 4).bind fun y1 =>
  (y1.1).bind fun d1 =>
  (f_ref07_Filled [97, 98]).bind fun y2 =>
  (f_device_Device_Write d1 1 y2).bind fun y3 =>
  (f_device_Device_Cut y3.2 0).bind fun y4 =>
  (f_device_Device_Flush y4).bind fun y5 =>
  (f_device_Device_Read y5.2 1).bind fun y6 =>
  (f_device_Device_Wake y5.2 [2]).bind fun y7 =>
  (f_device_Device_Read y7.2 1).bind fun y8 =>
  (andO (((((((decide (y1.2 = 0)) && (decide (y3.1 = 0))) && (decide (y5.1 = 71))) && (decide (y6.2 = 71))) && (decide (y7.1 = 0))) && (decide (y8.2 = 0))) && (decide ((y8.1.length : Int) = 256))) ((slcI y8.1 0 2).bind fun s1 => some (decide (s1 = [97, 98])))).bind fun y9 =>
  some y9
set_option maxRecDepth 100000 in
theorem c_law07_shown  {r : Bool} (h : f_law07_shown = some r)  : Con Try.prog K w0 10 [] [] H (fun u M => u = vB r ∧ M = []) := by
  unfold f_law07_shown at h
  refine Con.enter Try.func10 rfl rfl ?_
  refine SX.sr ?_
  refine SL.asg ⟨rfl, rfl, rfl, rfl⟩ rfl ?_
  refine SL.nx ?_
  refine SX.sr ?_
  obtain ⟨y1, hy1, h⟩ := bnd h
  obtain ⟨d1, hd1, h⟩ := bnd h
  refine SL.call (vs := [_]) (Hin := []) (Hr := _) ⟨rfl, rfl, rfl, rfl⟩ rfl ⟨rfl, trivial⟩ cal11 rfl rfl (c_device_New hy1) ?_
  rintro _ _ (⟨hn, -, -⟩ | ⟨d_, b1, v1, m1, m2, hn, rfl, rfl⟩)
  · rw [hd1] at hn; cases hn
  obtain rfl : d1 = d_ := Option.some.inj (hd1.symm.trans hn)
  refine ⟨trivial, ?_⟩
  refine SL.mv ⟨rfl, rfl, rfl, rfl⟩ rfl ?_
  refine SL.ext ⟨rfl, rfl, rfl, rfl⟩ rfl rfl ?_
  refine SL.ext ⟨rfl, rfl, rfl, rfl⟩ rfl rfl ?_
  refine SL.asg ⟨rfl, rfl, rfl, rfl⟩ rfl ?_
  refine SL.asg ⟨rfl, rfl, rfl, rfl⟩ rfl ?_
  refine SL.nx ?_
  refine SX.sr ?_
  obtain ⟨y2, hy2, h⟩ := bnd h
  obtain ⟨y3, hy3, h⟩ := bnd h
  refine SL.mv ⟨rfl, rfl, rfl, rfl⟩ rfl ?_
  refine SL.call (vs := [_]) (Hin := []) (Hr := _ :: _ :: _ :: _ :: _) ⟨rfl, rfl, rfl, rfl⟩ rfl ⟨rfl, trivial⟩ cal12 rfl rfl (c_ref07_Filled hy2) ?_
  rintro _ _ ⟨rfl, rfl⟩
  refine ⟨trivial, ?_⟩
  refine SL.call (vs := [_, vU32 1, _]) (Hin := [_, _, _, _]) (Hr := _) ⟨rfl, rfl, rfl, rfl⟩ rfl ⟨rfl, rfl, rfl, trivial⟩ cal13 rfl rfl (c_device_Device_Write hy3) ?_
  rintro _ _ ⟨rfl, rfl⟩
  refine ⟨trivial, ?_⟩
  refine SL.asg ⟨rfl, rfl, rfl, rfl⟩ rfl ?_
  refine SL.nx ?_
  refine SX.sr ?_
  obtain ⟨y4, hy4, h⟩ := bnd h
  refine SL.mv ⟨rfl, rfl, rfl, rfl⟩ rfl ?_
  refine SL.call (vs := [_, _]) (Hin := [_, _, _, _]) (Hr := _) ⟨rfl, rfl, rfl, rfl⟩ rfl ⟨rfl, rfl, trivial⟩ cal15 rfl rfl (c_device_Device_Cut hy4) ?_
  rintro _ _ ⟨rfl, rfl⟩
  refine ⟨trivial, ?_⟩
  refine SL.nx ?_
  refine SX.sr ?_
  obtain ⟨y5, hy5, h⟩ := bnd h
  refine SL.mv ⟨rfl, rfl, rfl, rfl⟩ rfl ?_
  refine SL.call (vs := [_]) (Hin := [_, _, _, _]) (Hr := _) ⟨rfl, rfl, rfl, rfl⟩ rfl ⟨rfl, trivial⟩ cal14 rfl rfl (c_device_Device_Flush hy5) ?_
  rintro _ _ ⟨rfl, rfl⟩
  refine ⟨trivial, ?_⟩
  refine SL.asg ⟨rfl, rfl, rfl, rfl⟩ rfl ?_
  refine SL.nx ?_
  refine SX.sr ?_
  obtain ⟨y6, hy6, h⟩ := bnd h
  refine SL.mv ⟨rfl, rfl, rfl, rfl⟩ rfl ?_
  refine SL.call (vs := [_, vU32 1]) (Hin := [_, _, _, _]) (Hr := _) ⟨rfl, rfl, rfl, rfl⟩ rfl ⟨rfl, rfl, trivial⟩ cal17 rfl rfl (c_device_Device_Read hy6) ?_
  rintro _ _ ⟨rfl, rfl⟩
  refine ⟨trivial, ?_⟩
  refine SL.mv ⟨rfl, rfl, rfl, rfl⟩ rfl ?_
  refine SL.ext ⟨rfl, rfl, rfl, rfl⟩ rfl rfl ?_
  refine SL.ext ⟨rfl, rfl, rfl, rfl⟩ rfl rfl ?_
  refine SL.asg ⟨rfl, rfl, rfl, rfl⟩ rfl ?_
  refine SL.asg ⟨rfl, rfl, rfl, rfl⟩ rfl ?_
  refine SL.nx ?_
  refine SX.sr ?_
  obtain ⟨y7, hy7, h⟩ := bnd h
  refine SL.mv ⟨rfl, rfl, rfl, rfl⟩ rfl ?_
  refine SL.bsl [_] ⟨rfl, rfl, rfl, rfl⟩ ty32 sz3 ze3 ⟨rfl, trivial⟩ rfl rfl rfl (by simp [Value.cells]) rfl rfl (fun _ => trivial) fun b2 => ?_
  refine SL.ownT eI 1 ([2] : List Int) rfl (fun _ => rfl) rfl ?_
  refine SL.call (vs := [_, _]) (Hin := [_, _, _, _, _]) (Hr := _) ⟨rfl, rfl, rfl, rfl⟩ rfl ⟨rfl, rfl, trivial⟩ cal16 rfl rfl (Con.lend (B := [_]) (Hin := [_, _, _, _]) fun K' w1 hk hB => c_device_Device_Wake hy7 (SlOf.lentT (e := 3) (fun _ => rfl) (hB _ (by simp)))) ?_
  rintro _ _ ⟨_, rfl, rfl, rfl⟩
  refine ⟨trivial, ?_⟩
  refine SL.asg ⟨rfl, rfl, rfl, rfl⟩ rfl ?_
  refine SL.nx ?_
  refine SX.sr ?_
  obtain ⟨y8, hy8, h⟩ := bnd h
  refine SL.mv ⟨rfl, rfl, rfl, rfl⟩ rfl ?_
  refine SL.pick [1, 2, 3, 4, 0] 5 ?_
  refine SL.call (vs := [_, vU32 1]) (Hin := [_, _, _, _]) (Hr := _ :: _) ⟨rfl, rfl, rfl, rfl⟩ rfl ⟨rfl, rfl, trivial⟩ cal17 rfl rfl (c_device_Device_Read hy8) ?_
  rintro _ _ ⟨rfl, rfl⟩
  refine ⟨trivial, ?_⟩
  refine SL.mv ⟨rfl, rfl, rfl, rfl⟩ rfl ?_
  refine SL.ext ⟨rfl, rfl, rfl, rfl⟩ rfl rfl ?_
  refine SL.ext ⟨rfl, rfl, rfl, rfl⟩ rfl rfl ?_
  refine SL.asg ⟨rfl, rfl, rfl, rfl⟩ rfl ?_
  refine SL.asg ⟨rfl, rfl, rfl, rfl⟩ rfl ?_
  refine SL.nx ?_
  refine SX.sr ?_
  obtain ⟨y9, hy9, h⟩ := bnd h
  refine SL.mv ⟨rfl, rfl, rfl, rfl⟩ rfl ?_
  refine SL.bin ⟨rfl, rfl, rfl, rfl⟩ rfl rfl Bin.eqI ?_
  refine SL.mv ⟨rfl, rfl, rfl, rfl⟩ rfl ?_
  refine SL.and (c := decide (y3.1 = 0)) 36 3 39 rfl (fun hb k => ?_) (fun hb k => ?_) ?_
  · skip
    refine SL.mv ⟨rfl, rfl, rfl, rfl⟩ rfl ?_
    refine SL.bin ⟨rfl, rfl, rfl, rfl⟩ rfl rfl Bin.eqI ?_
    refine SL.pk ⟨rfl, rfl, rfl, rfl⟩ rfl rfl ?_
    exact k.mono (by repeat' (first | exact trivial | refine And.intro rfl ?_))
  · skip
    refine SL.pass rfl rfl rfl ?_
    refine SL.pass rfl rfl rfl ?_
    refine SL.pk ⟨rfl, rfl, rfl, rfl⟩ rfl rfl ?_
    exact k.mono (by repeat' (first | exact trivial | refine And.intro rfl ?_))
  refine SL.mv ⟨rfl, rfl, rfl, rfl⟩ rfl ?_
  refine SL.and (c := decide (y5.1 = 71)) 40 3 43 rfl (fun hb k => ?_) (fun hb k => ?_) ?_
  · skip
    refine SL.mv ⟨rfl, rfl, rfl, rfl⟩ rfl ?_
    refine SL.bin ⟨rfl, rfl, rfl, rfl⟩ rfl rfl Bin.eqI ?_
    refine SL.pk ⟨rfl, rfl, rfl, rfl⟩ rfl rfl ?_
    exact k.mono (by repeat' (first | exact trivial | refine And.intro rfl ?_))
  · skip
    refine SL.pass rfl rfl rfl ?_
    refine SL.pass rfl rfl rfl ?_
    refine SL.pk ⟨rfl, rfl, rfl, rfl⟩ rfl rfl ?_
    exact k.mono (by repeat' (first | exact trivial | refine And.intro rfl ?_))
  refine SL.mv ⟨rfl, rfl, rfl, rfl⟩ rfl ?_
  refine SL.and (c := decide (y6.2 = 71)) 44 3 47 rfl (fun hb k => ?_) (fun hb k => ?_) ?_
  · skip
    refine SL.mv ⟨rfl, rfl, rfl, rfl⟩ rfl ?_
    refine SL.bin ⟨rfl, rfl, rfl, rfl⟩ rfl rfl Bin.eqI ?_
    refine SL.pk ⟨rfl, rfl, rfl, rfl⟩ rfl rfl ?_
    exact k.mono (by repeat' (first | exact trivial | refine And.intro rfl ?_))
  · skip
    refine SL.pass rfl rfl rfl ?_
    refine SL.pass rfl rfl rfl ?_
    refine SL.pk ⟨rfl, rfl, rfl, rfl⟩ rfl rfl ?_
    exact k.mono (by repeat' (first | exact trivial | refine And.intro rfl ?_))
  refine SL.mv ⟨rfl, rfl, rfl, rfl⟩ rfl ?_
  refine SL.and (c := decide (y7.1 = 0)) 48 3 51 rfl (fun hb k => ?_) (fun hb k => ?_) ?_
  · skip
    refine SL.mv ⟨rfl, rfl, rfl, rfl⟩ rfl ?_
    refine SL.bin ⟨rfl, rfl, rfl, rfl⟩ rfl rfl Bin.eqI ?_
    refine SL.pk ⟨rfl, rfl, rfl, rfl⟩ rfl rfl ?_
    exact k.mono (by repeat' (first | exact trivial | refine And.intro rfl ?_))
  · skip
    refine SL.pass rfl rfl rfl ?_
    refine SL.pass rfl rfl rfl ?_
    refine SL.pk ⟨rfl, rfl, rfl, rfl⟩ rfl rfl ?_
    exact k.mono (by repeat' (first | exact trivial | refine And.intro rfl ?_))
  refine SL.mv ⟨rfl, rfl, rfl, rfl⟩ rfl ?_
  refine SL.and (c := decide (y8.2 = 0)) 52 3 55 rfl (fun hb k => ?_) (fun hb k => ?_) ?_
  · skip
    refine SL.mv ⟨rfl, rfl, rfl, rfl⟩ rfl ?_
    refine SL.bin ⟨rfl, rfl, rfl, rfl⟩ rfl rfl Bin.eqI ?_
    refine SL.pk ⟨rfl, rfl, rfl, rfl⟩ rfl rfl ?_
    exact k.mono (by repeat' (first | exact trivial | refine And.intro rfl ?_))
  · skip
    refine SL.pass rfl rfl rfl ?_
    refine SL.pass rfl rfl rfl ?_
    refine SL.pk ⟨rfl, rfl, rfl, rfl⟩ rfl rfl ?_
    exact k.mono (by repeat' (first | exact trivial | refine And.intro rfl ?_))
  refine SL.mv ⟨rfl, rfl, rfl, rfl⟩ rfl ?_
  refine SL.and (c := decide ((y8.1.length : Int) = 256)) 56 4 60 rfl (fun hb k => ?_) (fun hb k => ?_) ?_
  · skip
    refine SL.mv ⟨rfl, rfl, rfl, rfl⟩ rfl ?_
    refine SL.lenS ⟨rfl, rfl, rfl, rfl⟩ ty9 rfl ?_
    refine SL.bin ⟨rfl, rfl, rfl, rfl⟩ rfl rfl Bin.eqI ?_
    refine SL.pk ⟨rfl, rfl, rfl, rfl⟩ rfl rfl ?_
    exact k.mono (by repeat' (first | exact trivial | refine And.intro rfl ?_))
  · skip
    refine SL.pass rfl rfl rfl ?_
    refine SL.pass rfl rfl rfl ?_
    refine SL.pass rfl rfl rfl ?_
    refine SL.pk ⟨rfl, rfl, rfl, rfl⟩ rfl rfl ?_
    exact k.mono (by repeat' (first | exact trivial | refine And.intro rfl ?_))
  refine SL.mv ⟨rfl, rfl, rfl, rfl⟩ rfl ?_
  refine SL.andN 61 4 65 hy9 rfl (fun hb hg7 k => ?_) (fun hb k => ?_) ?_
  · skip
    obtain ⟨s1, hs1, hg7⟩ := bnd hg7
    obtain rfl := Option.some.inj hg7
    refine SL.mv ⟨rfl, rfl, rfl, rfl⟩ rfl ?_
    refine SL.slNh hs1 ⟨rfl, rfl, rfl, rfl⟩ ty9 rfl rfl ?_
    refine SL.bin ⟨rfl, rfl, rfl, rfl⟩ rfl rfl Bin.eqS ?_
    refine SL.pk ⟨rfl, rfl, rfl, rfl⟩ rfl rfl ?_
    exact k.mono (by repeat' (first | exact trivial | refine And.intro rfl ?_))
  · skip
    refine SL.pass rfl rfl rfl ?_
    refine SL.pass rfl rfl rfl ?_
    refine SL.pass rfl rfl rfl ?_
    refine SL.pk ⟨rfl, rfl, rfl, rfl⟩ rfl rfl ?_
    exact k.mono (by repeat' (first | exact trivial | refine And.intro rfl ?_))
  refine SL.asg ⟨rfl, rfl, rfl, rfl⟩ rfl ?_
  refine SL.nx ?_
  refine SX.ret ?_
  obtain rfl := Option.some.inj h
  exact SQ.fret (res1 rfl rfl) (ret_of (M := []) ⟨rfl, rfl⟩ fun _ hw => HpOk.pick (H := [_, _, _, _, _]) hw [] 5 rfl)

def f_device_Device_Read_nil (p1 : UInt32) : Option (List UInt8 × Int) :=
  some ([], 1)
set_option maxRecDepth 100000 in
theorem c_device_Device_Read_nil {p1 : UInt32} {r : List UInt8 × Int} (h : f_device_Device_Read_nil p1 = some r)  : Con Try.prog K w0 17 [.pointer none, vU32 p1] [] H (fun u M => u = .tuple #[vS r.1, vI r.2] ∧ M = []) := by
  unfold f_device_Device_Read_nil at h
  refine Con.enter Try.func17 rfl rfl ?_
  refine SX.sr ?_
  refine SL.asg ⟨rfl, rfl, rfl, rfl⟩ rfl ?_
  refine SL.asg ⟨rfl, rfl, rfl, rfl⟩ rfl ?_
  refine SL.nx ?_
  refine SX.seq ?_
  refine SX.block ?_
  refine SX.sr ?_
  refine SL.mv ⟨rfl, rfl, rfl, rfl⟩ rfl ?_
  refine SL.eqPN ⟨rfl, rfl, rfl, rfl⟩ ty25 rfl rfl ?_
  refine SL.asg ⟨rfl, rfl, rfl, rfl⟩ rfl ?_
  refine SL.nx ?_
  refine SX.condT rfl ?_
  refine SX.sr ?_
  refine SL.asg ⟨rfl, rfl, rfl, rfl⟩ rfl ?_
  refine SL.asg ⟨rfl, rfl, rfl, rfl⟩ rfl ?_
  refine SL.nx ?_
  refine SX.ret ?_
  refine SQ.blkR ?_
  refine SQ.thnR ?_
  obtain rfl := Option.some.inj h
  exact SQ.fret (res2 rfl rfl rfl) (ret_of (M := []) ⟨rfl, rfl⟩ fun _ hw => HpOk.pick (H := []) hw [] 0 rfl)

def f_device_Device_Write_nil (p1 : UInt32) (p2 : List UInt8) : Option Int :=
  some 1
set_option maxRecDepth 100000 in
theorem c_device_Device_Write_nil {p1 : UInt32} {p2 : List UInt8} {r : Int} (h : f_device_Device_Write_nil p1 p2 = some r)  : Con Try.prog K w0 13 [.pointer none, vU32 p1, vS p2] [] H (fun u M => u = vI r ∧ M = []) := by
  unfold f_device_Device_Write_nil at h
  refine Con.enter Try.func13 rfl rfl ?_
  refine SX.sr ?_
  refine SL.asg ⟨rfl, rfl, rfl, rfl⟩ rfl ?_
  refine SL.nx ?_
  refine SX.seq ?_
  refine SX.block ?_
  refine SX.sr ?_
  refine SL.mv ⟨rfl, rfl, rfl, rfl⟩ rfl ?_
  refine SL.eqPN ⟨rfl, rfl, rfl, rfl⟩ ty25 rfl rfl ?_
  refine SL.asg ⟨rfl, rfl, rfl, rfl⟩ rfl ?_
  refine SL.nx ?_
  refine SX.condT rfl ?_
  refine SX.sr ?_
  refine SL.asg ⟨rfl, rfl, rfl, rfl⟩ rfl ?_
  refine SL.nx ?_
  refine SX.ret ?_
  refine SQ.blkR ?_
  refine SQ.thnR ?_
  obtain rfl := Option.some.inj h
  exact SQ.fret (res1 rfl rfl) (ret_of (M := []) ⟨rfl, rfl⟩ fun _ hw => HpOk.pick (H := []) hw [] 0 rfl)

def f_device_Device_Flush_nil : Option Int :=
  some 1
set_option maxRecDepth 100000 in
theorem c_device_Device_Flush_nil  {r : Int} (h : f_device_Device_Flush_nil = some r)  : Con Try.prog K w0 14 [.pointer none] [] H (fun u M => u = vI r ∧ M = []) := by
  unfold f_device_Device_Flush_nil at h
  refine Con.enter Try.func14 rfl rfl ?_
  refine SX.sr ?_
  refine SL.box ⟨rfl, rfl, rfl, rfl⟩ rfl (fun _ => trivial) fun b1 => ?_
  refine SL.asg ⟨rfl, rfl, rfl, rfl⟩ rfl ?_
  refine SL.nx ?_
  refine SX.seq ?_
  refine SX.sr ?_
  refine SL.ld ⟨rfl, rfl, rfl, rfl⟩ sc25 rfl (cell_own 0 rfl rfl) ?_
  refine SL.eqPN ⟨rfl, rfl, rfl, rfl⟩ ty25 rfl rfl ?_
  refine SL.nx ?_
  refine SX.condT rfl ?_
  refine SX.sr ?_
  refine SL.asg ⟨rfl, rfl, rfl, rfl⟩ rfl ?_
  refine SL.nx ?_
  refine SX.ret ?_
  refine SQ.thnR ?_
  obtain rfl := Option.some.inj h
  exact SQ.fret (res1 rfl rfl) (ret_of (M := []) ⟨rfl, rfl⟩ fun _ hw => HpOk.pick (H := [_]) hw [] 1 rfl)

def f_device_Device_Cut_nil (p1 : Int) : Option Unit :=
  some ()
set_option maxRecDepth 100000 in
theorem c_device_Device_Cut_nil {p1 : Int} {r : Unit} (h : f_device_Device_Cut_nil p1 = some r)  : Con Try.prog K w0 15 [.pointer none, vI p1] [] H (fun u M => u = .tuple #[] ∧ M = []) := by
  unfold f_device_Device_Cut_nil at h
  refine Con.enter Try.func15 rfl rfl ?_
  refine SX.sr ?_
  refine SL.mv ⟨rfl, rfl, rfl, rfl⟩ rfl ?_
  refine SL.nePN ⟨rfl, rfl, rfl, rfl⟩ ty25 rfl rfl ?_
  refine SL.nx ?_
  refine SX.condF rfl ?_
  refine SX.skip ?_
  obtain rfl := Option.some.inj h
  exact SQ.fend (res0 rfl) (ret_of (M := []) ⟨rfl, rfl⟩ fun _ hw => HpOk.pick (H := []) hw [] 0 rfl)

def f_device_Device_Wake_nil (p1 : List Int) : Option Int :=
  some 1
set_option maxRecDepth 100000 in
theorem c_device_Device_Wake_nil {v1_ : Value} {p1 : List Int} {r : Int} (h : f_device_Device_Wake_nil p1 = some r) (hs1_ : SlOf K w0 eI 1 v1_ p1) : Con Try.prog K w0 16 [.pointer none, v1_] [] H (fun u M => u = vI r ∧ M = []) := by
  unfold f_device_Device_Wake_nil at h
  refine Con.enter Try.func16 rfl rfl ?_
  refine SX.sr ?_
  refine SL.box ⟨rfl, rfl, rfl, rfl⟩ rfl (fun _ => trivial) fun b1 => ?_
  refine SL.slV1 hs1_ fun hv1 ho1 => ?_
  refine SL.boxR hv1 ⟨rfl, rfl, rfl, rfl⟩ rfl (fun _ => trivial) fun b2 => ?_
  refine SL.asg ⟨rfl, rfl, rfl, rfl⟩ rfl ?_
  refine SL.nx ?_
  refine SX.scope ?_
  refine SX.seq ?_
  refine SX.sr ?_
  refine SL.ld ⟨rfl, rfl, rfl, rfl⟩ sc25 rfl (cell_own 1 rfl rfl) ?_
  refine SL.eqPN ⟨rfl, rfl, rfl, rfl⟩ ty25 rfl rfl ?_
  refine SL.nx ?_
  refine SX.condT rfl ?_
  refine SX.sr ?_
  refine SL.asg ⟨rfl, rfl, rfl, rfl⟩ rfl ?_
  refine SL.nx ?_
  refine SX.ret ?_
  refine SQ.thnR ?_
  refine SQ.scpR ?_
  obtain rfl := Option.some.inj h
  exact SQ.fret (res1 rfl rfl) (ret_of (M := []) ⟨rfl, rfl⟩ fun _ hw => HpOk.pick (H := [_, _]) hw [] 2 rfl)

def f_device_Device_Put_nil (p1 : UInt32) (p2 : List UInt8) : Option Int :=
  some 1
set_option maxRecDepth 100000 in
theorem c_device_Device_Put_nil {p1 : UInt32} {p2 : List UInt8} {r : Int} (h : f_device_Device_Put_nil p1 p2 = some r)  : Con Try.prog K w0 18 [.pointer none, vU32 p1, vS p2] [] H (fun u M => u = vI r ∧ M = []) := by
  unfold f_device_Device_Put_nil at h
  refine Con.enter Try.func18 rfl rfl ?_
  refine SX.sr ?_
  refine SL.asg ⟨rfl, rfl, rfl, rfl⟩ rfl ?_
  refine SL.nx ?_
  refine SX.seq ?_
  refine SX.block ?_
  refine SX.sr ?_
  refine SL.mv ⟨rfl, rfl, rfl, rfl⟩ rfl ?_
  refine SL.eqPN ⟨rfl, rfl, rfl, rfl⟩ ty25 rfl rfl ?_
  refine SL.asg ⟨rfl, rfl, rfl, rfl⟩ rfl ?_
  refine SL.nx ?_
  refine SX.condT rfl ?_
  refine SX.sr ?_
  refine SL.asg ⟨rfl, rfl, rfl, rfl⟩ rfl ?_
  refine SL.nx ?_
  refine SX.ret ?_
  refine SQ.blkR ?_
  refine SQ.thnR ?_
  obtain rfl := Option.some.inj h
  exact SQ.fret (res1 rfl rfl) (ret_of (M := []) ⟨rfl, rfl⟩ fun _ hw => HpOk.pick (H := []) hw [] 0 rfl)

def f_device_Device_Bad_nil (p1 : UInt32) (p2 : Bool) : Option Int :=
  some 1
set_option maxRecDepth 100000 in
theorem c_device_Device_Bad_nil {p1 : UInt32} {p2 : Bool} {r : Int} (h : f_device_Device_Bad_nil p1 p2 = some r)  : Con Try.prog K w0 19 [.pointer none, vU32 p1, vB p2] [] H (fun u M => u = vI r ∧ M = []) := by
  unfold f_device_Device_Bad_nil at h
  refine Con.enter Try.func19 rfl rfl ?_
  refine SX.sr ?_
  refine SL.asg ⟨rfl, rfl, rfl, rfl⟩ rfl ?_
  refine SL.nx ?_
  refine SX.seq ?_
  refine SX.block ?_
  refine SX.sr ?_
  refine SL.mv ⟨rfl, rfl, rfl, rfl⟩ rfl ?_
  refine SL.eqPN ⟨rfl, rfl, rfl, rfl⟩ ty25 rfl rfl ?_
  refine SL.asg ⟨rfl, rfl, rfl, rfl⟩ rfl ?_
  refine SL.nx ?_
  refine SX.condT rfl ?_
  refine SX.sr ?_
  refine SL.asg ⟨rfl, rfl, rfl, rfl⟩ rfl ?_
  refine SL.nx ?_
  refine SX.ret ?_
  refine SQ.blkR ?_
  refine SQ.thnR ?_
  obtain rfl := Option.some.inj h
  exact SQ.fret (res1 rfl rfl) (ret_of (M := []) ⟨rfl, rfl⟩ fun _ hw => HpOk.pick (H := []) hw [] 0 rfl)

def f_device_Device_Start_nil : Option (UInt32 × Int) :=
  some (0, 1)
set_option maxRecDepth 100000 in
theorem c_device_Device_Start_nil  {r : UInt32 × Int} (h : f_device_Device_Start_nil = some r)  : Con Try.prog K w0 21 [.pointer none] [] H (fun u M => u = .tuple #[vU32 r.1, vI r.2] ∧ M = []) := by
  unfold f_device_Device_Start_nil at h
  refine Con.enter Try.func21 rfl rfl ?_
  refine SX.sr ?_
  refine SL.asg ⟨rfl, rfl, rfl, rfl⟩ rfl ?_
  refine SL.asg ⟨rfl, rfl, rfl, rfl⟩ rfl ?_
  refine SL.nx ?_
  refine SX.seq ?_
  refine SX.block ?_
  refine SX.sr ?_
  refine SL.mv ⟨rfl, rfl, rfl, rfl⟩ rfl ?_
  refine SL.eqPN ⟨rfl, rfl, rfl, rfl⟩ ty25 rfl rfl ?_
  refine SL.asg ⟨rfl, rfl, rfl, rfl⟩ rfl ?_
  refine SL.nx ?_
  refine SX.condT rfl ?_
  refine SX.sr ?_
  refine SL.asg ⟨rfl, rfl, rfl, rfl⟩ rfl ?_
  refine SL.asg ⟨rfl, rfl, rfl, rfl⟩ rfl ?_
  refine SL.nx ?_
  refine SX.ret ?_
  refine SQ.blkR ?_
  refine SQ.thnR ?_
  obtain rfl := Option.some.inj h
  exact SQ.fret (res2 rfl rfl rfl) (ret_of (M := []) ⟨rfl, rfl⟩ fun _ hw => HpOk.pick (H := []) hw [] 0 rfl)

def f_device_Device_Advance_nil (p1 : List UInt8) : Option Int :=
  some 1
set_option maxRecDepth 100000 in
theorem c_device_Device_Advance_nil {p1 : List UInt8} {r : Int} (h : f_device_Device_Advance_nil p1 = some r)  : Con Try.prog K w0 22 [.pointer none, vS p1] [] H (fun u M => u = vI r ∧ M = []) := by
  unfold f_device_Device_Advance_nil at h
  refine Con.enter Try.func22 rfl rfl ?_
  refine SX.sr ?_
  refine SL.asg ⟨rfl, rfl, rfl, rfl⟩ rfl ?_
  refine SL.nx ?_
  refine SX.seq ?_
  refine SX.block ?_
  refine SX.sr ?_
  refine SL.mv ⟨rfl, rfl, rfl, rfl⟩ rfl ?_
  refine SL.eqPN ⟨rfl, rfl, rfl, rfl⟩ ty25 rfl rfl ?_
  refine SL.asg ⟨rfl, rfl, rfl, rfl⟩ rfl ?_
  refine SL.nx ?_
  refine SX.condT rfl ?_
  refine SX.sr ?_
  refine SL.asg ⟨rfl, rfl, rfl, rfl⟩ rfl ?_
  refine SL.nx ?_
  refine SX.ret ?_
  refine SQ.blkR ?_
  refine SQ.thnR ?_
  obtain rfl := Option.some.inj h
  exact SQ.fret (res1 rfl rfl) (ret_of (M := []) ⟨rfl, rfl⟩ fun _ hw => HpOk.pick (H := []) hw [] 0 rfl)

def f_device_Device_Register_nil : Option RegA :=
  some (⟨0, [], 0⟩ : RegA)
set_option maxRecDepth 100000 in
theorem c_device_Device_Register_nil  {r : RegA} (h : f_device_Device_Register_nil = some r)  : Con Try.prog K w0 23 [.pointer none] [] H (fun u M => u = .agg (encReg r).toArray ∧ M = []) := by
  unfold f_device_Device_Register_nil at h
  refine Con.enter Try.func23 rfl rfl ?_
  refine SX.sr ?_
  refine SL.alloc ⟨rfl, rfl, rfl, rfl⟩ ze52 (fun _ => trivial) fun b1 => ?_
  refine SL.nx ?_
  refine SX.seq ?_
  refine SX.sr ?_
  refine SL.mv ⟨rfl, rfl, rfl, rfl⟩ rfl ?_
  refine SL.eqPN ⟨rfl, rfl, rfl, rfl⟩ ty25 rfl rfl ?_
  refine SL.nx ?_
  refine SX.condT rfl ?_
  refine SX.sr ?_
  refine SL.bld [] ⟨rfl, rfl, rfl, rfl⟩ pl52 pk52 ze52 trivial rfl ?_
  refine SL.st 0 ⟨rfl, rfl, rfl⟩ rfl rfl rfl sz52 rfl rfl rfl trivial ?_
  refine SL.nx ?_
  refine SX.ret ?_
  refine SQ.thnR ?_
  obtain rfl := Option.some.inj h
  exact SQ.fret (resv1 rfl (resv.ag 0 (encReg (⟨0, [], 0⟩ : RegA)) ag52 rfl rfl rfl rfl)) (ret_of (M := []) ⟨rfl, rfl⟩ fun _ hw => HpOk.pick (H := [_]) hw [] 1 rfl)

def f_device_Device_Image_nil : Option (List (List UInt8)) :=
  some []
set_option maxRecDepth 100000 in
theorem c_device_Device_Image_nil  {r : List (List UInt8)} (h : f_device_Device_Image_nil = some r)  : Con Try.prog K w0 27 [.pointer none] [] H (fun u M => ∃ v0 : Value, u = v0 ∧ M = [rowT 9 1 v0 eS r]) := by
  unfold f_device_Device_Image_nil at h
  refine Con.enter Try.func27 rfl rfl ?_
  refine SX.sr ?_
  refine SL.nilT 9 1 eS ?_
  refine SL.asg ⟨rfl, rfl, rfl, rfl⟩ rfl ?_
  refine SL.nx ?_
  refine SX.seq ?_
  refine SX.sr ?_
  refine SL.mv ⟨rfl, rfl, rfl, rfl⟩ rfl ?_
  refine SL.eqPN ⟨rfl, rfl, rfl, rfl⟩ ty25 rfl rfl ?_
  refine SL.nx ?_
  refine SX.condT rfl ?_
  refine SX.sr ?_
  refine SL.nilT 9 1 eS ?_
  refine SL.asg ⟨rfl, rfl, rfl, rfl⟩ rfl ?_
  refine SL.nx ?_
  refine SX.ret ?_
  refine SQ.thnR ?_
  obtain rfl := Option.some.inj h
  exact SQ.fret (res1 rfl rfl) (ret_of (M := [_]) ⟨(.slice none 0 0), rfl, rfl⟩ fun _ hw => HpOk.pick (H := [_, _]) hw [0] 2 rfl)

def f_device_Device_Blocks_nil : Option Int :=
  some 0
set_option maxRecDepth 100000 in
theorem c_device_Device_Blocks_nil  {r : Int} (h : f_device_Device_Blocks_nil = some r)  : Con Try.prog K w0 29 [.pointer none] [] H (fun u M => u = vI r ∧ M = []) := by
  unfold f_device_Device_Blocks_nil at h
  refine Con.enter Try.func29 rfl rfl ?_
  refine SX.sr ?_
  refine SL.asg ⟨rfl, rfl, rfl, rfl⟩ rfl ?_
  refine SL.nx ?_
  refine SX.seq ?_
  refine SX.sr ?_
  refine SL.mv ⟨rfl, rfl, rfl, rfl⟩ rfl ?_
  refine SL.eqPN ⟨rfl, rfl, rfl, rfl⟩ ty25 rfl rfl ?_
  refine SL.nx ?_
  refine SX.condT rfl ?_
  refine SX.sr ?_
  refine SL.asg ⟨rfl, rfl, rfl, rfl⟩ rfl ?_
  refine SL.nx ?_
  refine SX.ret ?_
  refine SQ.thnR ?_
  obtain rfl := Option.some.inj h
  exact SQ.fret (res1 rfl rfl) (ret_of (M := []) ⟨rfl, rfl⟩ fun _ hw => HpOk.pick (H := []) hw [] 0 rfl)


end Go.Proofs.Ytmnmepaopodblaa

/- Plain functions of the references and the laws, printed from the loaded program, and the walks that show that the program computes them. Condition: the plain function yields. -/
namespace Go.Proofs.Ytmnmepaopodblaa
open Go
variable {K : Nat → Prop} {w0 : World} {H : List Chunk}

def f_law07_DeviceCuts_j1 (p0 : Int) (p1 : List (List UInt8)) (y1 : Bool) (y2 : Option DevA × Int) (y4 : Bool) (y5 : Bool) (y6 : Int) (y7 : Int) (l1 : List (List UInt8)) (l2 : List (UInt32 × List UInt8)) (l3 : List (UInt32 × Bool)) (y8 : UInt64) (y9 : List UInt8) (y10 : UInt32) (a1 : Int) : Option Bool :=
  (f_device_Device_Read ({ off := y4, isCut := y5, lasts := y6, counts := y7, blocks := l1, pend := l2, bad := l3, rcnt := y8, rtag := y9, rboots := y10 } : DevA) 0).bind fun y27 =>
  ret (((y1 && (decide (y2.2 = 0))) && (decide (a1 = min p0 (min (p1.length : Int) 30)))) && ((decide (y27.2 = 71)) == (decide (p0 < min (p1.length : Int) 30)))) fun x4 =>
  some x4
def f_law07_DeviceCuts_j2 (a3 : Int) (nx_f_law07_DeviceCuts_l1 : Bool × Bool × Int × Int × List (List UInt8) × List (UInt32 × List UInt8) × List (UInt32 × Bool) × UInt64 × List UInt8 × UInt32 × Int × Int → Option Bool) (y18 : Bool) (y19 : Bool) (y20 : Int) (y21 : Int) (l7 : List (List UInt8)) (l8 : List (UInt32 × List UInt8)) (l9 : List (UInt32 × Bool)) (y22 : UInt64) (y23 : List UInt8) (y24 : UInt32) (a4 : Int) : Option Bool :=
  ret (wI (a3 + 1)) fun x3 =>
  nx_f_law07_DeviceCuts_l1 (y18, y19, y20, y21, l7, l8, l9, y22, y23, y24, a4, x3)
def f_law07_DeviceCuts_l1_b (p0 : Int) (p1 : List (List UInt8)) (y1 : Bool) (y2 : Option DevA × Int) (nx_f_law07_DeviceCuts_l1 : Bool × Bool × Int × Int × List (List UInt8) × List (UInt32 × List UInt8) × List (UInt32 × Bool) × UInt64 × List UInt8 × UInt32 × Int × Int → Option Bool) (y11 : Bool) (y12 : Bool) (y13 : Int) (y14 : Int) (l4 : List (List UInt8)) (l5 : List (UInt32 × List UInt8)) (l6 : List (UInt32 × Bool)) (y15 : UInt64) (y16 : List UInt8) (y17 : UInt32) (a2 : Int) (a3 : Int) : Option Bool :=
  cond ((decide (a3 < (p1.length : Int))) && (decide (a3 < 30)))
  (
    (remI a3 4).bind fun q1 =>
    (nthI p1 a3).bind fun x1 =>
    (f_ref07_Filled x1).bind fun y25 =>
    (f_device_Device_Write ({ off := y11, isCut := y12, lasts := y13, counts := y14, blocks := l4, pend := l5, bad := l6, rcnt := y15, rtag := y16, rboots := y17 } : DevA) (toU32 q1) y25).bind fun y26 =>
    cond (decide (y26.1 = 0))
    (
      ret (wI (a2 + 1)) fun x2 =>
      f_law07_DeviceCuts_j2 a3 nx_f_law07_DeviceCuts_l1 y26.2.off y26.2.isCut y26.2.lasts y26.2.counts y26.2.blocks y26.2.pend y26.2.bad y26.2.rcnt y26.2.rtag y26.2.rboots x2)
    (
      cond (!decide (y26.1 = 71))
      (
        some false)
      (
        f_law07_DeviceCuts_j2 a3 nx_f_law07_DeviceCuts_l1 y26.2.off y26.2.isCut y26.2.lasts y26.2.counts y26.2.blocks y26.2.pend y26.2.bad y26.2.rcnt y26.2.rtag y26.2.rboots a2)))
  (
    f_law07_DeviceCuts_j1 p0 p1 y1 y2 y11 y12 y13 y14 l4 l5 l6 y15 y16 y17 a2)
def f_law07_DeviceCuts_l1 (p0 : Int) (p1 : List (List UInt8)) (y1 : Bool) (y2 : Option DevA × Int) : Nat → (Bool × Bool × Int × Int × List (List UInt8) × List (UInt32 × List UInt8) × List (UInt32 × Bool) × UInt64 × List UInt8 × UInt32 × Int × Int) → Option Bool := loopN fun nx x => f_law07_DeviceCuts_l1_b p0 p1 y1 y2 nx x.1 x.2.1 x.2.2.1 x.2.2.2.1 x.2.2.2.2.1 x.2.2.2.2.2.1 x.2.2.2.2.2.2.1 x.2.2.2.2.2.2.2.1 x.2.2.2.2.2.2.2.2.1 x.2.2.2.2.2.2.2.2.2.1 x.2.2.2.2.2.2.2.2.2.2.1 x.2.2.2.2.2.2.2.2.2.2.2
def f_law07_DeviceCuts (n : Nat) (p0 : Int) (p1 : List (List UInt8)) : Option Bool :=
  (f_law07_shown).bind fun y1 =>
  cond ((decide (p0 < 0)) || (decide (30 < p0)))
  (
    some y1)
  (
    (f_device_New 4).bind fun y2 =>
    (y2.1).bind fun d1 =>
    (f_device_Device_Cut d1 p0).bind fun y3 =>
    f_law07_DeviceCuts_l1 p0 p1 y1 y2 n (y3.off, y3.isCut, y3.lasts, y3.counts, y3.blocks, y3.pend, y3.bad, y3.rcnt, y3.rtag, y3.rboots, 0, 0))
set_option maxRecDepth 100000 in
theorem c_law07_DeviceCuts {n : Nat} {p0 : Int} {v1_ : Value} {p1 : List (List UInt8)} {r : Bool} (h : f_law07_DeviceCuts n p0 p1 = some r) (hs1_ : SlOf K w0 eS 1 v1_ p1) : Con Try.prog K w0 4 [vI p0, v1_] [] H (fun u M => u = vB r ∧ M = []) := by
  unfold f_law07_DeviceCuts at h
  refine Con.enter Try.func4 rfl rfl ?_
  refine SX.sr ?_
  refine SL.asg ⟨rfl, rfl, rfl, rfl⟩ rfl ?_
  refine SL.nx ?_
  refine SX.sr ?_
  obtain ⟨y1, hy1, h⟩ := bnd h
  refine SL.call (vs := []) (Hin := []) (Hr := _) ⟨rfl, rfl, rfl, rfl⟩ rfl trivial cal10 rfl rfl (c_law07_shown hy1) ?_
  rintro _ _ ⟨rfl, rfl⟩
  refine ⟨trivial, ?_⟩
  refine SL.asg ⟨rfl, rfl, rfl, rfl⟩ rfl ?_
  refine SL.nx ?_
  refine SX.seq ?_
  refine SX.sr ?_
  refine SL.mv ⟨rfl, rfl, rfl, rfl⟩ rfl ?_
  refine SL.bin ⟨rfl, rfl, rfl, rfl⟩ rfl rfl Bin.ltI ?_
  refine SL.mv ⟨rfl, rfl, rfl, rfl⟩ rfl ?_
  refine SL.or (c := decide (30 < p0)) 16 3 19 rfl (fun hb k => ?_) (fun hb k => ?_) ?_
  · skip
    refine SL.pass rfl rfl rfl ?_
    refine SL.pass rfl rfl rfl ?_
    refine SL.pk ⟨rfl, rfl, rfl, rfl⟩ rfl rfl ?_
    exact k.mono (by repeat' (first | exact trivial | refine And.intro rfl ?_))
  · skip
    refine SL.mv ⟨rfl, rfl, rfl, rfl⟩ rfl ?_
    refine SL.bin ⟨rfl, rfl, rfl, rfl⟩ rfl rfl Bin.gtI ?_
    refine SL.pk ⟨rfl, rfl, rfl, rfl⟩ rfl rfl ?_
    exact k.mono (by repeat' (first | exact trivial | refine And.intro rfl ?_))
  refine SL.nx ?_
  refine SX.cond rfl (fun hc1 => ?_) (fun hc1 => ?_)
  · skip
    replace h := cT hc1 h
    refine SX.sr ?_
    refine SL.mv ⟨rfl, rfl, rfl, rfl⟩ rfl ?_
    refine SL.asg ⟨rfl, rfl, rfl, rfl⟩ rfl ?_
    refine SL.nx ?_
    refine SX.ret ?_
    refine SQ.thnR ?_
    obtain rfl := Option.some.inj h
    exact SQ.fret (res1 rfl rfl) (ret_of (M := []) ⟨rfl, rfl⟩ fun _ hw => HpOk.pick (H := []) hw [] 0 rfl)
  · skip
    replace h := cF hc1 h
    refine SX.skip ?_
    refine SQ.thn ?_
    refine SX.sr ?_
    obtain ⟨y2, hy2, h⟩ := bnd h
    obtain ⟨d1, hd1, h⟩ := bnd h
    refine SL.call (vs := [_]) (Hin := []) (Hr := _) ⟨rfl, rfl, rfl, rfl⟩ rfl ⟨rfl, trivial⟩ cal11 rfl rfl (c_device_New hy2) ?_
    rintro _ _ (⟨hn, -, -⟩ | ⟨d_, b1, v1, m1, m2, hn, rfl, rfl⟩)
    · rw [hd1] at hn; cases hn
    obtain rfl : d1 = d_ := Option.some.inj (hd1.symm.trans hn)
    refine ⟨trivial, ?_⟩
    refine SL.mv ⟨rfl, rfl, rfl, rfl⟩ rfl ?_
    refine SL.ext ⟨rfl, rfl, rfl, rfl⟩ rfl rfl ?_
    refine SL.ext ⟨rfl, rfl, rfl, rfl⟩ rfl rfl ?_
    refine SL.asg ⟨rfl, rfl, rfl, rfl⟩ rfl ?_
    refine SL.asg ⟨rfl, rfl, rfl, rfl⟩ rfl ?_
    refine SL.nx ?_
    refine SX.sr ?_
    obtain ⟨y3, hy3, h⟩ := bnd h
    refine SL.mv ⟨rfl, rfl, rfl, rfl⟩ rfl ?_
    refine SL.mv ⟨rfl, rfl, rfl, rfl⟩ rfl ?_
    refine SL.call (vs := [_, _]) (Hin := [_, _, _, _]) (Hr := _) ⟨rfl, rfl, rfl, rfl⟩ rfl ⟨rfl, rfl, trivial⟩ cal15 rfl rfl (c_device_Device_Cut hy3) ?_
    rintro _ _ ⟨rfl, rfl⟩
    refine ⟨trivial, ?_⟩
    refine SL.nx ?_
    refine SX.sr ?_
    refine SL.asg ⟨rfl, rfl, rfl, rfl⟩ rfl ?_
    refine SL.nx ?_
    refine SX.meetD (α := Bool × Bool × Int × Int × List (List UInt8) × List (UInt32 × List UInt8) × List (UInt32 × Bool) × UInt64 × List UInt8 × UInt32 × Int) (fun x => f_law07_DeviceCuts_j1 p0 p1 y1 y2 x.1 x.2.1 x.2.2.1 x.2.2.2.1 x.2.2.2.2.1 x.2.2.2.2.2.1 x.2.2.2.2.2.2.1 x.2.2.2.2.2.2.2.1 x.2.2.2.2.2.2.2.2.1 x.2.2.2.2.2.2.2.2.2.1 x.2.2.2.2.2.2.2.2.2.2 = some r) (fun x => [(0, vI p0), (1, v1_), (5, vB y1), (6, vP b1 0), (7, vI y2.2), (8, vI x.2.2.2.2.2.2.2.2.2.2)]) (fun x => own b1 (.cells #[vB x.1, vB x.2.1, vI x.2.2.1, vI x.2.2.2.1, v1, .map (some m1), .map (some m2), vU64 x.2.2.2.2.2.2.2.1, vS x.2.2.2.2.2.2.2.2.1, vU32 x.2.2.2.2.2.2.2.2.2.1] 72) :: rowT 9 1 v1 eS x.2.2.2.2.1 :: mapC m1 vU32 vS x.2.2.2.2.2.1 :: mapC m2 vU32 vB x.2.2.2.2.2.2.1 :: H) ?_ (fun x D h => ?_)
    · skip
      refine SX.sr ?_
      refine SL.asg ⟨rfl, rfl, rfl, rfl⟩ rfl ?_
      refine SL.nx ?_
      refine SX.block ?_
      refine SX.heap (SX.mono (SX.loop (α := Nat × Bool × Bool × Int × Int × List (List UInt8) × List (UInt32 × List UInt8) × List (UInt32 × Bool) × UInt64 × List UInt8 × UInt32 × Int × Int) (fun x => f_law07_DeviceCuts_l1 p0 p1 y1 y2 x.1 (x.2.1, x.2.2.1, x.2.2.2.1, x.2.2.2.2.1, x.2.2.2.2.2.1, x.2.2.2.2.2.2.1, x.2.2.2.2.2.2.2.1, x.2.2.2.2.2.2.2.2.1, x.2.2.2.2.2.2.2.2.2.1, x.2.2.2.2.2.2.2.2.2.2.1, x.2.2.2.2.2.2.2.2.2.2.2.1, x.2.2.2.2.2.2.2.2.2.2.2.2) = some r) (fun x => [(0, vI p0), (1, v1_), (5, vB y1), (6, vP b1 0), (7, vI y2.2), (8, vI x.2.2.2.2.2.2.2.2.2.2.2.1), (9, vI x.2.2.2.2.2.2.2.2.2.2.2.2)]) (fun x => own b1 (.cells #[vB x.2.1, vB x.2.2.1, vI x.2.2.2.1, vI x.2.2.2.2.1, v1, .map (some m1), .map (some m2), vU64 x.2.2.2.2.2.2.2.2.1, vS x.2.2.2.2.2.2.2.2.2.1, vU32 x.2.2.2.2.2.2.2.2.2.2.1] 72) :: rowT 9 1 v1 eS x.2.2.2.2.2.1 :: mapC m1 vU32 vS x.2.2.2.2.2.2.1 :: mapC m2 vU32 vB x.2.2.2.2.2.2.2.1 :: H) (fun x => x.1) (fun x D h => ?_) (n, y3.off, y3.isCut, y3.lasts, y3.counts, y3.blocks, y3.pend, y3.bad, y3.rcnt, y3.rtag, y3.rboots, 0, 0) h) (by repeat' (first | exact trivial | refine And.intro rfl ?_))) (fun _ hw => HpOk.pick (H := [_, _, _, _]) hw [0, 1, 2, 3] 4 rfl)
      obtain ⟨m3, y11, y12, y13, y14, l4, l5, l6, y15, y16, y17, a2, a3⟩ := x
      dsimp only at h
      rcases m3 with _ | m3
      · cases (show (none : Option _) = some r from h)
      replace h : f_law07_DeviceCuts_l1_b p0 p1 y1 y2 (f_law07_DeviceCuts_l1 p0 p1 y1 y2 m3) y11 y12 y13 y14 l4 l5 l6 y15 y16 y17 a2 a3 = some r := h
      unfold f_law07_DeviceCuts_l1_b at h
      refine SX.re [(0, vI p0), (1, v1_), (5, vB y1), (6, vP b1 0), (7, vI y2.2), (8, vI a2), (9, vI a3)] (own b1 (.cells #[vB y11, vB y12, vI y13, vI y14, v1, .map (some m1), .map (some m2), vU64 y15, vS y16, vU32 y17] 72) :: rowT 9 1 v1 eS l4 :: mapC m1 vU32 vS l5 :: mapC m2 vU32 vB l6 :: H) ?_ (by repeat' (first | exact trivial | refine And.intro rfl ?_))
      refine SX.seq ?_
      refine SX.sr ?_
      refine SL.mv ⟨rfl, rfl, rfl, rfl⟩ rfl ?_
      refine SL.mv ⟨rfl, rfl, rfl, rfl⟩ rfl ?_
      refine SL.lenV hs1_ ⟨rfl, rfl, rfl, rfl⟩ ty41 rfl ?_
      refine SL.bin ⟨rfl, rfl, rfl, rfl⟩ rfl rfl Bin.ltI ?_
      refine SL.mv ⟨rfl, rfl, rfl, rfl⟩ rfl ?_
      refine SL.and (c := decide (a3 < 30)) 32 3 35 rfl (fun hb k => ?_) (fun hb k => ?_) ?_
      · skip
        refine SL.mv ⟨rfl, rfl, rfl, rfl⟩ rfl ?_
        refine SL.bin ⟨rfl, rfl, rfl, rfl⟩ rfl rfl Bin.ltI ?_
        refine SL.pk ⟨rfl, rfl, rfl, rfl⟩ rfl rfl ?_
        exact k.mono (by repeat' (first | exact trivial | refine And.intro rfl ?_))
      · skip
        refine SL.pass rfl rfl rfl ?_
        refine SL.pass rfl rfl rfl ?_
        refine SL.pk ⟨rfl, rfl, rfl, rfl⟩ rfl rfl ?_
        exact k.mono (by repeat' (first | exact trivial | refine And.intro rfl ?_))
      refine SL.nx ?_
      refine SX.cond rfl (fun hc2 => ?_) (fun hc2 => ?_)
      · skip
        replace h := cT hc2 h
        refine SX.skip ?_
        refine SQ.thn ?_
        refine SX.meetD (α := Bool × Bool × Int × Int × List (List UInt8) × List (UInt32 × List UInt8) × List (UInt32 × Bool) × UInt64 × List UInt8 × UInt32 × Int) (fun x => f_law07_DeviceCuts_j2 a3 (f_law07_DeviceCuts_l1 p0 p1 y1 y2 m3) x.1 x.2.1 x.2.2.1 x.2.2.2.1 x.2.2.2.2.1 x.2.2.2.2.2.1 x.2.2.2.2.2.2.1 x.2.2.2.2.2.2.2.1 x.2.2.2.2.2.2.2.2.1 x.2.2.2.2.2.2.2.2.2.1 x.2.2.2.2.2.2.2.2.2.2 = some r) (fun x => [(0, vI p0), (1, v1_), (5, vB y1), (6, vP b1 0), (7, vI y2.2), (8, vI x.2.2.2.2.2.2.2.2.2.2), (9, vI a3)]) (fun x => own b1 (.cells #[vB x.1, vB x.2.1, vI x.2.2.1, vI x.2.2.2.1, v1, .map (some m1), .map (some m2), vU64 x.2.2.2.2.2.2.2.1, vS x.2.2.2.2.2.2.2.2.1, vU32 x.2.2.2.2.2.2.2.2.2.1] 72) :: rowT 9 1 v1 eS x.2.2.2.2.1 :: mapC m1 vU32 vS x.2.2.2.2.2.1 :: mapC m2 vU32 vB x.2.2.2.2.2.2.1 :: H) ?_ (fun x D h => ?_)
        · skip
          refine SX.block ?_
          refine SX.sr ?_
          obtain ⟨q1, hq1, h⟩ := bnd h
          obtain ⟨x1, hx1, h⟩ := bnd h
          obtain ⟨y25, hy25, h⟩ := bnd h
          obtain ⟨y26, hy26, h⟩ := bnd h
          refine SL.mv ⟨rfl, rfl, rfl, rfl⟩ rfl ?_
          refine SL.mv ⟨rfl, rfl, rfl, rfl⟩ rfl ?_
          refine SL.bin ⟨rfl, rfl, rfl, rfl⟩ rfl rfl (Bin.modO hq1) ?_
          refine SL.cv ⟨rfl, rfl, rfl, rfl⟩ rfl (Cv.i_32 ty3 ty22) ?_
          refine SL.mv ⟨rfl, rfl, rfl, rfl⟩ rfl ?_
          refine SL.mv ⟨rfl, rfl, rfl, rfl⟩ rfl ?_
          refine SL.iaN hx1 hs1_ ⟨rfl, rfl, rfl, rfl⟩ ty41 sz9 rfl rfl fun be1 of1 hc3 => ?_
          refine SL.ld ⟨rfl, rfl, rfl, rfl⟩ sc9 rfl (cell_kept (j := 0) hc3 rfl) ?_
          refine SL.call (vs := [_]) (Hin := []) (Hr := _ :: _ :: _ :: _ :: _) ⟨rfl, rfl, rfl, rfl⟩ rfl ⟨rfl, trivial⟩ cal12 rfl rfl (c_ref07_Filled hy25) ?_
          rintro _ _ ⟨rfl, rfl⟩
          refine ⟨trivial, ?_⟩
          refine SL.call (vs := [_, _, _]) (Hin := [_, _, _, _]) (Hr := _) ⟨rfl, rfl, rfl, rfl⟩ rfl ⟨rfl, rfl, rfl, trivial⟩ cal13 rfl rfl (c_device_Device_Write hy26) ?_
          rintro _ _ ⟨rfl, rfl⟩
          refine ⟨trivial, ?_⟩
          refine SL.asg ⟨rfl, rfl, rfl, rfl⟩ rfl ?_
          refine SL.nx ?_
          refine SX.sr ?_
          refine SL.mv ⟨rfl, rfl, rfl, rfl⟩ rfl ?_
          refine SL.bin ⟨rfl, rfl, rfl, rfl⟩ rfl rfl Bin.eqI ?_
          refine SL.nx ?_
          refine SX.cond rfl (fun hc4 => ?_) (fun hc4 => ?_)
          · skip
            replace h := cT hc4 h
            refine SX.region ?_
            obtain ⟨x2, ex2, h⟩ := retE h
            refine SL.mv ⟨rfl, rfl, rfl, rfl⟩ rfl ?_
            refine SL.bin ⟨rfl, rfl, rfl, rfl⟩ rfl rfl Bin.addW ?_
            refine SL.asgX (u := vI x2) ⟨rfl, rfl, rfl, rfl⟩ rfl (congrArg vI ex2) ?_
            refine SL.nil ?_
            refine SQ.blk ?_
            exact SQ.midD (y26.2.off, y26.2.isCut, y26.2.lasts, y26.2.counts, y26.2.blocks, y26.2.pend, y26.2.bad, y26.2.rcnt, y26.2.rtag, y26.2.rboots, x2) h (by repeat' (first | exact trivial | refine And.intro rfl ?_)) (fun _ hw => HpOk.pick (H := [_, _, _, _]) hw [0, 1, 2, 3] 4 rfl)
          · skip
            replace h := cF hc4 h
            refine SX.sr ?_
            refine SL.mv ⟨rfl, rfl, rfl, rfl⟩ rfl ?_
            refine SL.bin ⟨rfl, rfl, rfl, rfl⟩ rfl rfl Bin.neI ?_
            refine SL.nx ?_
            refine SX.cond rfl (fun hc5 => ?_) (fun hc5 => ?_)
            · skip
              replace h := cT hc5 h
              refine SX.sr ?_
              refine SL.asg ⟨rfl, rfl, rfl, rfl⟩ rfl ?_
              refine SL.nx ?_
              refine SX.ret ?_
              refine SQ.blkR ?_
              refine SQ.midDR ?_
              refine SQ.lpR ?_
              refine SQ.blkR ?_
              refine SQ.midDR ?_
              obtain rfl := Option.some.inj h
              exact SQ.fret (res1 rfl rfl) (ret_of (M := []) ⟨rfl, rfl⟩ fun _ hw => HpOk.pick (H := [_, _, _, _]) hw [] 4 rfl)
            · skip
              replace h := cF hc5 h
              refine SX.skip ?_
              refine SQ.blk ?_
              exact SQ.midD (y26.2.off, y26.2.isCut, y26.2.lasts, y26.2.counts, y26.2.blocks, y26.2.pend, y26.2.bad, y26.2.rcnt, y26.2.rtag, y26.2.rboots, a2) h (by repeat' (first | exact trivial | refine And.intro rfl ?_)) (fun _ hw => HpOk.pick (H := [_, _, _, _]) hw [0, 1, 2, 3] 4 rfl)
        · skip
          obtain ⟨y18, y19, y20, y21, l7, l8, l9, y22, y23, y24, a4⟩ := x
          dsimp only at h
          unfold f_law07_DeviceCuts_j2 at h
          refine SX.re [(0, vI p0), (1, v1_), (5, vB y1), (6, vP b1 0), (7, vI y2.2), (8, vI a4), (9, vI a3)] (own b1 (.cells #[vB y18, vB y19, vI y20, vI y21, v1, .map (some m1), .map (some m2), vU64 y22, vS y23, vU32 y24] 72) :: rowT 9 1 v1 eS l7 :: mapC m1 vU32 vS l8 :: mapC m2 vU32 vB l9 :: H) ?_ (by repeat' (first | exact trivial | refine And.intro rfl ?_))
          refine SX.region ?_
          obtain ⟨x3, ex3, h⟩ := retE h
          refine SL.mv ⟨rfl, rfl, rfl, rfl⟩ rfl ?_
          refine SL.bin ⟨rfl, rfl, rfl, rfl⟩ rfl rfl Bin.addW ?_
          refine SL.asgX (u := vI x3) ⟨rfl, rfl, rfl, rfl⟩ rfl (congrArg vI ex3) ?_
          refine SL.nil ?_
          exact SQ.again (m3, y18, y19, y20, y21, l7, l8, l9, y22, y23, y24, a4, x3) h (Nat.lt_succ_self _) (by repeat' (first | exact trivial | refine And.intro rfl ?_)) (fun _ hw => HpOk.pick (H := [_, _, _, _]) hw [0, 1, 2, 3] 4 rfl)
      · skip
        replace h := cF hc2 h
        refine SX.exit ?_
        refine SQ.thnE ?_
        refine SQ.lpE ?_
        refine SQ.blkE ?_
        exact SQ.midD (y11, y12, y13, y14, l4, l5, l6, y15, y16, y17, a2) h (by repeat' (first | exact trivial | refine And.intro rfl ?_)) (fun _ hw => HpOk.pick (H := [_, _, _, _]) hw [0, 1, 2, 3] 4 rfl)
    · skip
      obtain ⟨y4, y5, y6, y7, l1, l2, l3, y8, y9, y10, a1⟩ := x
      dsimp only at h
      unfold f_law07_DeviceCuts_j1 at h
      refine SX.re [(0, vI p0), (1, v1_), (5, vB y1), (6, vP b1 0), (7, vI y2.2), (8, vI a1)] (own b1 (.cells #[vB y4, vB y5, vI y6, vI y7, v1, .map (some m1), .map (some m2), vU64 y8, vS y9, vU32 y10] 72) :: rowT 9 1 v1 eS l1 :: mapC m1 vU32 vS l2 :: mapC m2 vU32 vB l3 :: H) ?_ (by repeat' (first | exact trivial | refine And.intro rfl ?_))
      refine SX.sr ?_
      obtain ⟨y27, hy27, h⟩ := bnd h
      refine SL.mv ⟨rfl, rfl, rfl, rfl⟩ rfl ?_
      refine SL.call (vs := [_, vU32 0]) (Hin := [_, _, _, _]) (Hr := _) ⟨rfl, rfl, rfl, rfl⟩ rfl ⟨rfl, rfl, trivial⟩ cal17 rfl rfl (c_device_Device_Read hy27) ?_
      rintro _ _ ⟨rfl, rfl⟩
      refine ⟨trivial, ?_⟩
      refine SL.mv ⟨rfl, rfl, rfl, rfl⟩ rfl ?_
      refine SL.ext ⟨rfl, rfl, rfl, rfl⟩ rfl rfl ?_
      refine SL.ext ⟨rfl, rfl, rfl, rfl⟩ rfl rfl ?_
      refine SL.asg ⟨rfl, rfl, rfl, rfl⟩ rfl ?_
      refine SL.asg ⟨rfl, rfl, rfl, rfl⟩ rfl ?_
      refine SL.nx ?_
      refine SX.sr ?_
      obtain ⟨x4, ex4, h⟩ := retE h
      refine SL.mv ⟨rfl, rfl, rfl, rfl⟩ rfl ?_
      refine SL.mv ⟨rfl, rfl, rfl, rfl⟩ rfl ?_
      refine SL.and (c := decide (y2.2 = 0)) 60 3 63 rfl (fun hb k => ?_) (fun hb k => ?_) ?_
      · skip
        refine SL.mv ⟨rfl, rfl, rfl, rfl⟩ rfl ?_
        refine SL.bin ⟨rfl, rfl, rfl, rfl⟩ rfl rfl Bin.eqI ?_
        refine SL.pk ⟨rfl, rfl, rfl, rfl⟩ rfl rfl ?_
        exact k.mono (by repeat' (first | exact trivial | refine And.intro rfl ?_))
      · skip
        refine SL.pass rfl rfl rfl ?_
        refine SL.pass rfl rfl rfl ?_
        refine SL.pk ⟨rfl, rfl, rfl, rfl⟩ rfl rfl ?_
        exact k.mono (by repeat' (first | exact trivial | refine And.intro rfl ?_))
      refine SL.mv ⟨rfl, rfl, rfl, rfl⟩ rfl ?_
      refine SL.and (c := decide (a1 = min p0 (min (p1.length : Int) 30))) 64 8 72 rfl (fun hb k => ?_) (fun hb k => ?_) ?_
      · skip
        refine SL.mv ⟨rfl, rfl, rfl, rfl⟩ rfl ?_
        refine SL.mv ⟨rfl, rfl, rfl, rfl⟩ rfl ?_
        refine SL.mv ⟨rfl, rfl, rfl, rfl⟩ rfl ?_
        refine SL.lenV hs1_ ⟨rfl, rfl, rfl, rfl⟩ ty41 rfl ?_
        refine SL.minI ⟨rfl, rfl, rfl, rfl⟩ rfl rfl ?_
        refine SL.minI ⟨rfl, rfl, rfl, rfl⟩ rfl rfl ?_
        refine SL.bin ⟨rfl, rfl, rfl, rfl⟩ rfl rfl Bin.eqI ?_
        refine SL.pk ⟨rfl, rfl, rfl, rfl⟩ rfl rfl ?_
        exact k.mono (by repeat' (first | exact trivial | refine And.intro rfl ?_))
      · skip
        refine SL.pass rfl rfl rfl ?_
        refine SL.pass rfl rfl rfl ?_
        refine SL.pass rfl rfl rfl ?_
        refine SL.pass rfl rfl rfl ?_
        refine SL.pass rfl rfl rfl ?_
        refine SL.pass rfl rfl rfl ?_
        refine SL.pass rfl rfl rfl ?_
        refine SL.pk ⟨rfl, rfl, rfl, rfl⟩ rfl rfl ?_
        exact k.mono (by repeat' (first | exact trivial | refine And.intro rfl ?_))
      refine SL.mv ⟨rfl, rfl, rfl, rfl⟩ rfl ?_
      refine SL.and (c := (decide (y27.2 = 71)) == (decide (p0 < min (p1.length : Int) 30))) 73 9 82 rfl (fun hb k => ?_) (fun hb k => ?_) ?_
      · skip
        refine SL.mv ⟨rfl, rfl, rfl, rfl⟩ rfl ?_
        refine SL.bin ⟨rfl, rfl, rfl, rfl⟩ rfl rfl Bin.eqI ?_
        refine SL.mv ⟨rfl, rfl, rfl, rfl⟩ rfl ?_
        refine SL.lenV hs1_ ⟨rfl, rfl, rfl, rfl⟩ ty41 rfl ?_
        refine SL.minI ⟨rfl, rfl, rfl, rfl⟩ rfl rfl ?_
        refine SL.mv ⟨rfl, rfl, rfl, rfl⟩ rfl ?_
        refine SL.bin ⟨rfl, rfl, rfl, rfl⟩ rfl rfl Bin.gtI ?_
        refine SL.eqB ⟨rfl, rfl, rfl, rfl⟩ ty4 rfl rfl ?_
        refine SL.pk ⟨rfl, rfl, rfl, rfl⟩ rfl rfl ?_
        exact k.mono (by repeat' (first | exact trivial | refine And.intro rfl ?_))
      · skip
        refine SL.pass rfl rfl rfl ?_
        refine SL.pass rfl rfl rfl ?_
        refine SL.pass rfl rfl rfl ?_
        refine SL.pass rfl rfl rfl ?_
        refine SL.pass rfl rfl rfl ?_
        refine SL.pass rfl rfl rfl ?_
        refine SL.pass rfl rfl rfl ?_
        refine SL.pass rfl rfl rfl ?_
        refine SL.pk ⟨rfl, rfl, rfl, rfl⟩ rfl rfl ?_
        exact k.mono (by repeat' (first | exact trivial | refine And.intro rfl ?_))
      refine SL.asgX (u := vB x4) ⟨rfl, rfl, rfl, rfl⟩ rfl (congrArg vB ex4) ?_
      refine SL.nx ?_
      refine SX.ret ?_
      obtain rfl := Option.some.inj h
      exact SQ.fret (res1 rfl rfl) (ret_of (M := []) ⟨rfl, rfl⟩ fun _ hw => HpOk.pick (H := [_, _, _, _]) hw [] 4 rfl)

def f_law07_DeviceParts_j1 (y1 : Bool) (y2 : Option DevA × Int) (y3 : List UInt8) (y4 : List UInt8) (y5 : Int × DevA) (y6 : Int × DevA) (y7 : List UInt8 × Int) (y8 : Int × DevA) (y9 : List UInt8 × Int) (a1 : Int) : Option Bool :=
  (andO (((((((y1 && (decide (y2.2 = 0))) && (decide (y5.1 = 0))) && (decide (y6.1 = 0))) && (decide (y7.2 = 0))) && (decide (y8.1 = 0))) && (decide (y9.2 = 0))) && (decide (y7.1 = y4))) ((slcI y4 0 a1).bind fun s1 => (slcI y3 a1 (y3.length : Int)).bind fun s2 => (catS s1 s2).bind fun s3 => some (decide (y9.1 = s3)))).bind fun y10 =>
  some y10
def f_law07_DeviceParts (p0 : List UInt8) (p1 : List UInt8) (p2 : Int) : Option Bool :=
  (f_law07_shown).bind fun y1 =>
  (f_device_New 4).bind fun y2 =>
  (y2.1).bind fun d1 =>
  (f_ref07_Filled p0).bind fun y3 =>
  (f_ref07_Filled p1).bind fun y4 =>
  (f_device_Device_Put d1 2 y3).bind fun y5 =>
  (f_device_Device_Write y5.2 2 y4).bind fun y6 =>
  (f_device_Device_Read y6.2 2).bind fun y7 =>
  (f_device_Device_Wake y6.2 [p2]).bind fun y8 =>
  (f_device_Device_Read y8.2 2).bind fun y9 =>
  cond ((decide (1 ≤ p2)) && (decide (p2 ≤ 4)))
  (
    ret (wI (64 * p2)) fun x1 =>
    f_law07_DeviceParts_j1 y1 y2 y3 y4 y5 y6 y7 y8 y9 x1)
  (
    f_law07_DeviceParts_j1 y1 y2 y3 y4 y5 y6 y7 y8 y9 0)
set_option maxRecDepth 100000 in
theorem c_law07_DeviceParts {p0 : List UInt8} {p1 : List UInt8} {p2 : Int} {r : Bool} (h : f_law07_DeviceParts p0 p1 p2 = some r)  : Con Try.prog K w0 5 [vS p0, vS p1, vI p2] [] H (fun u M => u = vB r ∧ M = []) := by
  unfold f_law07_DeviceParts at h
  refine Con.enter Try.func5 rfl rfl ?_
  refine SX.sr ?_
  refine SL.asg ⟨rfl, rfl, rfl, rfl⟩ rfl ?_
  refine SL.nx ?_
  refine SX.sr ?_
  obtain ⟨y1, hy1, h⟩ := bnd h
  refine SL.call (vs := []) (Hin := []) (Hr := _) ⟨rfl, rfl, rfl, rfl⟩ rfl trivial cal10 rfl rfl (c_law07_shown hy1) ?_
  rintro _ _ ⟨rfl, rfl⟩
  refine ⟨trivial, ?_⟩
  refine SL.asg ⟨rfl, rfl, rfl, rfl⟩ rfl ?_
  refine SL.nx ?_
  refine SX.sr ?_
  obtain ⟨y2, hy2, h⟩ := bnd h
  obtain ⟨d1, hd1, h⟩ := bnd h
  refine SL.call (vs := [_]) (Hin := []) (Hr := _) ⟨rfl, rfl, rfl, rfl⟩ rfl ⟨rfl, trivial⟩ cal11 rfl rfl (c_device_New hy2) ?_
  rintro _ _ (⟨hn, -, -⟩ | ⟨d_, b1, v1, m1, m2, hn, rfl, rfl⟩)
  · rw [hd1] at hn; cases hn
  obtain rfl : d1 = d_ := Option.some.inj (hd1.symm.trans hn)
  refine ⟨trivial, ?_⟩
  refine SL.mv ⟨rfl, rfl, rfl, rfl⟩ rfl ?_
  refine SL.ext ⟨rfl, rfl, rfl, rfl⟩ rfl rfl ?_
  refine SL.ext ⟨rfl, rfl, rfl, rfl⟩ rfl rfl ?_
  refine SL.asg ⟨rfl, rfl, rfl, rfl⟩ rfl ?_
  refine SL.asg ⟨rfl, rfl, rfl, rfl⟩ rfl ?_
  refine SL.nx ?_
  refine SX.sr ?_
  obtain ⟨y3, hy3, h⟩ := bnd h
  refine SL.mv ⟨rfl, rfl, rfl, rfl⟩ rfl ?_
  refine SL.call (vs := [_]) (Hin := []) (Hr := _ :: _ :: _ :: _ :: _) ⟨rfl, rfl, rfl, rfl⟩ rfl ⟨rfl, trivial⟩ cal12 rfl rfl (c_ref07_Filled hy3) ?_
  rintro _ _ ⟨rfl, rfl⟩
  refine ⟨trivial, ?_⟩
  refine SL.asg ⟨rfl, rfl, rfl, rfl⟩ rfl ?_
  refine SL.nx ?_
  refine SX.sr ?_
  obtain ⟨y4, hy4, h⟩ := bnd h
  refine SL.mv ⟨rfl, rfl, rfl, rfl⟩ rfl ?_
  refine SL.call (vs := [_]) (Hin := []) (Hr := _ :: _ :: _ :: _ :: _) ⟨rfl, rfl, rfl, rfl⟩ rfl ⟨rfl, trivial⟩ cal12 rfl rfl (c_ref07_Filled hy4) ?_
  rintro _ _ ⟨rfl, rfl⟩
  refine ⟨trivial, ?_⟩
  refine SL.asg ⟨rfl, rfl, rfl, rfl⟩ rfl ?_
  refine SL.nx ?_
  refine SX.sr ?_
  obtain ⟨y5, hy5, h⟩ := bnd h
  refine SL.mv ⟨rfl, rfl, rfl, rfl⟩ rfl ?_
  refine SL.mv ⟨rfl, rfl, rfl, rfl⟩ rfl ?_
  refine SL.call (vs := [_, vU32 2, _]) (Hin := [_, _, _, _]) (Hr := _) ⟨rfl, rfl, rfl, rfl⟩ rfl ⟨rfl, rfl, rfl, trivial⟩ cal18 rfl rfl (c_device_Device_Put hy5) ?_
  rintro _ _ ⟨rfl, rfl⟩
  refine ⟨trivial, ?_⟩
  refine SL.asg ⟨rfl, rfl, rfl, rfl⟩ rfl ?_
  refine SL.nx ?_
  refine SX.sr ?_
  obtain ⟨y6, hy6, h⟩ := bnd h
  refine SL.mv ⟨rfl, rfl, rfl, rfl⟩ rfl ?_
  refine SL.mv ⟨rfl, rfl, rfl, rfl⟩ rfl ?_
  refine SL.call (vs := [_, vU32 2, _]) (Hin := [_, _, _, _]) (Hr := _) ⟨rfl, rfl, rfl, rfl⟩ rfl ⟨rfl, rfl, rfl, trivial⟩ cal13 rfl rfl (c_device_Device_Write hy6) ?_
  rintro _ _ ⟨rfl, rfl⟩
  refine ⟨trivial, ?_⟩
  refine SL.asg ⟨rfl, rfl, rfl, rfl⟩ rfl ?_
  refine SL.nx ?_
  refine SX.sr ?_
  obtain ⟨y7, hy7, h⟩ := bnd h
  refine SL.mv ⟨rfl, rfl, rfl, rfl⟩ rfl ?_
  refine SL.call (vs := [_, vU32 2]) (Hin := [_, _, _, _]) (Hr := _) ⟨rfl, rfl, rfl, rfl⟩ rfl ⟨rfl, rfl, trivial⟩ cal17 rfl rfl (c_device_Device_Read hy7) ?_
  rintro _ _ ⟨rfl, rfl⟩
  refine ⟨trivial, ?_⟩
  refine SL.mv ⟨rfl, rfl, rfl, rfl⟩ rfl ?_
  refine SL.ext ⟨rfl, rfl, rfl, rfl⟩ rfl rfl ?_
  refine SL.ext ⟨rfl, rfl, rfl, rfl⟩ rfl rfl ?_
  refine SL.asg ⟨rfl, rfl, rfl, rfl⟩ rfl ?_
  refine SL.asg ⟨rfl, rfl, rfl, rfl⟩ rfl ?_
  refine SL.nx ?_
  refine SX.sr ?_
  obtain ⟨y8, hy8, h⟩ := bnd h
  refine SL.mv ⟨rfl, rfl, rfl, rfl⟩ rfl ?_
  refine SL.mv ⟨rfl, rfl, rfl, rfl⟩ rfl ?_
  refine SL.bsl [_] ⟨rfl, rfl, rfl, rfl⟩ ty32 sz3 ze3 ⟨rfl, trivial⟩ rfl rfl rfl (by simp [Value.cells]) rfl rfl (fun _ => trivial) fun b2 => ?_
  refine SL.ownT eI 1 ([p2] : List Int) rfl (fun _ => rfl) rfl ?_
  refine SL.call (vs := [_, _]) (Hin := [_, _, _, _, _]) (Hr := _) ⟨rfl, rfl, rfl, rfl⟩ rfl ⟨rfl, rfl, trivial⟩ cal16 rfl rfl (Con.lend (B := [_]) (Hin := [_, _, _, _]) fun K' w1 hk hB => c_device_Device_Wake hy8 (SlOf.lentT (e := 3) (fun _ => rfl) (hB _ (by simp)))) ?_
  rintro _ _ ⟨_, rfl, rfl, rfl⟩
  refine ⟨trivial, ?_⟩
  refine SL.asg ⟨rfl, rfl, rfl, rfl⟩ rfl ?_
  refine SL.nx ?_
  refine SX.sr ?_
  obtain ⟨y9, hy9, h⟩ := bnd h
  refine SL.mv ⟨rfl, rfl, rfl, rfl⟩ rfl ?_
  refine SL.pick [1, 2, 3, 4, 0] 5 ?_
  refine SL.call (vs := [_, vU32 2]) (Hin := [_, _, _, _]) (Hr := _ :: _) ⟨rfl, rfl, rfl, rfl⟩ rfl ⟨rfl, rfl, trivial⟩ cal17 rfl rfl (c_device_Device_Read hy9) ?_
  rintro _ _ ⟨rfl, rfl⟩
  refine ⟨trivial, ?_⟩
  refine SL.mv ⟨rfl, rfl, rfl, rfl⟩ rfl ?_
  refine SL.ext ⟨rfl, rfl, rfl, rfl⟩ rfl rfl ?_
  refine SL.ext ⟨rfl, rfl, rfl, rfl⟩ rfl rfl ?_
  refine SL.asg ⟨rfl, rfl, rfl, rfl⟩ rfl ?_
  refine SL.asg ⟨rfl, rfl, rfl, rfl⟩ rfl ?_
  refine SL.nx ?_
  refine SX.sr ?_
  refine SL.asg ⟨rfl, rfl, rfl, rfl⟩ rfl ?_
  refine SL.nx ?_
  refine SX.meetD (α := Int) (fun x => f_law07_DeviceParts_j1 y1 y2 y3 y4 y5 y6 y7 y8 y9 x = some r) (fun x => [(7, vB y1), (9, vI y2.2), (10, vS y3), (11, vS y4), (12, vI y5.1), (13, vI y6.1), (14, vS y7.1), (15, vI y7.2), (16, vI y8.1), (17, vS y9.1), (18, vI y9.2), (19, vI x)]) (fun x => H) ?_ (fun a1 D h => ?_)
  · skip
    refine SX.sr ?_
    refine SL.mv ⟨rfl, rfl, rfl, rfl⟩ rfl ?_
    refine SL.bin ⟨rfl, rfl, rfl, rfl⟩ rfl rfl Bin.geI ?_
    refine SL.mv ⟨rfl, rfl, rfl, rfl⟩ rfl ?_
    refine SL.and (c := decide (p2 ≤ 4)) 51 3 54 rfl (fun hb k => ?_) (fun hb k => ?_) ?_
    · skip
      refine SL.mv ⟨rfl, rfl, rfl, rfl⟩ rfl ?_
      refine SL.bin ⟨rfl, rfl, rfl, rfl⟩ rfl rfl Bin.leI ?_
      refine SL.pk ⟨rfl, rfl, rfl, rfl⟩ rfl rfl ?_
      exact k.mono (by repeat' (first | exact trivial | refine And.intro rfl ?_))
    · skip
      refine SL.pass rfl rfl rfl ?_
      refine SL.pass rfl rfl rfl ?_
      refine SL.pk ⟨rfl, rfl, rfl, rfl⟩ rfl rfl ?_
      exact k.mono (by repeat' (first | exact trivial | refine And.intro rfl ?_))
    refine SL.nx ?_
    refine SX.cond rfl (fun hc1 => ?_) (fun hc1 => ?_)
    · skip
      replace h := cT hc1 h
      refine SX.region ?_
      obtain ⟨x1, ex1, h⟩ := retE h
      refine SL.mv ⟨rfl, rfl, rfl, rfl⟩ rfl ?_
      refine SL.bin ⟨rfl, rfl, rfl, rfl⟩ rfl rfl Bin.mulW ?_
      refine SL.asgX (u := vI x1) ⟨rfl, rfl, rfl, rfl⟩ rfl (congrArg vI ex1) ?_
      refine SL.nil ?_
      exact SQ.midD x1 h (by repeat' (first | exact trivial | refine And.intro rfl ?_)) (fun _ hw => HpOk.pick (H := [_, _, _, _, _]) hw [] 5 rfl)
    · skip
      replace h := cF hc1 h
      refine SX.skip ?_
      exact SQ.midD 0 h (by repeat' (first | exact trivial | refine And.intro rfl ?_)) (fun _ hw => HpOk.pick (H := [_, _, _, _, _]) hw [] 5 rfl)
  · skip
    unfold f_law07_DeviceParts_j1 at h
    refine SX.re [(7, vB y1), (9, vI y2.2), (10, vS y3), (11, vS y4), (12, vI y5.1), (13, vI y6.1), (14, vS y7.1), (15, vI y7.2), (16, vI y8.1), (17, vS y9.1), (18, vI y9.2), (19, vI a1)] (H) ?_ (by repeat' (first | exact trivial | refine And.intro rfl ?_))
    refine SX.seq ?_
    obtain ⟨y10, hy10, h⟩ := bnd h
    refine SX.drawI mix [] (Pl.of [(true, 0), (true, 1), (true, 2), (true, 3), (true, 4), (true, 5), (true, 6), (true, 7), (true, 8), (true, 9), (true, 10), (true, 11), (true, 12), (true, 13), (true, 14), (true, 15), (true, 16), (true, 17), (true, 18), (true, 19), (true, 20), (true, 21), (true, 22), (true, 23), (true, 24), (true, 25), (true, 26), (true, 27), (true, 28), (true, 29), (true, 30), (true, 31), (true, 32), (true, 33), (true, 34), (true, 35), (true, 36), (true, 37), (true, 38), (true, 39), (true, 40), (true, 41)]) (by kernel_rfl) ?_
    refine SL.mv ⟨rfl, rfl, rfl, rfl⟩ rfl ?_
    refine SL.mv ⟨rfl, rfl, rfl, rfl⟩ rfl ?_
    refine SL.and (c := decide (y2.2 = 0)) 58 3 61 rfl (fun hb k => ?_) (fun hb k => ?_) ?_
    · skip
      refine SL.mv ⟨rfl, rfl, rfl, rfl⟩ rfl ?_
      refine SL.bin ⟨rfl, rfl, rfl, rfl⟩ rfl rfl Bin.eqI ?_
      refine SL.pk ⟨rfl, rfl, rfl, rfl⟩ rfl rfl ?_
      exact k.mono (by repeat' (first | exact trivial | refine And.intro rfl ?_))
    · skip
      refine SL.pass rfl rfl rfl ?_
      refine SL.pass rfl rfl rfl ?_
      refine SL.pk ⟨rfl, rfl, rfl, rfl⟩ rfl rfl ?_
      exact k.mono (by repeat' (first | exact trivial | refine And.intro rfl ?_))
    refine SL.mv ⟨rfl, rfl, rfl, rfl⟩ rfl ?_
    refine SL.and (c := decide (y5.1 = 0)) 62 3 65 rfl (fun hb k => ?_) (fun hb k => ?_) ?_
    · skip
      refine SL.mv ⟨rfl, rfl, rfl, rfl⟩ rfl ?_
      refine SL.bin ⟨rfl, rfl, rfl, rfl⟩ rfl rfl Bin.eqI ?_
      refine SL.pk ⟨rfl, rfl, rfl, rfl⟩ rfl rfl ?_
      exact k.mono (by repeat' (first | exact trivial | refine And.intro rfl ?_))
    · skip
      refine SL.pass rfl rfl rfl ?_
      refine SL.pass rfl rfl rfl ?_
      refine SL.pk ⟨rfl, rfl, rfl, rfl⟩ rfl rfl ?_
      exact k.mono (by repeat' (first | exact trivial | refine And.intro rfl ?_))
    refine SL.mv ⟨rfl, rfl, rfl, rfl⟩ rfl ?_
    refine SL.and (c := decide (y6.1 = 0)) 66 3 69 rfl (fun hb k => ?_) (fun hb k => ?_) ?_
    · skip
      refine SL.mv ⟨rfl, rfl, rfl, rfl⟩ rfl ?_
      refine SL.bin ⟨rfl, rfl, rfl, rfl⟩ rfl rfl Bin.eqI ?_
      refine SL.pk ⟨rfl, rfl, rfl, rfl⟩ rfl rfl ?_
      exact k.mono (by repeat' (first | exact trivial | refine And.intro rfl ?_))
    · skip
      refine SL.pass rfl rfl rfl ?_
      refine SL.pass rfl rfl rfl ?_
      refine SL.pk ⟨rfl, rfl, rfl, rfl⟩ rfl rfl ?_
      exact k.mono (by repeat' (first | exact trivial | refine And.intro rfl ?_))
    refine SL.mv ⟨rfl, rfl, rfl, rfl⟩ rfl ?_
    refine SL.and (c := decide (y7.2 = 0)) 70 3 73 rfl (fun hb k => ?_) (fun hb k => ?_) ?_
    · skip
      refine SL.mv ⟨rfl, rfl, rfl, rfl⟩ rfl ?_
      refine SL.bin ⟨rfl, rfl, rfl, rfl⟩ rfl rfl Bin.eqI ?_
      refine SL.pk ⟨rfl, rfl, rfl, rfl⟩ rfl rfl ?_
      exact k.mono (by repeat' (first | exact trivial | refine And.intro rfl ?_))
    · skip
      refine SL.pass rfl rfl rfl ?_
      refine SL.pass rfl rfl rfl ?_
      refine SL.pk ⟨rfl, rfl, rfl, rfl⟩ rfl rfl ?_
      exact k.mono (by repeat' (first | exact trivial | refine And.intro rfl ?_))
    refine SL.mv ⟨rfl, rfl, rfl, rfl⟩ rfl ?_
    refine SL.and (c := decide (y8.1 = 0)) 74 3 77 rfl (fun hb k => ?_) (fun hb k => ?_) ?_
    · skip
      refine SL.mv ⟨rfl, rfl, rfl, rfl⟩ rfl ?_
      refine SL.bin ⟨rfl, rfl, rfl, rfl⟩ rfl rfl Bin.eqI ?_
      refine SL.pk ⟨rfl, rfl, rfl, rfl⟩ rfl rfl ?_
      exact k.mono (by repeat' (first | exact trivial | refine And.intro rfl ?_))
    · skip
      refine SL.pass rfl rfl rfl ?_
      refine SL.pass rfl rfl rfl ?_
      refine SL.pk ⟨rfl, rfl, rfl, rfl⟩ rfl rfl ?_
      exact k.mono (by repeat' (first | exact trivial | refine And.intro rfl ?_))
    refine SL.mv ⟨rfl, rfl, rfl, rfl⟩ rfl ?_
    refine SL.and (c := decide (y9.2 = 0)) 78 3 81 rfl (fun hb k => ?_) (fun hb k => ?_) ?_
    · skip
      refine SL.mv ⟨rfl, rfl, rfl, rfl⟩ rfl ?_
      refine SL.bin ⟨rfl, rfl, rfl, rfl⟩ rfl rfl Bin.eqI ?_
      refine SL.pk ⟨rfl, rfl, rfl, rfl⟩ rfl rfl ?_
      exact k.mono (by repeat' (first | exact trivial | refine And.intro rfl ?_))
    · skip
      refine SL.pass rfl rfl rfl ?_
      refine SL.pass rfl rfl rfl ?_
      refine SL.pk ⟨rfl, rfl, rfl, rfl⟩ rfl rfl ?_
      exact k.mono (by repeat' (first | exact trivial | refine And.intro rfl ?_))
    refine SL.mv ⟨rfl, rfl, rfl, rfl⟩ rfl ?_
    refine SL.and (c := decide (y7.1 = y4)) 82 4 86 rfl (fun hb k => ?_) (fun hb k => ?_) ?_
    · skip
      refine SL.mv ⟨rfl, rfl, rfl, rfl⟩ rfl ?_
      refine SL.mv ⟨rfl, rfl, rfl, rfl⟩ rfl ?_
      refine SL.bin ⟨rfl, rfl, rfl, rfl⟩ rfl rfl Bin.eqS ?_
      refine SL.pk ⟨rfl, rfl, rfl, rfl⟩ rfl rfl ?_
      exact k.mono (by repeat' (first | exact trivial | refine And.intro rfl ?_))
    · skip
      refine SL.pass rfl rfl rfl ?_
      refine SL.pass rfl rfl rfl ?_
      refine SL.pass rfl rfl rfl ?_
      refine SL.pk ⟨rfl, rfl, rfl, rfl⟩ rfl rfl ?_
      exact k.mono (by repeat' (first | exact trivial | refine And.intro rfl ?_))
    refine SL.mv ⟨rfl, rfl, rfl, rfl⟩ rfl ?_
    refine SL.andN 87 10 97 hy10 rfl (fun hb hg9 k => ?_) (fun hb k => ?_) ?_
    · skip
      obtain ⟨s1, hs1, hg9⟩ := bnd hg9
      obtain ⟨s2, hs2, hg9⟩ := bnd hg9
      obtain ⟨s3, hs3, hg9⟩ := bnd hg9
      obtain rfl := Option.some.inj hg9
      refine SL.mv ⟨rfl, rfl, rfl, rfl⟩ rfl ?_
      refine SL.mv ⟨rfl, rfl, rfl, rfl⟩ rfl ?_
      refine SL.mv ⟨rfl, rfl, rfl, rfl⟩ rfl ?_
      refine SL.slNh hs1 ⟨rfl, rfl, rfl, rfl⟩ ty9 rfl rfl ?_
      refine SL.mv ⟨rfl, rfl, rfl, rfl⟩ rfl ?_
      refine SL.mv ⟨rfl, rfl, rfl, rfl⟩ rfl ?_
      refine SL.slNl hs2 ⟨rfl, rfl, rfl, rfl⟩ ty9 rfl rfl ?_
      refine SL.bin ⟨rfl, rfl, rfl, rfl⟩ rfl rfl (Bin.catO hs3) ?_
      refine SL.bin ⟨rfl, rfl, rfl, rfl⟩ rfl rfl Bin.eqS ?_
      refine SL.pk ⟨rfl, rfl, rfl, rfl⟩ rfl rfl ?_
      exact k.mono (by repeat' (first | exact trivial | refine And.intro rfl ?_))
    · skip
      refine SL.pass rfl rfl rfl ?_
      refine SL.pass rfl rfl rfl ?_
      refine SL.pass rfl rfl rfl ?_
      refine SL.pass rfl rfl rfl ?_
      refine SL.pass rfl rfl rfl ?_
      refine SL.pass rfl rfl rfl ?_
      refine SL.pass rfl rfl rfl ?_
      refine SL.pass rfl rfl rfl ?_
      refine SL.pass rfl rfl rfl ?_
      refine SL.pk ⟨rfl, rfl, rfl, rfl⟩ rfl rfl ?_
      exact k.mono (by repeat' (first | exact trivial | refine And.intro rfl ?_))
    refine SL.asg ⟨rfl, rfl, rfl, rfl⟩ rfl ?_
    refine SL.nx ?_
    refine SX.ret ?_
    obtain rfl := Option.some.inj h
    exact SQ.fret (res1 rfl rfl) (ret_of (M := []) ⟨rfl, rfl⟩ fun _ hw => HpOk.pick (H := []) hw [] 0 rfl)

def f_law07_DeviceBad (p0 : List UInt8) (p1 : UInt32) : Option Bool :=
  (f_law07_shown).bind fun y1 =>
  (f_device_New 4).bind fun y2 =>
  (y2.1).bind fun d1 =>
  (f_ref07_Filled p0).bind fun y3 =>
  (f_device_Device_Put d1 p1 y3).bind fun y4 =>
  (f_device_Device_Bad y4.2 p1 true).bind fun y5 =>
  (f_device_Device_Read y5.2 p1).bind fun y6 =>
  (f_device_Device_Bad y5.2 p1 false).bind fun y7 =>
  (f_device_Device_Read y7.2 p1).bind fun y8 =>
  cond (decide (4 ≤ p1))
  (
    ret ((((y1 && (decide (y4.1 = 2))) && (decide (y5.1 = 2))) && (decide (y7.1 = 2))) && (decide (y6.2 = 2))) fun x1 =>
    some x1)
  (
    ret (((((((y1 && (decide (y2.2 = 0))) && (decide (y4.1 = 0))) && (decide (y5.1 = 0))) && (decide (y7.1 = 0))) && (decide (y6.2 = 70))) && (decide (y8.2 = 0))) && (decide (y8.1 = y3))) fun x2 =>
    some x2)
set_option maxRecDepth 100000 in
theorem c_law07_DeviceBad {p0 : List UInt8} {p1 : UInt32} {r : Bool} (h : f_law07_DeviceBad p0 p1 = some r)  : Con Try.prog K w0 6 [vS p0, vU32 p1] [] H (fun u M => u = vB r ∧ M = []) := by
  unfold f_law07_DeviceBad at h
  refine Con.enter Try.func6 rfl rfl ?_
  refine SX.sr ?_
  refine SL.asg ⟨rfl, rfl, rfl, rfl⟩ rfl ?_
  refine SL.nx ?_
  refine SX.sr ?_
  obtain ⟨y1, hy1, h⟩ := bnd h
  refine SL.call (vs := []) (Hin := []) (Hr := _) ⟨rfl, rfl, rfl, rfl⟩ rfl trivial cal10 rfl rfl (c_law07_shown hy1) ?_
  rintro _ _ ⟨rfl, rfl⟩
  refine ⟨trivial, ?_⟩
  refine SL.asg ⟨rfl, rfl, rfl, rfl⟩ rfl ?_
  refine SL.nx ?_
  refine SX.sr ?_
  obtain ⟨y2, hy2, h⟩ := bnd h
  obtain ⟨d1, hd1, h⟩ := bnd h
  refine SL.call (vs := [_]) (Hin := []) (Hr := _) ⟨rfl, rfl, rfl, rfl⟩ rfl ⟨rfl, trivial⟩ cal11 rfl rfl (c_device_New hy2) ?_
  rintro _ _ (⟨hn, -, -⟩ | ⟨d_, b1, v1, m1, m2, hn, rfl, rfl⟩)
  · rw [hd1] at hn; cases hn
  obtain rfl : d1 = d_ := Option.some.inj (hd1.symm.trans hn)
  refine ⟨trivial, ?_⟩
  refine SL.mv ⟨rfl, rfl, rfl, rfl⟩ rfl ?_
  refine SL.ext ⟨rfl, rfl, rfl, rfl⟩ rfl rfl ?_
  refine SL.ext ⟨rfl, rfl, rfl, rfl⟩ rfl rfl ?_
  refine SL.asg ⟨rfl, rfl, rfl, rfl⟩ rfl ?_
  refine SL.asg ⟨rfl, rfl, rfl, rfl⟩ rfl ?_
  refine SL.nx ?_
  refine SX.sr ?_
  obtain ⟨y3, hy3, h⟩ := bnd h
  refine SL.mv ⟨rfl, rfl, rfl, rfl⟩ rfl ?_
  refine SL.call (vs := [_]) (Hin := []) (Hr := _ :: _ :: _ :: _ :: _) ⟨rfl, rfl, rfl, rfl⟩ rfl ⟨rfl, trivial⟩ cal12 rfl rfl (c_ref07_Filled hy3) ?_
  rintro _ _ ⟨rfl, rfl⟩
  refine ⟨trivial, ?_⟩
  refine SL.asg ⟨rfl, rfl, rfl, rfl⟩ rfl ?_
  refine SL.nx ?_
  refine SX.sr ?_
  obtain ⟨y4, hy4, h⟩ := bnd h
  refine SL.mv ⟨rfl, rfl, rfl, rfl⟩ rfl ?_
  refine SL.mv ⟨rfl, rfl, rfl, rfl⟩ rfl ?_
  refine SL.mv ⟨rfl, rfl, rfl, rfl⟩ rfl ?_
  refine SL.call (vs := [_, _, _]) (Hin := [_, _, _, _]) (Hr := _) ⟨rfl, rfl, rfl, rfl⟩ rfl ⟨rfl, rfl, rfl, trivial⟩ cal18 rfl rfl (c_device_Device_Put hy4) ?_
  rintro _ _ ⟨rfl, rfl⟩
  refine ⟨trivial, ?_⟩
  refine SL.asg ⟨rfl, rfl, rfl, rfl⟩ rfl ?_
  refine SL.nx ?_
  refine SX.sr ?_
  obtain ⟨y5, hy5, h⟩ := bnd h
  refine SL.mv ⟨rfl, rfl, rfl, rfl⟩ rfl ?_
  refine SL.mv ⟨rfl, rfl, rfl, rfl⟩ rfl ?_
  refine SL.call (vs := [_, _, _]) (Hin := [_, _, _, _]) (Hr := _) ⟨rfl, rfl, rfl, rfl⟩ rfl ⟨rfl, rfl, rfl, trivial⟩ cal19 rfl rfl (c_device_Device_Bad hy5) ?_
  rintro _ _ ⟨rfl, rfl⟩
  refine ⟨trivial, ?_⟩
  refine SL.asg ⟨rfl, rfl, rfl, rfl⟩ rfl ?_
  refine SL.nx ?_
  refine SX.sr ?_
  obtain ⟨y6, hy6, h⟩ := bnd h
  refine SL.mv ⟨rfl, rfl, rfl, rfl⟩ rfl ?_
  refine SL.mv ⟨rfl, rfl, rfl, rfl⟩ rfl ?_
  refine SL.call (vs := [_, _]) (Hin := [_, _, _, _]) (Hr := _) ⟨rfl, rfl, rfl, rfl⟩ rfl ⟨rfl, rfl, trivial⟩ cal17 rfl rfl (c_device_Device_Read hy6) ?_
  rintro _ _ ⟨rfl, rfl⟩
  refine ⟨trivial, ?_⟩
  refine SL.mv ⟨rfl, rfl, rfl, rfl⟩ rfl ?_
  refine SL.ext ⟨rfl, rfl, rfl, rfl⟩ rfl rfl ?_
  refine SL.ext ⟨rfl, rfl, rfl, rfl⟩ rfl rfl ?_
  refine SL.asg ⟨rfl, rfl, rfl, rfl⟩ rfl ?_
  refine SL.asg ⟨rfl, rfl, rfl, rfl⟩ rfl ?_
  refine SL.nx ?_
  refine SX.sr ?_
  obtain ⟨y7, hy7, h⟩ := bnd h
  refine SL.mv ⟨rfl, rfl, rfl, rfl⟩ rfl ?_
  refine SL.mv ⟨rfl, rfl, rfl, rfl⟩ rfl ?_
  refine SL.call (vs := [_, _, _]) (Hin := [_, _, _, _]) (Hr := _) ⟨rfl, rfl, rfl, rfl⟩ rfl ⟨rfl, rfl, rfl, trivial⟩ cal19 rfl rfl (c_device_Device_Bad hy7) ?_
  rintro _ _ ⟨rfl, rfl⟩
  refine ⟨trivial, ?_⟩
  refine SL.asg ⟨rfl, rfl, rfl, rfl⟩ rfl ?_
  refine SL.nx ?_
  refine SX.sr ?_
  obtain ⟨y8, hy8, h⟩ := bnd h
  refine SL.mv ⟨rfl, rfl, rfl, rfl⟩ rfl ?_
  refine SL.mv ⟨rfl, rfl, rfl, rfl⟩ rfl ?_
  refine SL.call (vs := [_, _]) (Hin := [_, _, _, _]) (Hr := _) ⟨rfl, rfl, rfl, rfl⟩ rfl ⟨rfl, rfl, trivial⟩ cal17 rfl rfl (c_device_Device_Read hy8) ?_
  rintro _ _ ⟨rfl, rfl⟩
  refine ⟨trivial, ?_⟩
  refine SL.mv ⟨rfl, rfl, rfl, rfl⟩ rfl ?_
  refine SL.ext ⟨rfl, rfl, rfl, rfl⟩ rfl rfl ?_
  refine SL.ext ⟨rfl, rfl, rfl, rfl⟩ rfl rfl ?_
  refine SL.asg ⟨rfl, rfl, rfl, rfl⟩ rfl ?_
  refine SL.asg ⟨rfl, rfl, rfl, rfl⟩ rfl ?_
  refine SL.nx ?_
  refine SX.seq ?_
  refine SX.sr ?_
  refine SL.mv ⟨rfl, rfl, rfl, rfl⟩ rfl ?_
  refine SL.bin ⟨rfl, rfl, rfl, rfl⟩ rfl rfl (Bin.ge32 (b := 4)) ?_
  refine SL.nx ?_
  refine SX.cond rfl (fun hc1 => ?_) (fun hc1 => ?_)
  · skip
    replace h := cT hc1 h
    refine SX.sr ?_
    obtain ⟨x1, ex1, h⟩ := retE h
    refine SL.mv ⟨rfl, rfl, rfl, rfl⟩ rfl ?_
    refine SL.mv ⟨rfl, rfl, rfl, rfl⟩ rfl ?_
    refine SL.and (c := decide (y4.1 = 2)) 48 3 51 rfl (fun hb k => ?_) (fun hb k => ?_) ?_
    · skip
      refine SL.mv ⟨rfl, rfl, rfl, rfl⟩ rfl ?_
      refine SL.bin ⟨rfl, rfl, rfl, rfl⟩ rfl rfl Bin.eqI ?_
      refine SL.pk ⟨rfl, rfl, rfl, rfl⟩ rfl rfl ?_
      exact k.mono (by repeat' (first | exact trivial | refine And.intro rfl ?_))
    · skip
      refine SL.pass rfl rfl rfl ?_
      refine SL.pass rfl rfl rfl ?_
      refine SL.pk ⟨rfl, rfl, rfl, rfl⟩ rfl rfl ?_
      exact k.mono (by repeat' (first | exact trivial | refine And.intro rfl ?_))
    refine SL.mv ⟨rfl, rfl, rfl, rfl⟩ rfl ?_
    refine SL.and (c := decide (y5.1 = 2)) 52 3 55 rfl (fun hb k => ?_) (fun hb k => ?_) ?_
    · skip
      refine SL.mv ⟨rfl, rfl, rfl, rfl⟩ rfl ?_
      refine SL.bin ⟨rfl, rfl, rfl, rfl⟩ rfl rfl Bin.eqI ?_
      refine SL.pk ⟨rfl, rfl, rfl, rfl⟩ rfl rfl ?_
      exact k.mono (by repeat' (first | exact trivial | refine And.intro rfl ?_))
    · skip
      refine SL.pass rfl rfl rfl ?_
      refine SL.pass rfl rfl rfl ?_
      refine SL.pk ⟨rfl, rfl, rfl, rfl⟩ rfl rfl ?_
      exact k.mono (by repeat' (first | exact trivial | refine And.intro rfl ?_))
    refine SL.mv ⟨rfl, rfl, rfl, rfl⟩ rfl ?_
    refine SL.and (c := decide (y7.1 = 2)) 56 3 59 rfl (fun hb k => ?_) (fun hb k => ?_) ?_
    · skip
      refine SL.mv ⟨rfl, rfl, rfl, rfl⟩ rfl ?_
      refine SL.bin ⟨rfl, rfl, rfl, rfl⟩ rfl rfl Bin.eqI ?_
      refine SL.pk ⟨rfl, rfl, rfl, rfl⟩ rfl rfl ?_
      exact k.mono (by repeat' (first | exact trivial | refine And.intro rfl ?_))
    · skip
      refine SL.pass rfl rfl rfl ?_
      refine SL.pass rfl rfl rfl ?_
      refine SL.pk ⟨rfl, rfl, rfl, rfl⟩ rfl rfl ?_
      exact k.mono (by repeat' (first | exact trivial | refine And.intro rfl ?_))
    refine SL.mv ⟨rfl, rfl, rfl, rfl⟩ rfl ?_
    refine SL.and (c := decide (y6.2 = 2)) 60 3 63 rfl (fun hb k => ?_) (fun hb k => ?_) ?_
    · skip
      refine SL.mv ⟨rfl, rfl, rfl, rfl⟩ rfl ?_
      refine SL.bin ⟨rfl, rfl, rfl, rfl⟩ rfl rfl Bin.eqI ?_
      refine SL.pk ⟨rfl, rfl, rfl, rfl⟩ rfl rfl ?_
      exact k.mono (by repeat' (first | exact trivial | refine And.intro rfl ?_))
    · skip
      refine SL.pass rfl rfl rfl ?_
      refine SL.pass rfl rfl rfl ?_
      refine SL.pk ⟨rfl, rfl, rfl, rfl⟩ rfl rfl ?_
      exact k.mono (by repeat' (first | exact trivial | refine And.intro rfl ?_))
    refine SL.asgX (u := vB x1) ⟨rfl, rfl, rfl, rfl⟩ rfl (congrArg vB ex1) ?_
    refine SL.nx ?_
    refine SX.ret ?_
    refine SQ.thnR ?_
    obtain rfl := Option.some.inj h
    exact SQ.fret (res1 rfl rfl) (ret_of (M := []) ⟨rfl, rfl⟩ fun _ hw => HpOk.pick (H := [_, _, _, _]) hw [] 4 rfl)
  · skip
    replace h := cF hc1 h
    refine SX.skip ?_
    refine SQ.thn ?_
    refine SX.sr ?_
    obtain ⟨x2, ex2, h⟩ := retE h
    refine SL.mv ⟨rfl, rfl, rfl, rfl⟩ rfl ?_
    refine SL.mv ⟨rfl, rfl, rfl, rfl⟩ rfl ?_
    refine SL.and (c := decide (y2.2 = 0)) 65 3 68 rfl (fun hb k => ?_) (fun hb k => ?_) ?_
    · skip
      refine SL.mv ⟨rfl, rfl, rfl, rfl⟩ rfl ?_
      refine SL.bin ⟨rfl, rfl, rfl, rfl⟩ rfl rfl Bin.eqI ?_
      refine SL.pk ⟨rfl, rfl, rfl, rfl⟩ rfl rfl ?_
      exact k.mono (by repeat' (first | exact trivial | refine And.intro rfl ?_))
    · skip
      refine SL.pass rfl rfl rfl ?_
      refine SL.pass rfl rfl rfl ?_
      refine SL.pk ⟨rfl, rfl, rfl, rfl⟩ rfl rfl ?_
      exact k.mono (by repeat' (first | exact trivial | refine And.intro rfl ?_))
    refine SL.mv ⟨rfl, rfl, rfl, rfl⟩ rfl ?_
    refine SL.and (c := decide (y4.1 = 0)) 69 3 72 rfl (fun hb k => ?_) (fun hb k => ?_) ?_
    · skip
      refine SL.mv ⟨rfl, rfl, rfl, rfl⟩ rfl ?_
      refine SL.bin ⟨rfl, rfl, rfl, rfl⟩ rfl rfl Bin.eqI ?_
      refine SL.pk ⟨rfl, rfl, rfl, rfl⟩ rfl rfl ?_
      exact k.mono (by repeat' (first | exact trivial | refine And.intro rfl ?_))
    · skip
      refine SL.pass rfl rfl rfl ?_
      refine SL.pass rfl rfl rfl ?_
      refine SL.pk ⟨rfl, rfl, rfl, rfl⟩ rfl rfl ?_
      exact k.mono (by repeat' (first | exact trivial | refine And.intro rfl ?_))
    refine SL.mv ⟨rfl, rfl, rfl, rfl⟩ rfl ?_
    refine SL.and (c := decide (y5.1 = 0)) 73 3 76 rfl (fun hb k => ?_) (fun hb k => ?_) ?_
    · skip
      refine SL.mv ⟨rfl, rfl, rfl, rfl⟩ rfl ?_
      refine SL.bin ⟨rfl, rfl, rfl, rfl⟩ rfl rfl Bin.eqI ?_
      refine SL.pk ⟨rfl, rfl, rfl, rfl⟩ rfl rfl ?_
      exact k.mono (by repeat' (first | exact trivial | refine And.intro rfl ?_))
    · skip
      refine SL.pass rfl rfl rfl ?_
      refine SL.pass rfl rfl rfl ?_
      refine SL.pk ⟨rfl, rfl, rfl, rfl⟩ rfl rfl ?_
      exact k.mono (by repeat' (first | exact trivial | refine And.intro rfl ?_))
    refine SL.mv ⟨rfl, rfl, rfl, rfl⟩ rfl ?_
    refine SL.and (c := decide (y7.1 = 0)) 77 3 80 rfl (fun hb k => ?_) (fun hb k => ?_) ?_
    · skip
      refine SL.mv ⟨rfl, rfl, rfl, rfl⟩ rfl ?_
      refine SL.bin ⟨rfl, rfl, rfl, rfl⟩ rfl rfl Bin.eqI ?_
      refine SL.pk ⟨rfl, rfl, rfl, rfl⟩ rfl rfl ?_
      exact k.mono (by repeat' (first | exact trivial | refine And.intro rfl ?_))
    · skip
      refine SL.pass rfl rfl rfl ?_
      refine SL.pass rfl rfl rfl ?_
      refine SL.pk ⟨rfl, rfl, rfl, rfl⟩ rfl rfl ?_
      exact k.mono (by repeat' (first | exact trivial | refine And.intro rfl ?_))
    refine SL.mv ⟨rfl, rfl, rfl, rfl⟩ rfl ?_
    refine SL.and (c := decide (y6.2 = 70)) 81 3 84 rfl (fun hb k => ?_) (fun hb k => ?_) ?_
    · skip
      refine SL.mv ⟨rfl, rfl, rfl, rfl⟩ rfl ?_
      refine SL.bin ⟨rfl, rfl, rfl, rfl⟩ rfl rfl Bin.eqI ?_
      refine SL.pk ⟨rfl, rfl, rfl, rfl⟩ rfl rfl ?_
      exact k.mono (by repeat' (first | exact trivial | refine And.intro rfl ?_))
    · skip
      refine SL.pass rfl rfl rfl ?_
      refine SL.pass rfl rfl rfl ?_
      refine SL.pk ⟨rfl, rfl, rfl, rfl⟩ rfl rfl ?_
      exact k.mono (by repeat' (first | exact trivial | refine And.intro rfl ?_))
    refine SL.mv ⟨rfl, rfl, rfl, rfl⟩ rfl ?_
    refine SL.and (c := decide (y8.2 = 0)) 85 3 88 rfl (fun hb k => ?_) (fun hb k => ?_) ?_
    · skip
      refine SL.mv ⟨rfl, rfl, rfl, rfl⟩ rfl ?_
      refine SL.bin ⟨rfl, rfl, rfl, rfl⟩ rfl rfl Bin.eqI ?_
      refine SL.pk ⟨rfl, rfl, rfl, rfl⟩ rfl rfl ?_
      exact k.mono (by repeat' (first | exact trivial | refine And.intro rfl ?_))
    · skip
      refine SL.pass rfl rfl rfl ?_
      refine SL.pass rfl rfl rfl ?_
      refine SL.pk ⟨rfl, rfl, rfl, rfl⟩ rfl rfl ?_
      exact k.mono (by repeat' (first | exact trivial | refine And.intro rfl ?_))
    refine SL.mv ⟨rfl, rfl, rfl, rfl⟩ rfl ?_
    refine SL.and (c := decide (y8.1 = y3)) 89 4 93 rfl (fun hb k => ?_) (fun hb k => ?_) ?_
    · skip
      refine SL.mv ⟨rfl, rfl, rfl, rfl⟩ rfl ?_
      refine SL.mv ⟨rfl, rfl, rfl, rfl⟩ rfl ?_
      refine SL.bin ⟨rfl, rfl, rfl, rfl⟩ rfl rfl Bin.eqS ?_
      refine SL.pk ⟨rfl, rfl, rfl, rfl⟩ rfl rfl ?_
      exact k.mono (by repeat' (first | exact trivial | refine And.intro rfl ?_))
    · skip
      refine SL.pass rfl rfl rfl ?_
      refine SL.pass rfl rfl rfl ?_
      refine SL.pass rfl rfl rfl ?_
      refine SL.pk ⟨rfl, rfl, rfl, rfl⟩ rfl rfl ?_
      exact k.mono (by repeat' (first | exact trivial | refine And.intro rfl ?_))
    refine SL.asgX (u := vB x2) ⟨rfl, rfl, rfl, rfl⟩ rfl (congrArg vB ex2) ?_
    refine SL.nx ?_
    refine SX.ret ?_
    obtain rfl := Option.some.inj h
    exact SQ.fret (res1 rfl rfl) (ret_of (M := []) ⟨rfl, rfl⟩ fun _ hw => HpOk.pick (H := [_, _, _, _]) hw [] 4 rfl)

def f_law07_DeviceCounts_j1 (p0 : List (List UInt8)) (y1 : Bool) (y2 : Option DevA × Int) (y4 : Bool) (y5 : Bool) (y6 : Int) (y7 : Int) (l1 : List (List UInt8)) (l2 : List (UInt32 × List UInt8)) (l3 : List (UInt32 × Bool)) (y8 : UInt64) (y9 : List UInt8) (y10 : UInt32) (a1 : List UInt8) (a2 : UInt32) : Option Bool :=
  (andO (y1 && (decide (y2.2 = 0))) ((f_device_Device_Register ({ off := y4, isCut := y5, lasts := y6, counts := y7, blocks := l1, pend := l2, bad := l3, rcnt := y8, rtag := y9, rboots := y10 } : DevA)).bind fun y30 => some (decide (y30.cnt = toU64 (min (p0.length : Int) 50)) && (decide (y30.tag = a1) && (decide (y30.boots = a2) && true))))).bind fun y31 =>
  some y31
def f_law07_DeviceCounts_j2 (a5 : Int) (y18 : List UInt8) (nx_f_law07_DeviceCounts_l1 : Bool × Bool × Int × Int × List (List UInt8) × List (UInt32 × List UInt8) × List (UInt32 × Bool) × UInt64 × List UInt8 × UInt32 × List UInt8 × UInt32 × Int → Option Bool) (y19 : Bool) (y20 : Bool) (y21 : Int) (y22 : Int) (l7 : List (List UInt8)) (l8 : List (UInt32 × List UInt8)) (l9 : List (UInt32 × Bool)) (y23 : UInt64) (y24 : List UInt8) (y25 : UInt32) (a6 : UInt32) : Option Bool :=
  (f_device_Device_Put ({ off := y19, isCut := y20, lasts := y21, counts := y22, blocks := l7, pend := l8, bad := l9, rcnt := y23, rtag := y24, rboots := y25 } : DevA) 1 y18).bind fun y27 =>
  (slcI y18 0 32).bind fun s1 =>
  (f_device_Device_Advance y27.2 s1).bind fun y28 =>
  (f_device_Device_Wake y28.2 []).bind fun y29 =>
  cond (((!decide (y27.1 = 0)) || (!decide (y28.1 = 0))) || (!decide (y29.1 = 0)))
  (
    some false)
  (
    (slcI y18 0 32).bind fun s2 =>
    ret (wI (a5 + 1)) fun x4 =>
    nx_f_law07_DeviceCounts_l1 (y29.2.off, y29.2.isCut, y29.2.lasts, y29.2.counts, y29.2.blocks, y29.2.pend, y29.2.bad, y29.2.rcnt, y29.2.rtag, y29.2.rboots, s2, a6, x4))
def f_law07_DeviceCounts_l1_b (p0 : List (List UInt8)) (y1 : Bool) (y2 : Option DevA × Int) (nx_f_law07_DeviceCounts_l1 : Bool × Bool × Int × Int × List (List UInt8) × List (UInt32 × List UInt8) × List (UInt32 × Bool) × UInt64 × List UInt8 × UInt32 × List UInt8 × UInt32 × Int → Option Bool) (y11 : Bool) (y12 : Bool) (y13 : Int) (y14 : Int) (l4 : List (List UInt8)) (l5 : List (UInt32 × List UInt8)) (l6 : List (UInt32 × Bool)) (y15 : UInt64) (y16 : List UInt8) (y17 : UInt32) (a3 : List UInt8) (a4 : UInt32) (a5 : Int) : Option Bool :=
  cond ((decide (a5 < (p0.length : Int))) && (decide (a5 < 50)))
  (
    (nthI p0 a5).bind fun x1 =>
    (f_ref07_Filled x1).bind fun y18 =>
    (nthI p0 a5).bind fun x2 =>
    (remI (x2.length : Int) 2).bind fun q1 =>
    cond (decide (q1 = 0))
    (
      ret (a4 + 1) fun x3 =>
      (f_device_Device_Start ({ off := y11, isCut := y12, lasts := y13, counts := y14, blocks := l4, pend := l5, bad := l6, rcnt := y15, rtag := y16, rboots := y17 } : DevA)).bind fun y26 =>
      cond ((!decide (y26.2.1 = 0)) || (!decide (y26.1 = x3)))
      (
        some false)
      (
        f_law07_DeviceCounts_j2 a5 y18 nx_f_law07_DeviceCounts_l1 y26.2.2.off y26.2.2.isCut y26.2.2.lasts y26.2.2.counts y26.2.2.blocks y26.2.2.pend y26.2.2.bad y26.2.2.rcnt y26.2.2.rtag y26.2.2.rboots x3))
    (
      f_law07_DeviceCounts_j2 a5 y18 nx_f_law07_DeviceCounts_l1 y11 y12 y13 y14 l4 l5 l6 y15 y16 y17 a4))
  (
    f_law07_DeviceCounts_j1 p0 y1 y2 y11 y12 y13 y14 l4 l5 l6 y15 y16 y17 a3 a4)
def f_law07_DeviceCounts_l1 (p0 : List (List UInt8)) (y1 : Bool) (y2 : Option DevA × Int) : Nat → (Bool × Bool × Int × Int × List (List UInt8) × List (UInt32 × List UInt8) × List (UInt32 × Bool) × UInt64 × List UInt8 × UInt32 × List UInt8 × UInt32 × Int) → Option Bool := loopN fun nx x => f_law07_DeviceCounts_l1_b p0 y1 y2 nx x.1 x.2.1 x.2.2.1 x.2.2.2.1 x.2.2.2.2.1 x.2.2.2.2.2.1 x.2.2.2.2.2.2.1 x.2.2.2.2.2.2.2.1 x.2.2.2.2.2.2.2.2.1 x.2.2.2.2.2.2.2.2.2.1 x.2.2.2.2.2.2.2.2.2.2.1 x.2.2.2.2.2.2.2.2.2.2.2.1 x.2.2.2.2.2.2.2.2.2.2.2.2
def f_law07_DeviceCounts (n : Nat) (p0 : List (List UInt8)) : Option Bool :=
  (f_law07_shown).bind fun y1 =>
  (f_device_New 4).bind fun y2 =>
  (y2.1).bind fun d1 =>
  (f_ref07_Zeros 32).bind fun y3 =>
  f_law07_DeviceCounts_l1 p0 y1 y2 n (d1.off, d1.isCut, d1.lasts, d1.counts, d1.blocks, d1.pend, d1.bad, d1.rcnt, d1.rtag, d1.rboots, y3, 0, 0)
set_option maxRecDepth 100000 in
theorem c_law07_DeviceCounts {n : Nat} {v0_ : Value} {p0 : List (List UInt8)} {r : Bool} (h : f_law07_DeviceCounts n p0 = some r) (hs0_ : SlOf K w0 eS 1 v0_ p0) : Con Try.prog K w0 7 [v0_] [] H (fun u M => u = vB r ∧ M = []) := by
  unfold f_law07_DeviceCounts at h
  refine Con.enter Try.func7 rfl rfl ?_
  refine SX.sr ?_
  refine SL.asg ⟨rfl, rfl, rfl, rfl⟩ rfl ?_
  refine SL.nx ?_
  refine SX.sr ?_
  obtain ⟨y1, hy1, h⟩ := bnd h
  refine SL.call (vs := []) (Hin := []) (Hr := _) ⟨rfl, rfl, rfl, rfl⟩ rfl trivial cal10 rfl rfl (c_law07_shown hy1) ?_
  rintro _ _ ⟨rfl, rfl⟩
  refine ⟨trivial, ?_⟩
  refine SL.asg ⟨rfl, rfl, rfl, rfl⟩ rfl ?_
  refine SL.nx ?_
  refine SX.sr ?_
  obtain ⟨y2, hy2, h⟩ := bnd h
  obtain ⟨d1, hd1, h⟩ := bnd h
  refine SL.call (vs := [_]) (Hin := []) (Hr := _) ⟨rfl, rfl, rfl, rfl⟩ rfl ⟨rfl, trivial⟩ cal11 rfl rfl (c_device_New hy2) ?_
  rintro _ _ (⟨hn, -, -⟩ | ⟨d_, b1, v1, m1, m2, hn, rfl, rfl⟩)
  · rw [hd1] at hn; cases hn
  obtain rfl : d1 = d_ := Option.some.inj (hd1.symm.trans hn)
  refine ⟨trivial, ?_⟩
  refine SL.mv ⟨rfl, rfl, rfl, rfl⟩ rfl ?_
  refine SL.ext ⟨rfl, rfl, rfl, rfl⟩ rfl rfl ?_
  refine SL.ext ⟨rfl, rfl, rfl, rfl⟩ rfl rfl ?_
  refine SL.asg ⟨rfl, rfl, rfl, rfl⟩ rfl ?_
  refine SL.asg ⟨rfl, rfl, rfl, rfl⟩ rfl ?_
  refine SL.nx ?_
  refine SX.sr ?_
  obtain ⟨y3, hy3, h⟩ := bnd h
  refine SL.call (vs := [_]) (Hin := []) (Hr := _ :: _ :: _ :: _ :: _) ⟨rfl, rfl, rfl, rfl⟩ rfl ⟨rfl, trivial⟩ cal20 rfl rfl (c_ref07_Zeros hy3) ?_
  rintro _ _ ⟨rfl, rfl⟩
  refine ⟨trivial, ?_⟩
  refine SL.asg ⟨rfl, rfl, rfl, rfl⟩ rfl ?_
  refine SL.nx ?_
  refine SX.sr ?_
  refine SL.asg ⟨rfl, rfl, rfl, rfl⟩ rfl ?_
  refine SL.nx ?_
  refine SX.meetD (α := Bool × Bool × Int × Int × List (List UInt8) × List (UInt32 × List UInt8) × List (UInt32 × Bool) × UInt64 × List UInt8 × UInt32 × List UInt8 × UInt32) (fun x => f_law07_DeviceCounts_j1 p0 y1 y2 x.1 x.2.1 x.2.2.1 x.2.2.2.1 x.2.2.2.2.1 x.2.2.2.2.2.1 x.2.2.2.2.2.2.1 x.2.2.2.2.2.2.2.1 x.2.2.2.2.2.2.2.2.1 x.2.2.2.2.2.2.2.2.2.1 x.2.2.2.2.2.2.2.2.2.2.1 x.2.2.2.2.2.2.2.2.2.2.2 = some r) (fun x => [(0, v0_), (3, vB y1), (4, vP b1 0), (5, vI y2.2), (6, vS x.2.2.2.2.2.2.2.2.2.2.1), (7, vU32 x.2.2.2.2.2.2.2.2.2.2.2)]) (fun x => own b1 (.cells #[vB x.1, vB x.2.1, vI x.2.2.1, vI x.2.2.2.1, v1, .map (some m1), .map (some m2), vU64 x.2.2.2.2.2.2.2.1, vS x.2.2.2.2.2.2.2.2.1, vU32 x.2.2.2.2.2.2.2.2.2.1] 72) :: rowT 9 1 v1 eS x.2.2.2.2.1 :: mapC m1 vU32 vS x.2.2.2.2.2.1 :: mapC m2 vU32 vB x.2.2.2.2.2.2.1 :: H) ?_ (fun x D h => ?_)
  · skip
    refine SX.sr ?_
    refine SL.asg ⟨rfl, rfl, rfl, rfl⟩ rfl ?_
    refine SL.nx ?_
    refine SX.block ?_
    refine SX.heap (SX.mono (SX.loop (α := Nat × Bool × Bool × Int × Int × List (List UInt8) × List (UInt32 × List UInt8) × List (UInt32 × Bool) × UInt64 × List UInt8 × UInt32 × List UInt8 × UInt32 × Int) (fun x => f_law07_DeviceCounts_l1 p0 y1 y2 x.1 (x.2.1, x.2.2.1, x.2.2.2.1, x.2.2.2.2.1, x.2.2.2.2.2.1, x.2.2.2.2.2.2.1, x.2.2.2.2.2.2.2.1, x.2.2.2.2.2.2.2.2.1, x.2.2.2.2.2.2.2.2.2.1, x.2.2.2.2.2.2.2.2.2.2.1, x.2.2.2.2.2.2.2.2.2.2.2.1, x.2.2.2.2.2.2.2.2.2.2.2.2.1, x.2.2.2.2.2.2.2.2.2.2.2.2.2) = some r) (fun x => [(0, v0_), (3, vB y1), (4, vP b1 0), (5, vI y2.2), (6, vS x.2.2.2.2.2.2.2.2.2.2.2.1), (7, vU32 x.2.2.2.2.2.2.2.2.2.2.2.2.1), (8, vI x.2.2.2.2.2.2.2.2.2.2.2.2.2)]) (fun x => own b1 (.cells #[vB x.2.1, vB x.2.2.1, vI x.2.2.2.1, vI x.2.2.2.2.1, v1, .map (some m1), .map (some m2), vU64 x.2.2.2.2.2.2.2.2.1, vS x.2.2.2.2.2.2.2.2.2.1, vU32 x.2.2.2.2.2.2.2.2.2.2.1] 72) :: rowT 9 1 v1 eS x.2.2.2.2.2.1 :: mapC m1 vU32 vS x.2.2.2.2.2.2.1 :: mapC m2 vU32 vB x.2.2.2.2.2.2.2.1 :: H) (fun x => x.1) (fun x D h => ?_) (n, d1.off, d1.isCut, d1.lasts, d1.counts, d1.blocks, d1.pend, d1.bad, d1.rcnt, d1.rtag, d1.rboots, y3, 0, 0) h) (by repeat' (first | exact trivial | refine And.intro rfl ?_))) (fun _ hw => HpOk.pick (H := [_, _, _, _]) hw [0, 1, 2, 3] 4 rfl)
    obtain ⟨m3, y11, y12, y13, y14, l4, l5, l6, y15, y16, y17, a3, a4, a5⟩ := x
    dsimp only at h
    rcases m3 with _ | m3
    · cases (show (none : Option _) = some r from h)
    replace h : f_law07_DeviceCounts_l1_b p0 y1 y2 (f_law07_DeviceCounts_l1 p0 y1 y2 m3) y11 y12 y13 y14 l4 l5 l6 y15 y16 y17 a3 a4 a5 = some r := h
    unfold f_law07_DeviceCounts_l1_b at h
    refine SX.re [(0, v0_), (3, vB y1), (4, vP b1 0), (5, vI y2.2), (6, vS a3), (7, vU32 a4), (8, vI a5)] (own b1 (.cells #[vB y11, vB y12, vI y13, vI y14, v1, .map (some m1), .map (some m2), vU64 y15, vS y16, vU32 y17] 72) :: rowT 9 1 v1 eS l4 :: mapC m1 vU32 vS l5 :: mapC m2 vU32 vB l6 :: H) ?_ (by repeat' (first | exact trivial | refine And.intro rfl ?_))
    refine SX.seq ?_
    refine SX.sr ?_
    refine SL.mv ⟨rfl, rfl, rfl, rfl⟩ rfl ?_
    refine SL.mv ⟨rfl, rfl, rfl, rfl⟩ rfl ?_
    refine SL.lenV hs0_ ⟨rfl, rfl, rfl, rfl⟩ ty41 rfl ?_
    refine SL.bin ⟨rfl, rfl, rfl, rfl⟩ rfl rfl Bin.ltI ?_
    refine SL.mv ⟨rfl, rfl, rfl, rfl⟩ rfl ?_
    refine SL.and (c := decide (a5 < 50)) 25 3 28 rfl (fun hb k => ?_) (fun hb k => ?_) ?_
    · skip
      refine SL.mv ⟨rfl, rfl, rfl, rfl⟩ rfl ?_
      refine SL.bin ⟨rfl, rfl, rfl, rfl⟩ rfl rfl Bin.ltI ?_
      refine SL.pk ⟨rfl, rfl, rfl, rfl⟩ rfl rfl ?_
      exact k.mono (by repeat' (first | exact trivial | refine And.intro rfl ?_))
    · skip
      refine SL.pass rfl rfl rfl ?_
      refine SL.pass rfl rfl rfl ?_
      refine SL.pk ⟨rfl, rfl, rfl, rfl⟩ rfl rfl ?_
      exact k.mono (by repeat' (first | exact trivial | refine And.intro rfl ?_))
    refine SL.nx ?_
    refine SX.cond rfl (fun hc1 => ?_) (fun hc1 => ?_)
    · skip
      replace h := cT hc1 h
      refine SX.skip ?_
      refine SQ.thn ?_
      refine SX.seq ?_
      refine SX.block ?_
      refine SX.sr ?_
      obtain ⟨x1, hx1, h⟩ := bnd h
      obtain ⟨y18, hy18, h⟩ := bnd h
      refine SL.mv ⟨rfl, rfl, rfl, rfl⟩ rfl ?_
      refine SL.mv ⟨rfl, rfl, rfl, rfl⟩ rfl ?_
      refine SL.iaN hx1 hs0_ ⟨rfl, rfl, rfl, rfl⟩ ty41 sz9 rfl rfl fun be1 of1 hc2 => ?_
      refine SL.ld ⟨rfl, rfl, rfl, rfl⟩ sc9 rfl (cell_kept (j := 0) hc2 rfl) ?_
      refine SL.call (vs := [_]) (Hin := []) (Hr := _ :: _ :: _ :: _ :: _) ⟨rfl, rfl, rfl, rfl⟩ rfl ⟨rfl, trivial⟩ cal12 rfl rfl (c_ref07_Filled hy18) ?_
      rintro _ _ ⟨rfl, rfl⟩
      refine ⟨trivial, ?_⟩
      refine SL.asg ⟨rfl, rfl, rfl, rfl⟩ rfl ?_
      refine SL.nx ?_
      refine SX.meetD (α := Bool × Bool × Int × Int × List (List UInt8) × List (UInt32 × List UInt8) × List (UInt32 × Bool) × UInt64 × List UInt8 × UInt32 × UInt32) (fun x => f_law07_DeviceCounts_j2 a5 y18 (f_law07_DeviceCounts_l1 p0 y1 y2 m3) x.1 x.2.1 x.2.2.1 x.2.2.2.1 x.2.2.2.2.1 x.2.2.2.2.2.1 x.2.2.2.2.2.2.1 x.2.2.2.2.2.2.2.1 x.2.2.2.2.2.2.2.2.1 x.2.2.2.2.2.2.2.2.2.1 x.2.2.2.2.2.2.2.2.2.2 = some r) (fun x => [(0, v0_), (3, vB y1), (4, vP b1 0), (5, vI y2.2), (7, vU32 x.2.2.2.2.2.2.2.2.2.2), (8, vI a5), (9, vS y18)]) (fun x => own b1 (.cells #[vB x.1, vB x.2.1, vI x.2.2.1, vI x.2.2.2.1, v1, .map (some m1), .map (some m2), vU64 x.2.2.2.2.2.2.2.1, vS x.2.2.2.2.2.2.2.2.1, vU32 x.2.2.2.2.2.2.2.2.2.1] 72) :: rowT 9 1 v1 eS x.2.2.2.2.1 :: mapC m1 vU32 vS x.2.2.2.2.2.1 :: mapC m2 vU32 vB x.2.2.2.2.2.2.1 :: H) ?_ (fun x D h => ?_)
      · skip
        refine SX.sr ?_
        obtain ⟨x2, hx2, h⟩ := bnd h
        obtain ⟨q1, hq1, h⟩ := bnd h
        refine SL.mv ⟨rfl, rfl, rfl, rfl⟩ rfl ?_
        refine SL.mv ⟨rfl, rfl, rfl, rfl⟩ rfl ?_
        refine SL.iaN hx2 hs0_ ⟨rfl, rfl, rfl, rfl⟩ ty41 sz9 rfl rfl fun be2 of2 hc3 => ?_
        refine SL.ld ⟨rfl, rfl, rfl, rfl⟩ sc9 rfl (cell_kept (j := 0) hc3 rfl) ?_
        refine SL.lenS ⟨rfl, rfl, rfl, rfl⟩ ty9 rfl ?_
        refine SL.bin ⟨rfl, rfl, rfl, rfl⟩ rfl rfl (Bin.modO hq1) ?_
        refine SL.bin ⟨rfl, rfl, rfl, rfl⟩ rfl rfl Bin.eqI ?_
        refine SL.nx ?_
        refine SX.cond rfl (fun hc4 => ?_) (fun hc4 => ?_)
        · skip
          replace h := cT hc4 h
          refine SX.sr ?_
          obtain ⟨x3, ex3, h⟩ := retE h
          refine SL.mv ⟨rfl, rfl, rfl, rfl⟩ rfl ?_
          refine SL.bin ⟨rfl, rfl, rfl, rfl⟩ rfl rfl (Bin.add32 (b := 1)) ?_
          refine SL.asgX (u := vU32 x3) ⟨rfl, rfl, rfl, rfl⟩ rfl (congrArg vU32 ex3) ?_
          refine SL.nx ?_
          refine SX.sr ?_
          obtain ⟨y26, hy26, h⟩ := bnd h
          refine SL.mv ⟨rfl, rfl, rfl, rfl⟩ rfl ?_
          refine SL.call (vs := [_]) (Hin := [_, _, _, _]) (Hr := _) ⟨rfl, rfl, rfl, rfl⟩ rfl ⟨rfl, trivial⟩ cal21 rfl rfl (c_device_Device_Start hy26) ?_
          rintro _ _ ⟨rfl, rfl⟩
          refine ⟨trivial, ?_⟩
          refine SL.mv ⟨rfl, rfl, rfl, rfl⟩ rfl ?_
          refine SL.ext ⟨rfl, rfl, rfl, rfl⟩ rfl rfl ?_
          refine SL.ext ⟨rfl, rfl, rfl, rfl⟩ rfl rfl ?_
          refine SL.asg ⟨rfl, rfl, rfl, rfl⟩ rfl ?_
          refine SL.asg ⟨rfl, rfl, rfl, rfl⟩ rfl ?_
          refine SL.nx ?_
          refine SX.re [(0, v0_), (3, vB y1), (4, vP b1 0), (5, vI y2.2), (7, vU32 x3), (8, vI a5), (9, vS y18), (10, vU32 y26.1), (11, vI y26.2.1)] (own b1 (.cells #[vB y26.2.2.off, vB y26.2.2.isCut, vI y26.2.2.lasts, vI y26.2.2.counts, v1, .map (some m1), .map (some m2), vU64 y26.2.2.rcnt, vS y26.2.2.rtag, vU32 y26.2.2.rboots] 72) :: rowT 9 1 v1 eS y26.2.2.blocks :: mapC m1 vU32 vS y26.2.2.pend :: mapC m2 vU32 vB y26.2.2.bad :: H) ?_ (by repeat' (first | exact trivial | refine And.intro rfl ?_))
          refine SX.sr ?_
          refine SL.mv ⟨rfl, rfl, rfl, rfl⟩ rfl ?_
          refine SL.bin ⟨rfl, rfl, rfl, rfl⟩ rfl rfl Bin.neI ?_
          refine SL.mv ⟨rfl, rfl, rfl, rfl⟩ rfl ?_
          refine SL.or (c := !decide (y26.1 = x3)) 52 4 56 rfl (fun hb k => ?_) (fun hb k => ?_) ?_
          · skip
            refine SL.pass rfl rfl rfl ?_
            refine SL.pass rfl rfl rfl ?_
            refine SL.pass rfl rfl rfl ?_
            refine SL.pk ⟨rfl, rfl, rfl, rfl⟩ rfl rfl ?_
            exact k.mono (by repeat' (first | exact trivial | refine And.intro rfl ?_))
          · skip
            refine SL.mv ⟨rfl, rfl, rfl, rfl⟩ rfl ?_
            refine SL.mv ⟨rfl, rfl, rfl, rfl⟩ rfl ?_
            refine SL.bin ⟨rfl, rfl, rfl, rfl⟩ rfl rfl Bin.ne32 ?_
            refine SL.pk ⟨rfl, rfl, rfl, rfl⟩ rfl rfl ?_
            exact k.mono (by repeat' (first | exact trivial | refine And.intro rfl ?_))
          refine SL.nx ?_
          refine SX.cond rfl (fun hc5 => ?_) (fun hc5 => ?_)
          · skip
            replace h := cT hc5 h
            refine SX.sr ?_
            refine SL.asg ⟨rfl, rfl, rfl, rfl⟩ rfl ?_
            refine SL.nx ?_
            refine SX.ret ?_
            refine SQ.midDR ?_
            refine SQ.blkR ?_
            refine SQ.thnR ?_
            refine SQ.lpR ?_
            refine SQ.blkR ?_
            refine SQ.midDR ?_
            obtain rfl := Option.some.inj h
            exact SQ.fret (res1 rfl rfl) (ret_of (M := []) ⟨rfl, rfl⟩ fun _ hw => HpOk.pick (H := [_, _, _, _]) hw [] 4 rfl)
          · skip
            replace h := cF hc5 h
            refine SX.skip ?_
            exact SQ.midD (y26.2.2.off, y26.2.2.isCut, y26.2.2.lasts, y26.2.2.counts, y26.2.2.blocks, y26.2.2.pend, y26.2.2.bad, y26.2.2.rcnt, y26.2.2.rtag, y26.2.2.rboots, x3) h (by repeat' (first | exact trivial | refine And.intro rfl ?_)) (fun _ hw => HpOk.pick (H := [_, _, _, _]) hw [0, 1, 2, 3] 4 rfl)
        · skip
          replace h := cF hc4 h
          refine SX.skip ?_
          exact SQ.midD (y11, y12, y13, y14, l4, l5, l6, y15, y16, y17, a4) h (by repeat' (first | exact trivial | refine And.intro rfl ?_)) (fun _ hw => HpOk.pick (H := [_, _, _, _]) hw [0, 1, 2, 3] 4 rfl)
      · skip
        obtain ⟨y19, y20, y21, y22, l7, l8, l9, y23, y24, y25, a6⟩ := x
        dsimp only at h
        unfold f_law07_DeviceCounts_j2 at h
        refine SX.re [(0, v0_), (3, vB y1), (4, vP b1 0), (5, vI y2.2), (7, vU32 a6), (8, vI a5), (9, vS y18)] (own b1 (.cells #[vB y19, vB y20, vI y21, vI y22, v1, .map (some m1), .map (some m2), vU64 y23, vS y24, vU32 y25] 72) :: rowT 9 1 v1 eS l7 :: mapC m1 vU32 vS l8 :: mapC m2 vU32 vB l9 :: H) ?_ (by repeat' (first | exact trivial | refine And.intro rfl ?_))
        refine SX.sr ?_
        obtain ⟨y27, hy27, h⟩ := bnd h
        refine SL.mv ⟨rfl, rfl, rfl, rfl⟩ rfl ?_
        refine SL.mv ⟨rfl, rfl, rfl, rfl⟩ rfl ?_
        refine SL.call (vs := [_, vU32 1, _]) (Hin := [_, _, _, _]) (Hr := _) ⟨rfl, rfl, rfl, rfl⟩ rfl ⟨rfl, rfl, rfl, trivial⟩ cal18 rfl rfl (c_device_Device_Put hy27) ?_
        rintro _ _ ⟨rfl, rfl⟩
        refine ⟨trivial, ?_⟩
        refine SL.asg ⟨rfl, rfl, rfl, rfl⟩ rfl ?_
        refine SL.nx ?_
        refine SX.sr ?_
        obtain ⟨s1, hs1, h⟩ := bnd h
        obtain ⟨y28, hy28, h⟩ := bnd h
        refine SL.mv ⟨rfl, rfl, rfl, rfl⟩ rfl ?_
        refine SL.mv ⟨rfl, rfl, rfl, rfl⟩ rfl ?_
        refine SL.slNh hs1 ⟨rfl, rfl, rfl, rfl⟩ ty9 rfl rfl ?_
        refine SL.call (vs := [_, _]) (Hin := [_, _, _, _]) (Hr := _) ⟨rfl, rfl, rfl, rfl⟩ rfl ⟨rfl, rfl, trivial⟩ cal22 rfl rfl (c_device_Device_Advance hy28) ?_
        rintro _ _ ⟨rfl, rfl⟩
        refine ⟨trivial, ?_⟩
        refine SL.asg ⟨rfl, rfl, rfl, rfl⟩ rfl ?_
        refine SL.nx ?_
        refine SX.sr ?_
        obtain ⟨y29, hy29, h⟩ := bnd h
        refine SL.mv ⟨rfl, rfl, rfl, rfl⟩ rfl ?_
        refine SL.call (vs := [_, _]) (Hin := [_, _, _, _]) (Hr := _) ⟨rfl, rfl, rfl, rfl⟩ rfl ⟨rfl, rfl, trivial⟩ cal16 rfl rfl (c_device_Device_Wake hy29 (SlOf.nil (fun _ => rfl))) ?_
        rintro _ _ ⟨rfl, rfl⟩
        refine ⟨trivial, ?_⟩
        refine SL.asg ⟨rfl, rfl, rfl, rfl⟩ rfl ?_
        refine SL.nx ?_
        refine SX.seq ?_
        refine SX.sr ?_
        refine SL.mv ⟨rfl, rfl, rfl, rfl⟩ rfl ?_
        refine SL.bin ⟨rfl, rfl, rfl, rfl⟩ rfl rfl Bin.neI ?_
        refine SL.mv ⟨rfl, rfl, rfl, rfl⟩ rfl ?_
        refine SL.or (c := !decide (y28.1 = 0)) 68 3 71 rfl (fun hb k => ?_) (fun hb k => ?_) ?_
        · skip
          refine SL.pass rfl rfl rfl ?_
          refine SL.pass rfl rfl rfl ?_
          refine SL.pk ⟨rfl, rfl, rfl, rfl⟩ rfl rfl ?_
          exact k.mono (by repeat' (first | exact trivial | refine And.intro rfl ?_))
        · skip
          refine SL.mv ⟨rfl, rfl, rfl, rfl⟩ rfl ?_
          refine SL.bin ⟨rfl, rfl, rfl, rfl⟩ rfl rfl Bin.neI ?_
          refine SL.pk ⟨rfl, rfl, rfl, rfl⟩ rfl rfl ?_
          exact k.mono (by repeat' (first | exact trivial | refine And.intro rfl ?_))
        refine SL.mv ⟨rfl, rfl, rfl, rfl⟩ rfl ?_
        refine SL.or (c := !decide (y29.1 = 0)) 72 3 75 rfl (fun hb k => ?_) (fun hb k => ?_) ?_
        · skip
          refine SL.pass rfl rfl rfl ?_
          refine SL.pass rfl rfl rfl ?_
          refine SL.pk ⟨rfl, rfl, rfl, rfl⟩ rfl rfl ?_
          exact k.mono (by repeat' (first | exact trivial | refine And.intro rfl ?_))
        · skip
          refine SL.mv ⟨rfl, rfl, rfl, rfl⟩ rfl ?_
          refine SL.bin ⟨rfl, rfl, rfl, rfl⟩ rfl rfl Bin.neI ?_
          refine SL.pk ⟨rfl, rfl, rfl, rfl⟩ rfl rfl ?_
          exact k.mono (by repeat' (first | exact trivial | refine And.intro rfl ?_))
        refine SL.nx ?_
        refine SX.cond rfl (fun hc6 => ?_) (fun hc6 => ?_)
        · skip
          replace h := cT hc6 h
          refine SX.sr ?_
          refine SL.asg ⟨rfl, rfl, rfl, rfl⟩ rfl ?_
          refine SL.nx ?_
          refine SX.ret ?_
          refine SQ.thnR ?_
          refine SQ.blkR ?_
          refine SQ.thnR ?_
          refine SQ.lpR ?_
          refine SQ.blkR ?_
          refine SQ.midDR ?_
          obtain rfl := Option.some.inj h
          exact SQ.fret (res1 rfl rfl) (ret_of (M := []) ⟨rfl, rfl⟩ fun _ hw => HpOk.pick (H := [_, _, _, _]) hw [] 4 rfl)
        · skip
          replace h := cF hc6 h
          refine SX.skip ?_
          refine SQ.thn ?_
          refine SX.region ?_
          obtain ⟨s2, hs2, h⟩ := bnd h
          refine SL.mv ⟨rfl, rfl, rfl, rfl⟩ rfl ?_
          refine SL.slNh hs2 ⟨rfl, rfl, rfl, rfl⟩ ty9 rfl rfl ?_
          refine SL.asg ⟨rfl, rfl, rfl, rfl⟩ rfl ?_
          refine SL.nil ?_
          refine SQ.blk ?_
          refine SQ.thn ?_
          refine SX.region ?_
          obtain ⟨x4, ex4, h⟩ := retE h
          refine SL.mv ⟨rfl, rfl, rfl, rfl⟩ rfl ?_
          refine SL.bin ⟨rfl, rfl, rfl, rfl⟩ rfl rfl Bin.addW ?_
          refine SL.asgX (u := vI x4) ⟨rfl, rfl, rfl, rfl⟩ rfl (congrArg vI ex4) ?_
          refine SL.nil ?_
          exact SQ.again (m3, y29.2.off, y29.2.isCut, y29.2.lasts, y29.2.counts, y29.2.blocks, y29.2.pend, y29.2.bad, y29.2.rcnt, y29.2.rtag, y29.2.rboots, s2, a6, x4) h (Nat.lt_succ_self _) (by repeat' (first | exact trivial | refine And.intro rfl ?_)) (fun _ hw => HpOk.pick (H := [_, _, _, _]) hw [0, 1, 2, 3] 4 rfl)
    · skip
      replace h := cF hc1 h
      refine SX.exit ?_
      refine SQ.thnE ?_
      refine SQ.lpE ?_
      refine SQ.blkE ?_
      exact SQ.midD (y11, y12, y13, y14, l4, l5, l6, y15, y16, y17, a3, a4) h (by repeat' (first | exact trivial | refine And.intro rfl ?_)) (fun _ hw => HpOk.pick (H := [_, _, _, _]) hw [0, 1, 2, 3] 4 rfl)
  · skip
    obtain ⟨y4, y5, y6, y7, l1, l2, l3, y8, y9, y10, a1, a2⟩ := x
    dsimp only at h
    unfold f_law07_DeviceCounts_j1 at h
    refine SX.re [(0, v0_), (3, vB y1), (4, vP b1 0), (5, vI y2.2), (6, vS a1), (7, vU32 a2)] (own b1 (.cells #[vB y4, vB y5, vI y6, vI y7, v1, .map (some m1), .map (some m2), vU64 y8, vS y9, vU32 y10] 72) :: rowT 9 1 v1 eS l1 :: mapC m1 vU32 vS l2 :: mapC m2 vU32 vB l3 :: H) ?_ (by repeat' (first | exact trivial | refine And.intro rfl ?_))
    refine SX.sr ?_
    obtain ⟨y31, hy31, h⟩ := bnd h
    refine SL.mv ⟨rfl, rfl, rfl, rfl⟩ rfl ?_
    refine SL.mv ⟨rfl, rfl, rfl, rfl⟩ rfl ?_
    refine SL.and (c := decide (y2.2 = 0)) 79 3 82 rfl (fun hb k => ?_) (fun hb k => ?_) ?_
    · skip
      refine SL.mv ⟨rfl, rfl, rfl, rfl⟩ rfl ?_
      refine SL.bin ⟨rfl, rfl, rfl, rfl⟩ rfl rfl Bin.eqI ?_
      refine SL.pk ⟨rfl, rfl, rfl, rfl⟩ rfl rfl ?_
      exact k.mono (by repeat' (first | exact trivial | refine And.intro rfl ?_))
    · skip
      refine SL.pass rfl rfl rfl ?_
      refine SL.pass rfl rfl rfl ?_
      refine SL.pk ⟨rfl, rfl, rfl, rfl⟩ rfl rfl ?_
      exact k.mono (by repeat' (first | exact trivial | refine And.intro rfl ?_))
    refine SL.mv ⟨rfl, rfl, rfl, rfl⟩ rfl ?_
    refine SL.andN 83 11 94 hy31 rfl (fun hb hg6 k => ?_) (fun hb k => ?_) ?_
    · skip
      obtain ⟨y30, hy30, hg6⟩ := bnd hg6
      obtain rfl := Option.some.inj hg6
      refine SL.mv ⟨rfl, rfl, rfl, rfl⟩ rfl ?_
      refine SL.call (vs := [_]) (Hin := [_, _, _, _]) (Hr := _) ⟨rfl, rfl, rfl, rfl⟩ rfl ⟨rfl, trivial⟩ cal23 rfl rfl (c_device_Device_Register hy30) ?_
      rintro _ _ ⟨rfl, rfl⟩
      refine ⟨trivial, ?_⟩
      refine SL.mv ⟨rfl, rfl, rfl, rfl⟩ rfl ?_
      refine SL.lenV hs0_ ⟨rfl, rfl, rfl, rfl⟩ ty41 rfl ?_
      refine SL.minI ⟨rfl, rfl, rfl, rfl⟩ rfl rfl ?_
      refine SL.cv ⟨rfl, rfl, rfl, rfl⟩ rfl (Cv.i_64 ty3 ty50) ?_
      refine SL.mv ⟨rfl, rfl, rfl, rfl⟩ rfl ?_
      refine SL.mv ⟨rfl, rfl, rfl, rfl⟩ rfl ?_
      refine SL.bld [_, _, _] ⟨rfl, rfl, rfl, rfl⟩ pl52 pk52 ze52 ⟨rfl, rfl, rfl, trivial⟩ rfl ?_
      refine SL.eqAgg ⟨rfl, rfl, rfl, rfl⟩ fl52 rfl rfl (flatE_cons rfl rfl (eqV_64 (a := y30.cnt) (b := toU64 (min (p0.length : Int) 50))) (flatE_cons rfl rfl (eqV_S (a := y30.tag) (b := a1)) (flatE_cons rfl rfl (eqV_32 (a := y30.boots) (b := a2)) flatE_nil))) ?_
      refine SL.pk ⟨rfl, rfl, rfl, rfl⟩ rfl rfl ?_
      exact k.mono (by repeat' (first | exact trivial | refine And.intro rfl ?_))
    · skip
      refine SL.pass rfl rfl rfl ?_
      refine SL.pass rfl rfl rfl ?_
      refine SL.pass rfl rfl rfl ?_
      refine SL.pass rfl rfl rfl ?_
      refine SL.pass rfl rfl rfl ?_
      refine SL.pass rfl rfl rfl ?_
      refine SL.pass rfl rfl rfl ?_
      refine SL.pass rfl rfl rfl ?_
      refine SL.pass rfl rfl rfl ?_
      refine SL.pass rfl rfl rfl ?_
      refine SL.pk ⟨rfl, rfl, rfl, rfl⟩ rfl rfl ?_
      exact k.mono (by repeat' (first | exact trivial | refine And.intro rfl ?_))
    refine SL.asg ⟨rfl, rfl, rfl, rfl⟩ rfl ?_
    refine SL.nx ?_
    refine SX.ret ?_
    obtain rfl := Option.some.inj h
    exact SQ.fret (res1 rfl rfl) (ret_of (M := []) ⟨rfl, rfl⟩ fun _ hw => HpOk.pick (H := [_, _, _, _]) hw [] 4 rfl)

def f_law07_DeviceNone (p0 : UInt32) (p1 : List UInt8) (p2 : List Int) : Option Bool :=
  (f_law07_shown).bind fun y1 =>
  (f_device_Device_Read_nil p0).bind fun y2 =>
  (f_device_Device_Start_nil).bind fun y3 =>
  (f_device_Device_Cut_nil (p2.length : Int)).bind fun y4 =>
  (andO ((y1 && (decide (y2.2 = 1))) && (decide (y3.2 = 1))) ((f_device_Device_Write_nil p0 p1).bind fun y5 => some (decide (y5 = 1)))).bind fun y6 =>
  (andO y6 ((f_device_Device_Flush_nil).bind fun y7 => some (decide (y7 = 1)))).bind fun y8 =>
  (andO y8 ((f_device_Device_Advance_nil p1).bind fun y9 => some (decide (y9 = 1)))).bind fun y10 =>
  (andO y10 ((f_device_Device_Wake_nil p2).bind fun y11 => some (decide (y11 = 1)))).bind fun y12 =>
  (andO y12 ((f_device_Device_Put_nil p0 p1).bind fun y13 => some (decide (y13 = 1)))).bind fun y14 =>
  (andO y14 ((f_device_Device_Bad_nil p0 true).bind fun y15 => some (decide (y15 = 1)))).bind fun y16 =>
  (andO y16 ((f_device_Device_Image_nil).bind fun y17 => some (decide ((y17.length : Int) = 0)))).bind fun y18 =>
  (andO y18 ((f_device_Device_Blocks_nil).bind fun y19 => some (decide (y19 = 0)))).bind fun y20 =>
  (andO y20 ((f_device_Device_Register_nil).bind fun y21 => some (decide (y21.cnt = 0) && (decide (y21.tag = []) && (decide (y21.boots = 0) && true))))).bind fun y22 =>
  some y22
set_option maxRecDepth 100000 in
theorem c_law07_DeviceNone {p0 : UInt32} {p1 : List UInt8} {v2_ : Value} {p2 : List Int} {r : Bool} (h : f_law07_DeviceNone p0 p1 p2 = some r) (hs2_ : SlOf K w0 eI 1 v2_ p2) : Con Try.prog K w0 9 [vU32 p0, vS p1, v2_] [] H (fun u M => u = vB r ∧ M = []) := by
  unfold f_law07_DeviceNone at h
  refine Con.enter Try.func9 rfl rfl ?_
  refine SX.sr ?_
  refine SL.asg ⟨rfl, rfl, rfl, rfl⟩ rfl ?_
  refine SL.nx ?_
  refine SX.sr ?_
  obtain ⟨y1, hy1, h⟩ := bnd h
  refine SL.call (vs := []) (Hin := []) (Hr := _) ⟨rfl, rfl, rfl, rfl⟩ rfl trivial cal10 rfl rfl (c_law07_shown hy1) ?_
  rintro _ _ ⟨rfl, rfl⟩
  refine ⟨trivial, ?_⟩
  refine SL.asg ⟨rfl, rfl, rfl, rfl⟩ rfl ?_
  refine SL.nx ?_
  refine SX.sr ?_
  refine SL.asg ⟨rfl, rfl, rfl, rfl⟩ rfl ?_
  refine SL.nx ?_
  refine SX.sr ?_
  obtain ⟨y2, hy2, h⟩ := bnd h
  refine SL.mv ⟨rfl, rfl, rfl, rfl⟩ rfl ?_
  refine SL.mv ⟨rfl, rfl, rfl, rfl⟩ rfl ?_
  refine SL.call (vs := [_, _]) (Hin := []) (Hr := _) ⟨rfl, rfl, rfl, rfl⟩ rfl ⟨rfl, rfl, trivial⟩ cal17 rfl rfl (c_device_Device_Read_nil hy2) ?_
  rintro _ _ ⟨rfl, rfl⟩
  refine ⟨trivial, ?_⟩
  refine SL.mv ⟨rfl, rfl, rfl, rfl⟩ rfl ?_
  refine SL.ext ⟨rfl, rfl, rfl, rfl⟩ rfl rfl ?_
  refine SL.ext ⟨rfl, rfl, rfl, rfl⟩ rfl rfl ?_
  refine SL.asg ⟨rfl, rfl, rfl, rfl⟩ rfl ?_
  refine SL.asg ⟨rfl, rfl, rfl, rfl⟩ rfl ?_
  refine SL.nx ?_
  refine SX.sr ?_
  obtain ⟨y3, hy3, h⟩ := bnd h
  refine SL.mv ⟨rfl, rfl, rfl, rfl⟩ rfl ?_
  refine SL.call (vs := [_]) (Hin := []) (Hr := _) ⟨rfl, rfl, rfl, rfl⟩ rfl ⟨rfl, trivial⟩ cal21 rfl rfl (c_device_Device_Start_nil hy3) ?_
  rintro _ _ ⟨rfl, rfl⟩
  refine ⟨trivial, ?_⟩
  refine SL.mv ⟨rfl, rfl, rfl, rfl⟩ rfl ?_
  refine SL.ext ⟨rfl, rfl, rfl, rfl⟩ rfl rfl ?_
  refine SL.ext ⟨rfl, rfl, rfl, rfl⟩ rfl rfl ?_
  refine SL.asg ⟨rfl, rfl, rfl, rfl⟩ rfl ?_
  refine SL.asg ⟨rfl, rfl, rfl, rfl⟩ rfl ?_
  refine SL.nx ?_
  refine SX.sr ?_
  obtain ⟨y4, hy4, h⟩ := bnd h
  refine SL.mv ⟨rfl, rfl, rfl, rfl⟩ rfl ?_
  refine SL.mv ⟨rfl, rfl, rfl, rfl⟩ rfl ?_
  refine SL.lenV hs2_ ⟨rfl, rfl, rfl, rfl⟩ ty32 rfl ?_
  refine SL.call (vs := [_, _]) (Hin := []) (Hr := _) ⟨rfl, rfl, rfl, rfl⟩ rfl ⟨rfl, rfl, trivial⟩ cal15 rfl rfl (c_device_Device_Cut_nil hy4) ?_
  rintro _ _ ⟨rfl, rfl⟩
  refine ⟨trivial, ?_⟩
  refine SL.nx ?_
  refine SX.sr ?_
  obtain ⟨y6, hy6, h⟩ := bnd h
  obtain ⟨y8, hy8, h⟩ := bnd h
  obtain ⟨y10, hy10, h⟩ := bnd h
  obtain ⟨y12, hy12, h⟩ := bnd h
  obtain ⟨y14, hy14, h⟩ := bnd h
  obtain ⟨y16, hy16, h⟩ := bnd h
  obtain ⟨y18, hy18, h⟩ := bnd h
  obtain ⟨y20, hy20, h⟩ := bnd h
  obtain ⟨y22, hy22, h⟩ := bnd h
  refine SL.mv ⟨rfl, rfl, rfl, rfl⟩ rfl ?_
  refine SL.mv ⟨rfl, rfl, rfl, rfl⟩ rfl ?_
  refine SL.and (c := decide (y2.2 = 1)) 30 3 33 rfl (fun hb k => ?_) (fun hb k => ?_) ?_
  · skip
    refine SL.mv ⟨rfl, rfl, rfl, rfl⟩ rfl ?_
    refine SL.bin ⟨rfl, rfl, rfl, rfl⟩ rfl rfl Bin.eqI ?_
    refine SL.pk ⟨rfl, rfl, rfl, rfl⟩ rfl rfl ?_
    exact k.mono (by repeat' (first | exact trivial | refine And.intro rfl ?_))
  · skip
    refine SL.pass rfl rfl rfl ?_
    refine SL.pass rfl rfl rfl ?_
    refine SL.pk ⟨rfl, rfl, rfl, rfl⟩ rfl rfl ?_
    exact k.mono (by repeat' (first | exact trivial | refine And.intro rfl ?_))
  refine SL.mv ⟨rfl, rfl, rfl, rfl⟩ rfl ?_
  refine SL.and (c := decide (y3.2 = 1)) 34 3 37 rfl (fun hb k => ?_) (fun hb k => ?_) ?_
  · skip
    refine SL.mv ⟨rfl, rfl, rfl, rfl⟩ rfl ?_
    refine SL.bin ⟨rfl, rfl, rfl, rfl⟩ rfl rfl Bin.eqI ?_
    refine SL.pk ⟨rfl, rfl, rfl, rfl⟩ rfl rfl ?_
    exact k.mono (by repeat' (first | exact trivial | refine And.intro rfl ?_))
  · skip
    refine SL.pass rfl rfl rfl ?_
    refine SL.pass rfl rfl rfl ?_
    refine SL.pk ⟨rfl, rfl, rfl, rfl⟩ rfl rfl ?_
    exact k.mono (by repeat' (first | exact trivial | refine And.intro rfl ?_))
  refine SL.mv ⟨rfl, rfl, rfl, rfl⟩ rfl ?_
  refine SL.andN 38 6 44 hy6 rfl (fun hb hg3 k => ?_) (fun hb k => ?_) ?_
  · skip
    obtain ⟨y5, hy5, hg3⟩ := bnd hg3
    obtain rfl := Option.some.inj hg3
    refine SL.mv ⟨rfl, rfl, rfl, rfl⟩ rfl ?_
    refine SL.mv ⟨rfl, rfl, rfl, rfl⟩ rfl ?_
    refine SL.mv ⟨rfl, rfl, rfl, rfl⟩ rfl ?_
    refine SL.call (vs := [_, _, _]) (Hin := []) (Hr := _) ⟨rfl, rfl, rfl, rfl⟩ rfl ⟨rfl, rfl, rfl, trivial⟩ cal13 rfl rfl (c_device_Device_Write_nil hy5) ?_
    rintro _ _ ⟨rfl, rfl⟩
    refine ⟨trivial, ?_⟩
    refine SL.bin ⟨rfl, rfl, rfl, rfl⟩ rfl rfl Bin.eqI ?_
    refine SL.pk ⟨rfl, rfl, rfl, rfl⟩ rfl rfl ?_
    exact k.mono (by repeat' (first | exact trivial | refine And.intro rfl ?_))
  · skip
    refine SL.pass rfl rfl rfl ?_
    refine SL.pass rfl rfl rfl ?_
    refine SL.pass rfl rfl rfl ?_
    refine SL.pass rfl rfl rfl ?_
    refine SL.pass rfl rfl rfl ?_
    refine SL.pk ⟨rfl, rfl, rfl, rfl⟩ rfl rfl ?_
    exact k.mono (by repeat' (first | exact trivial | refine And.intro rfl ?_))
  refine SL.mv ⟨rfl, rfl, rfl, rfl⟩ rfl ?_
  refine SL.andN 45 4 49 hy8 rfl (fun hb hg4 k => ?_) (fun hb k => ?_) ?_
  · skip
    obtain ⟨y7, hy7, hg4⟩ := bnd hg4
    obtain rfl := Option.some.inj hg4
    refine SL.mv ⟨rfl, rfl, rfl, rfl⟩ rfl ?_
    refine SL.call (vs := [_]) (Hin := []) (Hr := _) ⟨rfl, rfl, rfl, rfl⟩ rfl ⟨rfl, trivial⟩ cal14 rfl rfl (c_device_Device_Flush_nil hy7) ?_
    rintro _ _ ⟨rfl, rfl⟩
    refine ⟨trivial, ?_⟩
    refine SL.bin ⟨rfl, rfl, rfl, rfl⟩ rfl rfl Bin.eqI ?_
    refine SL.pk ⟨rfl, rfl, rfl, rfl⟩ rfl rfl ?_
    exact k.mono (by repeat' (first | exact trivial | refine And.intro rfl ?_))
  · skip
    refine SL.pass rfl rfl rfl ?_
    refine SL.pass rfl rfl rfl ?_
    refine SL.pass rfl rfl rfl ?_
    refine SL.pk ⟨rfl, rfl, rfl, rfl⟩ rfl rfl ?_
    exact k.mono (by repeat' (first | exact trivial | refine And.intro rfl ?_))
  refine SL.mv ⟨rfl, rfl, rfl, rfl⟩ rfl ?_
  refine SL.andN 50 5 55 hy10 rfl (fun hb hg5 k => ?_) (fun hb k => ?_) ?_
  · skip
    obtain ⟨y9, hy9, hg5⟩ := bnd hg5
    obtain rfl := Option.some.inj hg5
    refine SL.mv ⟨rfl, rfl, rfl, rfl⟩ rfl ?_
    refine SL.mv ⟨rfl, rfl, rfl, rfl⟩ rfl ?_
    refine SL.call (vs := [_, _]) (Hin := []) (Hr := _) ⟨rfl, rfl, rfl, rfl⟩ rfl ⟨rfl, rfl, trivial⟩ cal22 rfl rfl (c_device_Device_Advance_nil hy9) ?_
    rintro _ _ ⟨rfl, rfl⟩
    refine ⟨trivial, ?_⟩
    refine SL.bin ⟨rfl, rfl, rfl, rfl⟩ rfl rfl Bin.eqI ?_
    refine SL.pk ⟨rfl, rfl, rfl, rfl⟩ rfl rfl ?_
    exact k.mono (by repeat' (first | exact trivial | refine And.intro rfl ?_))
  · skip
    refine SL.pass rfl rfl rfl ?_
    refine SL.pass rfl rfl rfl ?_
    refine SL.pass rfl rfl rfl ?_
    refine SL.pass rfl rfl rfl ?_
    refine SL.pk ⟨rfl, rfl, rfl, rfl⟩ rfl rfl ?_
    exact k.mono (by repeat' (first | exact trivial | refine And.intro rfl ?_))
  refine SL.mv ⟨rfl, rfl, rfl, rfl⟩ rfl ?_
  refine SL.andN 56 5 61 hy12 rfl (fun hb hg6 k => ?_) (fun hb k => ?_) ?_
  · skip
    obtain ⟨y11, hy11, hg6⟩ := bnd hg6
    obtain rfl := Option.some.inj hg6
    refine SL.mv ⟨rfl, rfl, rfl, rfl⟩ rfl ?_
    refine SL.mv ⟨rfl, rfl, rfl, rfl⟩ rfl ?_
    refine SL.call (vs := [_, _]) (Hin := []) (Hr := _) ⟨rfl, rfl, rfl, rfl⟩ rfl ⟨rfl, rfl, trivial⟩ cal16 rfl rfl (c_device_Device_Wake_nil hy11 hs2_) ?_
    rintro _ _ ⟨rfl, rfl⟩
    refine ⟨trivial, ?_⟩
    refine SL.bin ⟨rfl, rfl, rfl, rfl⟩ rfl rfl Bin.eqI ?_
    refine SL.pk ⟨rfl, rfl, rfl, rfl⟩ rfl rfl ?_
    exact k.mono (by repeat' (first | exact trivial | refine And.intro rfl ?_))
  · skip
    refine SL.pass rfl rfl rfl ?_
    refine SL.pass rfl rfl rfl ?_
    refine SL.pass rfl rfl rfl ?_
    refine SL.pass rfl rfl rfl ?_
    refine SL.pk ⟨rfl, rfl, rfl, rfl⟩ rfl rfl ?_
    exact k.mono (by repeat' (first | exact trivial | refine And.intro rfl ?_))
  refine SL.mv ⟨rfl, rfl, rfl, rfl⟩ rfl ?_
  refine SL.andN 62 6 68 hy14 rfl (fun hb hg7 k => ?_) (fun hb k => ?_) ?_
  · skip
    obtain ⟨y13, hy13, hg7⟩ := bnd hg7
    obtain rfl := Option.some.inj hg7
    refine SL.mv ⟨rfl, rfl, rfl, rfl⟩ rfl ?_
    refine SL.mv ⟨rfl, rfl, rfl, rfl⟩ rfl ?_
    refine SL.mv ⟨rfl, rfl, rfl, rfl⟩ rfl ?_
    refine SL.call (vs := [_, _, _]) (Hin := []) (Hr := _) ⟨rfl, rfl, rfl, rfl⟩ rfl ⟨rfl, rfl, rfl, trivial⟩ cal18 rfl rfl (c_device_Device_Put_nil hy13) ?_
    rintro _ _ ⟨rfl, rfl⟩
    refine ⟨trivial, ?_⟩
    refine SL.bin ⟨rfl, rfl, rfl, rfl⟩ rfl rfl Bin.eqI ?_
    refine SL.pk ⟨rfl, rfl, rfl, rfl⟩ rfl rfl ?_
    exact k.mono (by repeat' (first | exact trivial | refine And.intro rfl ?_))
  · skip
    refine SL.pass rfl rfl rfl ?_
    refine SL.pass rfl rfl rfl ?_
    refine SL.pass rfl rfl rfl ?_
    refine SL.pass rfl rfl rfl ?_
    refine SL.pass rfl rfl rfl ?_
    refine SL.pk ⟨rfl, rfl, rfl, rfl⟩ rfl rfl ?_
    exact k.mono (by repeat' (first | exact trivial | refine And.intro rfl ?_))
  refine SL.mv ⟨rfl, rfl, rfl, rfl⟩ rfl ?_
  refine SL.andN 69 5 74 hy16 rfl (fun hb hg8 k => ?_) (fun hb k => ?_) ?_
  · skip
    obtain ⟨y15, hy15, hg8⟩ := bnd hg8
    obtain rfl := Option.some.inj hg8
    refine SL.mv ⟨rfl, rfl, rfl, rfl⟩ rfl ?_
    refine SL.mv ⟨rfl, rfl, rfl, rfl⟩ rfl ?_
    refine SL.call (vs := [_, _, _]) (Hin := []) (Hr := _) ⟨rfl, rfl, rfl, rfl⟩ rfl ⟨rfl, rfl, rfl, trivial⟩ cal19 rfl rfl (c_device_Device_Bad_nil hy15) ?_
    rintro _ _ ⟨rfl, rfl⟩
    refine ⟨trivial, ?_⟩
    refine SL.bin ⟨rfl, rfl, rfl, rfl⟩ rfl rfl Bin.eqI ?_
    refine SL.pk ⟨rfl, rfl, rfl, rfl⟩ rfl rfl ?_
    exact k.mono (by repeat' (first | exact trivial | refine And.intro rfl ?_))
  · skip
    refine SL.pass rfl rfl rfl ?_
    refine SL.pass rfl rfl rfl ?_
    refine SL.pass rfl rfl rfl ?_
    refine SL.pass rfl rfl rfl ?_
    refine SL.pk ⟨rfl, rfl, rfl, rfl⟩ rfl rfl ?_
    exact k.mono (by repeat' (first | exact trivial | refine And.intro rfl ?_))
  refine SL.mv ⟨rfl, rfl, rfl, rfl⟩ rfl ?_
  refine SL.andN 75 5 80 hy18 rfl (fun hb hg9 k => ?_) (fun hb k => ?_) ?_
  · skip
    obtain ⟨y17, hy17, hg9⟩ := bnd hg9
    obtain rfl := Option.some.inj hg9
    refine SL.mv ⟨rfl, rfl, rfl, rfl⟩ rfl ?_
    refine SL.call (vs := [_]) (Hin := []) (Hr := _) ⟨rfl, rfl, rfl, rfl⟩ rfl ⟨rfl, trivial⟩ cal27 rfl rfl (c_device_Device_Image_nil hy17) ?_
    rintro v1 _ ⟨_, rfl, rfl⟩
    refine ⟨trivial, ?_⟩
    refine SL.lenT 0 ⟨rfl, rfl, rfl, rfl⟩ ty41 rfl rfl ?_
    refine SL.bin ⟨rfl, rfl, rfl, rfl⟩ rfl rfl Bin.eqI ?_
    refine SL.pk ⟨rfl, rfl, rfl, rfl⟩ rfl rfl ?_
    exact SL.mono (SL.heap k fun _ hw => HpOk.pick (H := [_]) hw [] 1 rfl) (by repeat' (first | exact trivial | refine And.intro rfl ?_))
  · skip
    refine SL.pass rfl rfl rfl ?_
    refine SL.pass rfl rfl rfl ?_
    refine SL.pass rfl rfl rfl ?_
    refine SL.pass rfl rfl rfl ?_
    refine SL.pk ⟨rfl, rfl, rfl, rfl⟩ rfl rfl ?_
    exact k.mono (by repeat' (first | exact trivial | refine And.intro rfl ?_))
  refine SL.mv ⟨rfl, rfl, rfl, rfl⟩ rfl ?_
  refine SL.andN 81 4 85 hy20 rfl (fun hb hg10 k => ?_) (fun hb k => ?_) ?_
  · skip
    obtain ⟨y19, hy19, hg10⟩ := bnd hg10
    obtain rfl := Option.some.inj hg10
    refine SL.mv ⟨rfl, rfl, rfl, rfl⟩ rfl ?_
    refine SL.call (vs := [_]) (Hin := []) (Hr := _) ⟨rfl, rfl, rfl, rfl⟩ rfl ⟨rfl, trivial⟩ cal29 rfl rfl (c_device_Device_Blocks_nil hy19) ?_
    rintro _ _ ⟨rfl, rfl⟩
    refine ⟨trivial, ?_⟩
    refine SL.bin ⟨rfl, rfl, rfl, rfl⟩ rfl rfl Bin.eqI ?_
    refine SL.pk ⟨rfl, rfl, rfl, rfl⟩ rfl rfl ?_
    exact k.mono (by repeat' (first | exact trivial | refine And.intro rfl ?_))
  · skip
    refine SL.pass rfl rfl rfl ?_
    refine SL.pass rfl rfl rfl ?_
    refine SL.pass rfl rfl rfl ?_
    refine SL.pk ⟨rfl, rfl, rfl, rfl⟩ rfl rfl ?_
    exact k.mono (by repeat' (first | exact trivial | refine And.intro rfl ?_))
  refine SL.mv ⟨rfl, rfl, rfl, rfl⟩ rfl ?_
  refine SL.andN 86 5 91 hy22 rfl (fun hb hg11 k => ?_) (fun hb k => ?_) ?_
  · skip
    obtain ⟨y21, hy21, hg11⟩ := bnd hg11
    obtain rfl := Option.some.inj hg11
    refine SL.mv ⟨rfl, rfl, rfl, rfl⟩ rfl ?_
    refine SL.call (vs := [_]) (Hin := []) (Hr := _) ⟨rfl, rfl, rfl, rfl⟩ rfl ⟨rfl, trivial⟩ cal23 rfl rfl (c_device_Device_Register_nil hy21) ?_
    rintro _ _ ⟨rfl, rfl⟩
    refine ⟨trivial, ?_⟩
    refine SL.bld [] ⟨rfl, rfl, rfl, rfl⟩ pl52 pk52 ze52 trivial rfl ?_
    refine SL.eqAgg ⟨rfl, rfl, rfl, rfl⟩ fl52 rfl rfl (flatE_cons rfl rfl (eqV_64 (a := y21.cnt) (b := 0)) (flatE_cons rfl rfl (eqV_S (a := y21.tag) (b := [])) (flatE_cons rfl rfl (eqV_32 (a := y21.boots) (b := 0)) flatE_nil))) ?_
    refine SL.pk ⟨rfl, rfl, rfl, rfl⟩ rfl rfl ?_
    exact k.mono (by repeat' (first | exact trivial | refine And.intro rfl ?_))
  · skip
    refine SL.pass rfl rfl rfl ?_
    refine SL.pass rfl rfl rfl ?_
    refine SL.pass rfl rfl rfl ?_
    refine SL.pass rfl rfl rfl ?_
    refine SL.pk ⟨rfl, rfl, rfl, rfl⟩ rfl rfl ?_
    exact k.mono (by repeat' (first | exact trivial | refine And.intro rfl ?_))
  refine SL.asg ⟨rfl, rfl, rfl, rfl⟩ rfl ?_
  refine SL.nx ?_
  refine SX.ret ?_
  obtain rfl := Option.some.inj h
  exact SQ.fret (res1 rfl rfl) (ret_of (M := []) ⟨rfl, rfl⟩ fun _ hw => HpOk.pick (H := []) hw [] 0 rfl)

def f_law07_DeviceKeeps_j1 (p1 : UInt32) (y1 : Bool) (y3 : List UInt8) (y4 : Int × DevA) (y5 : Int × DevA) (y6 : Bool) (y7 : Bool) (y8 : Int) (y9 : Int) (l1 : List (List UInt8)) (l2 : List (UInt32 × List UInt8)) (l3 : List (UInt32 × Bool)) (y10 : UInt64) (y11 : List UInt8) (y12 : UInt32) : Option Bool :=
  (f_device_Device_Wake ({ off := y6, isCut := y7, lasts := y8, counts := y9, blocks := l1, pend := l2, bad := l3, rcnt := y10, rtag := y11, rboots := y12 } : DevA) []).bind fun y33 =>
  (f_device_Device_Read y33.2 p1).bind fun y34 =>
  ret (((((y1 && (decide (y4.1 = 0))) && (decide (y5.1 = 0))) && (decide (y33.1 = 0))) && (decide (y34.2 = 0))) && (decide (y34.1 = y3))) fun x8 =>
  some x8
def f_law07_DeviceKeeps_j2 (a1 : Int) (nx_f_law07_DeviceKeeps_l1 : Bool × Bool × Int × Int × List (List UInt8) × List (UInt32 × List UInt8) × List (UInt32 × Bool) × UInt64 × List UInt8 × UInt32 × Int → Option Bool) (y20 : Bool) (y21 : Bool) (y22 : Int) (y23 : Int) (l7 : List (List UInt8)) (l8 : List (UInt32 × List UInt8)) (l9 : List (UInt32 × Bool)) (y24 : UInt64) (y25 : List UInt8) (y26 : UInt32) : Option Bool :=
  ret (wI (a1 + 1)) fun x7 =>
  nx_f_law07_DeviceKeeps_l1 (y20, y21, y22, y23, l7, l8, l9, y24, y25, y26, x7)
def f_law07_DeviceKeeps_j3 (y13 : Bool) (y14 : Bool) (y15 : Int) (y16 : Int) (l4 : List (List UInt8)) (l5 : List (UInt32 × List UInt8)) (l6 : List (UInt32 × Bool)) (y17 : UInt64) (y18 : List UInt8) (y19 : UInt32) (a1 : Int) (x2 : OpA) (nx_f_law07_DeviceKeeps_l1 : Bool × Bool × Int × Int × List (List UInt8) × List (UInt32 × List UInt8) × List (UInt32 × Bool) × UInt64 × List UInt8 × UInt32 × Int → Option Bool) (y27 : UInt32) : Option Bool :=
  (rem64 (toU64 x2.act) 4).bind fun q1 =>
  ret (decide (q1 = 0)) fun x3 =>
  cond x3
  (
    (f_ref07_Filled x2.txt).bind fun y28 =>
    (f_device_Device_Write ({ off := y13, isCut := y14, lasts := y15, counts := y16, blocks := l4, pend := l5, bad := l6, rcnt := y17, rtag := y18, rboots := y19 } : DevA) y27 y28).bind fun y29 =>
    f_law07_DeviceKeeps_j2 a1 nx_f_law07_DeviceKeeps_l1 y29.2.off y29.2.isCut y29.2.lasts y29.2.counts y29.2.blocks y29.2.pend y29.2.bad y29.2.rcnt y29.2.rtag y29.2.rboots)
  (
    ret (decide (q1 = 1)) fun x4 =>
    cond x4
    (
      (f_device_Device_Flush ({ off := y13, isCut := y14, lasts := y15, counts := y16, blocks := l4, pend := l5, bad := l6, rcnt := y17, rtag := y18, rboots := y19 } : DevA)).bind fun y30 =>
      f_law07_DeviceKeeps_j2 a1 nx_f_law07_DeviceKeeps_l1 y30.2.off y30.2.isCut y30.2.lasts y30.2.counts y30.2.blocks y30.2.pend y30.2.bad y30.2.rcnt y30.2.rtag y30.2.rboots)
    (
      ret (decide (q1 = 2)) fun x5 =>
      cond x5
      (
        (f_device_Device_Cut ({ off := y13, isCut := y14, lasts := y15, counts := y16, blocks := l4, pend := l5, bad := l6, rcnt := y17, rtag := y18, rboots := y19 } : DevA) x2.num).bind fun y31 =>
        f_law07_DeviceKeeps_j2 a1 nx_f_law07_DeviceKeeps_l1 y31.off y31.isCut y31.lasts y31.counts y31.blocks y31.pend y31.bad y31.rcnt y31.rtag y31.rboots)
      (
        ret (decide (q1 = 3)) fun x6 =>
        cond x6
        (
          (f_device_Device_Wake ({ off := y13, isCut := y14, lasts := y15, counts := y16, blocks := l4, pend := l5, bad := l6, rcnt := y17, rtag := y18, rboots := y19 } : DevA) x2.fates).bind fun y32 =>
          f_law07_DeviceKeeps_j2 a1 nx_f_law07_DeviceKeeps_l1 y32.2.off y32.2.isCut y32.2.lasts y32.2.counts y32.2.blocks y32.2.pend y32.2.bad y32.2.rcnt y32.2.rtag y32.2.rboots)
        (
          f_law07_DeviceKeeps_j2 a1 nx_f_law07_DeviceKeeps_l1 y13 y14 y15 y16 l4 l5 l6 y17 y18 y19))))
def f_law07_DeviceKeeps_l1_b (p1 : UInt32) (p2 : List OpA) (y1 : Bool) (y3 : List UInt8) (y4 : Int × DevA) (y5 : Int × DevA) (nx_f_law07_DeviceKeeps_l1 : Bool × Bool × Int × Int × List (List UInt8) × List (UInt32 × List UInt8) × List (UInt32 × Bool) × UInt64 × List UInt8 × UInt32 × Int → Option Bool) (y13 : Bool) (y14 : Bool) (y15 : Int) (y16 : Int) (l4 : List (List UInt8)) (l5 : List (UInt32 × List UInt8)) (l6 : List (UInt32 × Bool)) (y17 : UInt64) (y18 : List UInt8) (y19 : UInt32) (a1 : Int) : Option Bool :=
  cond ((decide (a1 < (p2.length : Int))) && (decide (a1 < 30)))
  (
    (nthI p2 a1).bind fun x2 =>
    cond (decide (x2.page = p1))
    (
      f_law07_DeviceKeeps_j3 y13 y14 y15 y16 l4 l5 l6 y17 y18 y19 a1 x2 nx_f_law07_DeviceKeeps_l1 (p1 + 1))
    (
      f_law07_DeviceKeeps_j3 y13 y14 y15 y16 l4 l5 l6 y17 y18 y19 a1 x2 nx_f_law07_DeviceKeeps_l1 x2.page))
  (
    f_law07_DeviceKeeps_j1 p1 y1 y3 y4 y5 y13 y14 y15 y16 l4 l5 l6 y17 y18 y19)
def f_law07_DeviceKeeps_l1 (p1 : UInt32) (p2 : List OpA) (y1 : Bool) (y3 : List UInt8) (y4 : Int × DevA) (y5 : Int × DevA) : Nat → (Bool × Bool × Int × Int × List (List UInt8) × List (UInt32 × List UInt8) × List (UInt32 × Bool) × UInt64 × List UInt8 × UInt32 × Int) → Option Bool := loopN fun nx x => f_law07_DeviceKeeps_l1_b p1 p2 y1 y3 y4 y5 nx x.1 x.2.1 x.2.2.1 x.2.2.2.1 x.2.2.2.2.1 x.2.2.2.2.2.1 x.2.2.2.2.2.2.1 x.2.2.2.2.2.2.2.1 x.2.2.2.2.2.2.2.2.1 x.2.2.2.2.2.2.2.2.2.1 x.2.2.2.2.2.2.2.2.2.2
def f_law07_DeviceKeeps (n : Nat) (p0 : List UInt8) (p1 : UInt32) (p2 : List OpA) : Option Bool :=
  (f_law07_shown).bind fun y1 =>
  (f_device_New 8).bind fun y2 =>
  (y2.1).bind fun d1 =>
  cond ((!decide (y2.2 = 0)) || (decide (8 ≤ p1)))
  (
    ret (y1 && (decide (y2.2 = 0))) fun x1 =>
    some x1)
  (
    (f_ref07_Filled p0).bind fun y3 =>
    (f_device_Device_Write d1 p1 y3).bind fun y4 =>
    (f_device_Device_Flush y4.2).bind fun y5 =>
    f_law07_DeviceKeeps_l1 p1 p2 y1 y3 y4 y5 n (y5.2.off, y5.2.isCut, y5.2.lasts, y5.2.counts, y5.2.blocks, y5.2.pend, y5.2.bad, y5.2.rcnt, y5.2.rtag, y5.2.rboots, 0))
set_option maxRecDepth 100000 in
theorem c_law07_DeviceKeeps {n : Nat} {p0 : List UInt8} {p1 : UInt32} {v2_ : Value} {p2 : List OpA} {r : Bool} (h : f_law07_DeviceKeeps n p0 p1 p2 = some r) (hs2_ : SlOf K w0 encOp 5 v2_ p2) (hx2_ : ∀ x ∈ p2, SlOf K w0 eI 1 x.lv x.fates) : Con Try.prog K w0 3 [vS p0, vU32 p1, v2_] [] H (fun u M => u = vB r ∧ M = []) := by
  unfold f_law07_DeviceKeeps at h
  refine Con.enter Try.func3 rfl rfl ?_
  refine SX.sr ?_
  refine SL.asg ⟨rfl, rfl, rfl, rfl⟩ rfl ?_
  refine SL.nx ?_
  refine SX.sr ?_
  obtain ⟨y1, hy1, h⟩ := bnd h
  refine SL.call (vs := []) (Hin := []) (Hr := _) ⟨rfl, rfl, rfl, rfl⟩ rfl trivial cal10 rfl rfl (c_law07_shown hy1) ?_
  rintro _ _ ⟨rfl, rfl⟩
  refine ⟨trivial, ?_⟩
  refine SL.asg ⟨rfl, rfl, rfl, rfl⟩ rfl ?_
  refine SL.nx ?_
  refine SX.sr ?_
  obtain ⟨y2, hy2, h⟩ := bnd h
  obtain ⟨d1, hd1, h⟩ := bnd h
  refine SL.call (vs := [_]) (Hin := []) (Hr := _) ⟨rfl, rfl, rfl, rfl⟩ rfl ⟨rfl, trivial⟩ cal11 rfl rfl (c_device_New hy2) ?_
  rintro _ _ (⟨hn, -, -⟩ | ⟨d_, b1, v1, m1, m2, hn, rfl, rfl⟩)
  · rw [hd1] at hn; cases hn
  obtain rfl : d1 = d_ := Option.some.inj (hd1.symm.trans hn)
  refine ⟨trivial, ?_⟩
  refine SL.mv ⟨rfl, rfl, rfl, rfl⟩ rfl ?_
  refine SL.ext ⟨rfl, rfl, rfl, rfl⟩ rfl rfl ?_
  refine SL.ext ⟨rfl, rfl, rfl, rfl⟩ rfl rfl ?_
  refine SL.asg ⟨rfl, rfl, rfl, rfl⟩ rfl ?_
  refine SL.asg ⟨rfl, rfl, rfl, rfl⟩ rfl ?_
  refine SL.nx ?_
  refine SX.seq ?_
  refine SX.sr ?_
  refine SL.mv ⟨rfl, rfl, rfl, rfl⟩ rfl ?_
  refine SL.bin ⟨rfl, rfl, rfl, rfl⟩ rfl rfl Bin.neI ?_
  refine SL.mv ⟨rfl, rfl, rfl, rfl⟩ rfl ?_
  refine SL.or (c := decide (8 ≤ p1)) 25 3 28 rfl (fun hb k => ?_) (fun hb k => ?_) ?_
  · skip
    refine SL.pass rfl rfl rfl ?_
    refine SL.pass rfl rfl rfl ?_
    refine SL.pk ⟨rfl, rfl, rfl, rfl⟩ rfl rfl ?_
    exact k.mono (by repeat' (first | exact trivial | refine And.intro rfl ?_))
  · skip
    refine SL.mv ⟨rfl, rfl, rfl, rfl⟩ rfl ?_
    refine SL.bin ⟨rfl, rfl, rfl, rfl⟩ rfl rfl (Bin.ge32 (b := 8)) ?_
    refine SL.pk ⟨rfl, rfl, rfl, rfl⟩ rfl rfl ?_
    exact k.mono (by repeat' (first | exact trivial | refine And.intro rfl ?_))
  refine SL.nx ?_
  refine SX.cond rfl (fun hc1 => ?_) (fun hc1 => ?_)
  · skip
    replace h := cT hc1 h
    refine SX.sr ?_
    obtain ⟨x1, ex1, h⟩ := retE h
    refine SL.mv ⟨rfl, rfl, rfl, rfl⟩ rfl ?_
    refine SL.mv ⟨rfl, rfl, rfl, rfl⟩ rfl ?_
    refine SL.and (c := decide (y2.2 = 0)) 30 3 33 rfl (fun hb k => ?_) (fun hb k => ?_) ?_
    · skip
      refine SL.mv ⟨rfl, rfl, rfl, rfl⟩ rfl ?_
      refine SL.bin ⟨rfl, rfl, rfl, rfl⟩ rfl rfl Bin.eqI ?_
      refine SL.pk ⟨rfl, rfl, rfl, rfl⟩ rfl rfl ?_
      exact k.mono (by repeat' (first | exact trivial | refine And.intro rfl ?_))
    · skip
      refine SL.pass rfl rfl rfl ?_
      refine SL.pass rfl rfl rfl ?_
      refine SL.pk ⟨rfl, rfl, rfl, rfl⟩ rfl rfl ?_
      exact k.mono (by repeat' (first | exact trivial | refine And.intro rfl ?_))
    refine SL.asgX (u := vB x1) ⟨rfl, rfl, rfl, rfl⟩ rfl (congrArg vB ex1) ?_
    refine SL.nx ?_
    refine SX.ret ?_
    refine SQ.thnR ?_
    obtain rfl := Option.some.inj h
    exact SQ.fret (res1 rfl rfl) (ret_of (M := []) ⟨rfl, rfl⟩ fun _ hw => HpOk.pick (H := [_, _, _, _]) hw [] 4 rfl)
  · skip
    replace h := cF hc1 h
    refine SX.skip ?_
    refine SQ.thn ?_
    refine SX.sr ?_
    obtain ⟨y3, hy3, h⟩ := bnd h
    refine SL.mv ⟨rfl, rfl, rfl, rfl⟩ rfl ?_
    refine SL.call (vs := [_]) (Hin := []) (Hr := _ :: _ :: _ :: _ :: _) ⟨rfl, rfl, rfl, rfl⟩ rfl ⟨rfl, trivial⟩ cal12 rfl rfl (c_ref07_Filled hy3) ?_
    rintro _ _ ⟨rfl, rfl⟩
    refine ⟨trivial, ?_⟩
    refine SL.asg ⟨rfl, rfl, rfl, rfl⟩ rfl ?_
    refine SL.nx ?_
    refine SX.sr ?_
    obtain ⟨y4, hy4, h⟩ := bnd h
    refine SL.mv ⟨rfl, rfl, rfl, rfl⟩ rfl ?_
    refine SL.mv ⟨rfl, rfl, rfl, rfl⟩ rfl ?_
    refine SL.mv ⟨rfl, rfl, rfl, rfl⟩ rfl ?_
    refine SL.call (vs := [_, _, _]) (Hin := [_, _, _, _]) (Hr := _) ⟨rfl, rfl, rfl, rfl⟩ rfl ⟨rfl, rfl, rfl, trivial⟩ cal13 rfl rfl (c_device_Device_Write hy4) ?_
    rintro _ _ ⟨rfl, rfl⟩
    refine ⟨trivial, ?_⟩
    refine SL.asg ⟨rfl, rfl, rfl, rfl⟩ rfl ?_
    refine SL.nx ?_
    refine SX.sr ?_
    obtain ⟨y5, hy5, h⟩ := bnd h
    refine SL.mv ⟨rfl, rfl, rfl, rfl⟩ rfl ?_
    refine SL.call (vs := [_]) (Hin := [_, _, _, _]) (Hr := _) ⟨rfl, rfl, rfl, rfl⟩ rfl ⟨rfl, trivial⟩ cal14 rfl rfl (c_device_Device_Flush hy5) ?_
    rintro _ _ ⟨rfl, rfl⟩
    refine ⟨trivial, ?_⟩
    refine SL.asg ⟨rfl, rfl, rfl, rfl⟩ rfl ?_
    refine SL.nx ?_
    refine SX.meetD (α := Bool × Bool × Int × Int × List (List UInt8) × List (UInt32 × List UInt8) × List (UInt32 × Bool) × UInt64 × List UInt8 × UInt32) (fun x => f_law07_DeviceKeeps_j1 p1 y1 y3 y4 y5 x.1 x.2.1 x.2.2.1 x.2.2.2.1 x.2.2.2.2.1 x.2.2.2.2.2.1 x.2.2.2.2.2.2.1 x.2.2.2.2.2.2.2.1 x.2.2.2.2.2.2.2.2.1 x.2.2.2.2.2.2.2.2.2 = some r) (fun x => [(1, vU32 p1), (7, vB y1), (8, vP b1 0), (10, vS y3), (11, vI y4.1), (12, vI y5.1)]) (fun x => own b1 (.cells #[vB x.1, vB x.2.1, vI x.2.2.1, vI x.2.2.2.1, v1, .map (some m1), .map (some m2), vU64 x.2.2.2.2.2.2.2.1, vS x.2.2.2.2.2.2.2.2.1, vU32 x.2.2.2.2.2.2.2.2.2] 72) :: rowT 9 1 v1 eS x.2.2.2.2.1 :: mapC m1 vU32 vS x.2.2.2.2.2.1 :: mapC m2 vU32 vB x.2.2.2.2.2.2.1 :: H) ?_ (fun x D h => ?_)
    · skip
      refine SX.sr ?_
      refine SL.asg ⟨rfl, rfl, rfl, rfl⟩ rfl ?_
      refine SL.nx ?_
      refine SX.block ?_
      refine SX.heap (SX.mono (SX.loop (α := Nat × Bool × Bool × Int × Int × List (List UInt8) × List (UInt32 × List UInt8) × List (UInt32 × Bool) × UInt64 × List UInt8 × UInt32 × Int) (fun x => f_law07_DeviceKeeps_l1 p1 p2 y1 y3 y4 y5 x.1 (x.2.1, x.2.2.1, x.2.2.2.1, x.2.2.2.2.1, x.2.2.2.2.2.1, x.2.2.2.2.2.2.1, x.2.2.2.2.2.2.2.1, x.2.2.2.2.2.2.2.2.1, x.2.2.2.2.2.2.2.2.2.1, x.2.2.2.2.2.2.2.2.2.2.1, x.2.2.2.2.2.2.2.2.2.2.2) = some r) (fun x => [(1, vU32 p1), (2, v2_), (7, vB y1), (8, vP b1 0), (10, vS y3), (11, vI y4.1), (12, vI y5.1), (13, vI x.2.2.2.2.2.2.2.2.2.2.2)]) (fun x => own b1 (.cells #[vB x.2.1, vB x.2.2.1, vI x.2.2.2.1, vI x.2.2.2.2.1, v1, .map (some m1), .map (some m2), vU64 x.2.2.2.2.2.2.2.2.1, vS x.2.2.2.2.2.2.2.2.2.1, vU32 x.2.2.2.2.2.2.2.2.2.2.1] 72) :: rowT 9 1 v1 eS x.2.2.2.2.2.1 :: mapC m1 vU32 vS x.2.2.2.2.2.2.1 :: mapC m2 vU32 vB x.2.2.2.2.2.2.2.1 :: H) (fun x => x.1) (fun x D h => ?_) (n, y5.2.off, y5.2.isCut, y5.2.lasts, y5.2.counts, y5.2.blocks, y5.2.pend, y5.2.bad, y5.2.rcnt, y5.2.rtag, y5.2.rboots, 0) h) (by repeat' (first | exact trivial | refine And.intro rfl ?_))) (fun _ hw => HpOk.pick (H := [_, _, _, _]) hw [0, 1, 2, 3] 4 rfl)
      obtain ⟨m3, y13, y14, y15, y16, l4, l5, l6, y17, y18, y19, a1⟩ := x
      dsimp only at h
      rcases m3 with _ | m3
      · cases (show (none : Option _) = some r from h)
      replace h : f_law07_DeviceKeeps_l1_b p1 p2 y1 y3 y4 y5 (f_law07_DeviceKeeps_l1 p1 p2 y1 y3 y4 y5 m3) y13 y14 y15 y16 l4 l5 l6 y17 y18 y19 a1 = some r := h
      unfold f_law07_DeviceKeeps_l1_b at h
      refine SX.re [(1, vU32 p1), (2, v2_), (7, vB y1), (8, vP b1 0), (10, vS y3), (11, vI y4.1), (12, vI y5.1), (13, vI a1)] (own b1 (.cells #[vB y13, vB y14, vI y15, vI y16, v1, .map (some m1), .map (some m2), vU64 y17, vS y18, vU32 y19] 72) :: rowT 9 1 v1 eS l4 :: mapC m1 vU32 vS l5 :: mapC m2 vU32 vB l6 :: H) ?_ (by repeat' (first | exact trivial | refine And.intro rfl ?_))
      refine SX.seq ?_
      refine SX.sr ?_
      refine SL.mv ⟨rfl, rfl, rfl, rfl⟩ rfl ?_
      refine SL.mv ⟨rfl, rfl, rfl, rfl⟩ rfl ?_
      refine SL.lenV hs2_ ⟨rfl, rfl, rfl, rfl⟩ ty23 rfl ?_
      refine SL.bin ⟨rfl, rfl, rfl, rfl⟩ rfl rfl Bin.ltI ?_
      refine SL.mv ⟨rfl, rfl, rfl, rfl⟩ rfl ?_
      refine SL.and (c := decide (a1 < 30)) 46 3 49 rfl (fun hb k => ?_) (fun hb k => ?_) ?_
      · skip
        refine SL.mv ⟨rfl, rfl, rfl, rfl⟩ rfl ?_
        refine SL.bin ⟨rfl, rfl, rfl, rfl⟩ rfl rfl Bin.ltI ?_
        refine SL.pk ⟨rfl, rfl, rfl, rfl⟩ rfl rfl ?_
        exact k.mono (by repeat' (first | exact trivial | refine And.intro rfl ?_))
      · skip
        refine SL.pass rfl rfl rfl ?_
        refine SL.pass rfl rfl rfl ?_
        refine SL.pk ⟨rfl, rfl, rfl, rfl⟩ rfl rfl ?_
        exact k.mono (by repeat' (first | exact trivial | refine And.intro rfl ?_))
      refine SL.nx ?_
      refine SX.cond rfl (fun hc2 => ?_) (fun hc2 => ?_)
      · skip
        replace h := cT hc2 h
        refine SX.skip ?_
        refine SQ.thn ?_
        refine SX.meetD (α := Bool × Bool × Int × Int × List (List UInt8) × List (UInt32 × List UInt8) × List (UInt32 × Bool) × UInt64 × List UInt8 × UInt32) (fun x => f_law07_DeviceKeeps_j2 a1 (f_law07_DeviceKeeps_l1 p1 p2 y1 y3 y4 y5 m3) x.1 x.2.1 x.2.2.1 x.2.2.2.1 x.2.2.2.2.1 x.2.2.2.2.2.1 x.2.2.2.2.2.2.1 x.2.2.2.2.2.2.2.1 x.2.2.2.2.2.2.2.2.1 x.2.2.2.2.2.2.2.2.2 = some r) (fun x => [(1, vU32 p1), (2, v2_), (7, vB y1), (8, vP b1 0), (10, vS y3), (11, vI y4.1), (12, vI y5.1), (13, vI a1)]) (fun x => own b1 (.cells #[vB x.1, vB x.2.1, vI x.2.2.1, vI x.2.2.2.1, v1, .map (some m1), .map (some m2), vU64 x.2.2.2.2.2.2.2.1, vS x.2.2.2.2.2.2.2.2.1, vU32 x.2.2.2.2.2.2.2.2.2] 72) :: rowT 9 1 v1 eS x.2.2.2.2.1 :: mapC m1 vU32 vS x.2.2.2.2.2.1 :: mapC m2 vU32 vB x.2.2.2.2.2.2.1 :: H) ?_ (fun x D h => ?_)
        · skip
          refine SX.block ?_
          refine SX.sr ?_
          obtain ⟨x2, hx2, h⟩ := bnd h
          refine SL.mv ⟨rfl, rfl, rfl, rfl⟩ rfl ?_
          refine SL.mv ⟨rfl, rfl, rfl, rfl⟩ rfl ?_
          refine SL.iaN hx2 hs2_ ⟨rfl, rfl, rfl, rfl⟩ ty23 sz34 rfl rfl fun be1 of1 hc3 => ?_
          refine SL.ldA (encOp x2) ⟨rfl, rfl, rfl, rfl⟩ ag34 rfl rfl (cells_kept hc3) ?_
          refine SL.alloc ⟨rfl, rfl, rfl, rfl⟩ ze34 (fun _ => trivial) fun b2 => ?_
          refine SL.slV1 (hx2_ _ (nthI_mem hx2)) fun hv1 ho1 => ?_
          refine SL.st 0 ⟨rfl, rfl, rfl⟩ rfl rfl rfl sz34 rfl (by simp only [Value.oneCell'] at ho1; simp [encOp, Value.cells, Value.oneCell', ho1]) rfl trivial ?_
          refine SL.nx ?_
          refine SX.meetD (α := UInt32) (fun x => f_law07_DeviceKeeps_j3 y13 y14 y15 y16 l4 l5 l6 y17 y18 y19 a1 x2 (f_law07_DeviceKeeps_l1 p1 p2 y1 y3 y4 y5 m3) x = some r) (fun x => [(1, vU32 p1), (2, v2_), (7, vB y1), (8, vP b1 0), (10, vS y3), (11, vI y4.1), (12, vI y5.1), (13, vI a1), (14, vP b2 0)]) (fun x => own b1 (.cells #[vB y13, vB y14, vI y15, vI y16, v1, .map (some m1), .map (some m2), vU64 y17, vS y18, vU32 y19] 72) :: rowT 9 1 v1 eS l4 :: mapC m1 vU32 vS l5 :: mapC m2 vU32 vB l6 :: own b2 (.cells #[vI x2.act, vU32 x, vI x2.num, vS x2.txt, x2.lv] 34) :: H) ?_ (fun y27 D h => ?_)
          · skip
            refine SX.sr ?_
            refine SL.fa ⟨rfl, rfl, rfl, rfl⟩ rfl fo34_1 ?_
            refine SL.ld ⟨rfl, rfl, rfl, rfl⟩ sc22 rfl (cell_own 0 rfl rfl) ?_
            refine SL.mv ⟨rfl, rfl, rfl, rfl⟩ rfl ?_
            refine SL.bin ⟨rfl, rfl, rfl, rfl⟩ rfl rfl Bin.eq32 ?_
            refine SL.nx ?_
            refine SX.cond rfl (fun hc4 => ?_) (fun hc4 => ?_)
            · skip
              replace h := cT hc4 h
              refine SX.region ?_
              refine SL.mv ⟨rfl, rfl, rfl, rfl⟩ rfl ?_
              refine SL.bin ⟨rfl, rfl, rfl, rfl⟩ rfl rfl (Bin.add32 (b := 1)) ?_
              refine SL.fa ⟨rfl, rfl, rfl, rfl⟩ rfl fo34_1 ?_
              refine SL.st 0 ⟨rfl, rfl, rfl⟩ rfl rfl rfl sz22 rfl rfl rfl trivial ?_
              refine SL.nil ?_
              exact SQ.midD (p1 + 1) h (by repeat' (first | exact trivial | refine And.intro rfl ?_)) (fun _ hw => HpOk.pick (H := [_, _, _, _, _]) hw [1, 2, 3, 4, 0] 5 rfl)
            · skip
              replace h := cF hc4 h
              refine SX.skip ?_
              exact SQ.midD x2.page h (by repeat' (first | exact trivial | refine And.intro rfl ?_)) (fun _ hw => HpOk.pick (H := [_, _, _, _, _]) hw [1, 2, 3, 4, 0] 5 rfl)
          · skip
            unfold f_law07_DeviceKeeps_j3 at h
            refine SX.re [(1, vU32 p1), (2, v2_), (7, vB y1), (8, vP b1 0), (10, vS y3), (11, vI y4.1), (12, vI y5.1), (13, vI a1), (14, vP b2 0)] (own b1 (.cells #[vB y13, vB y14, vI y15, vI y16, v1, .map (some m1), .map (some m2), vU64 y17, vS y18, vU32 y19] 72) :: rowT 9 1 v1 eS l4 :: mapC m1 vU32 vS l5 :: mapC m2 vU32 vB l6 :: own b2 (.cells #[vI x2.act, vU32 y27, vI x2.num, vS x2.txt, x2.lv] 34) :: H) ?_ (by repeat' (first | exact trivial | refine And.intro rfl ?_))
            refine SX.sr ?_
            obtain ⟨q1, hq1, h⟩ := bnd h
            refine SL.fa ⟨rfl, rfl, rfl, rfl⟩ rfl fo34_0 ?_
            refine SL.ld ⟨rfl, rfl, rfl, rfl⟩ sc3 rfl (cell_own 4 rfl rfl) ?_
            refine SL.cv ⟨rfl, rfl, rfl, rfl⟩ rfl (Cv.i_64 ty3 ty35) ?_
            refine SL.bin ⟨rfl, rfl, rfl, rfl⟩ rfl rfl (Bin.mod64O (b := 4) hq1) ?_
            refine SL.nx ?_
            refine SX.block ?_
            refine SX.sr ?_
            obtain ⟨x3, ex3, h⟩ := retE h
            refine SL.bin ⟨rfl, rfl, rfl, rfl⟩ rfl rfl (Bin.eq64 (b := 0)) ?_
            refine SL.asgX (u := vB x3) ⟨rfl, rfl, rfl, rfl⟩ rfl (congrArg vB ex3) ?_
            refine SL.nx ?_
            refine SX.cond rfl (fun hc5 => ?_) (fun hc5 => ?_)
            · skip
              replace h := cT hc5 h
              obtain ⟨y28, hy28, h⟩ := bnd h
              obtain ⟨y29, hy29, h⟩ := bnd h
              refine SX.drawI mix [4] (Pl.ap [(true, 0), (true, 1), (true, 2), (true, 3), (true, 4), (false, 5)] (.last 6 .nil)) (by kernel_rfl) ?_
              refine SL.mv ⟨rfl, rfl, rfl, rfl⟩ rfl ?_
              refine SL.fa ⟨rfl, rfl, rfl, rfl⟩ rfl fo34_1 ?_
              refine SL.ld ⟨rfl, rfl, rfl, rfl⟩ sc22 rfl (cell_own 0 rfl rfl) ?_
              refine SL.fa ⟨rfl, rfl, rfl, rfl⟩ rfl fo34_3 ?_
              refine SL.ld ⟨rfl, rfl, rfl, rfl⟩ sc9 rfl (cell_own 0 rfl rfl) ?_
              refine SL.call (vs := [_]) (Hin := []) (Hr := _ :: _ :: _ :: _ :: _ :: _) ⟨rfl, rfl, rfl, rfl⟩ rfl ⟨rfl, trivial⟩ cal12 rfl rfl (c_ref07_Filled hy28) ?_
              rintro _ _ ⟨rfl, rfl⟩
              refine ⟨⟨⟨4, rfl⟩, trivial⟩, ?_⟩
              refine SL.last ?_
              refine SL.call (vs := [_, _, _]) (Hin := [_, _, _, _]) (Hr := _ :: _) ⟨rfl, rfl, rfl, rfl⟩ rfl ⟨rfl, rfl, rfl, trivial⟩ cal13 rfl rfl (c_device_Device_Write hy29) ?_
              rintro _ _ ⟨rfl, rfl⟩
              refine ⟨trivial, ?_⟩
              refine SL.nil ?_
              refine SQ.blk ?_
              refine SQ.blk ?_
              exact SQ.midD (y29.2.off, y29.2.isCut, y29.2.lasts, y29.2.counts, y29.2.blocks, y29.2.pend, y29.2.bad, y29.2.rcnt, y29.2.rtag, y29.2.rboots) h (by repeat' (first | exact trivial | refine And.intro rfl ?_)) (fun _ hw => HpOk.pick (H := [_, _, _, _, _]) hw [0, 1, 2, 3] 5 rfl)
            · skip
              replace h := cF hc5 h
              refine SX.sr ?_
              obtain ⟨x4, ex4, h⟩ := retE h
              refine SL.bin ⟨rfl, rfl, rfl, rfl⟩ rfl rfl (Bin.eq64 (b := 1)) ?_
              refine SL.asgX (u := vB x4) ⟨rfl, rfl, rfl, rfl⟩ rfl (congrArg vB ex4) ?_
              refine SL.nx ?_
              refine SX.cond rfl (fun hc6 => ?_) (fun hc6 => ?_)
              · skip
                replace h := cT hc6 h
                refine SX.region ?_
                obtain ⟨y30, hy30, h⟩ := bnd h
                refine SL.mv ⟨rfl, rfl, rfl, rfl⟩ rfl ?_
                refine SL.call (vs := [_]) (Hin := [_, _, _, _]) (Hr := _ :: _) ⟨rfl, rfl, rfl, rfl⟩ rfl ⟨rfl, trivial⟩ cal14 rfl rfl (c_device_Device_Flush hy30) ?_
                rintro _ _ ⟨rfl, rfl⟩
                refine ⟨trivial, ?_⟩
                refine SL.nil ?_
                refine SQ.blk ?_
                refine SQ.blk ?_
                exact SQ.midD (y30.2.off, y30.2.isCut, y30.2.lasts, y30.2.counts, y30.2.blocks, y30.2.pend, y30.2.bad, y30.2.rcnt, y30.2.rtag, y30.2.rboots) h (by repeat' (first | exact trivial | refine And.intro rfl ?_)) (fun _ hw => HpOk.pick (H := [_, _, _, _, _]) hw [0, 1, 2, 3] 5 rfl)
              · skip
                replace h := cF hc6 h
                refine SX.sr ?_
                obtain ⟨x5, ex5, h⟩ := retE h
                refine SL.bin ⟨rfl, rfl, rfl, rfl⟩ rfl rfl (Bin.eq64 (b := 2)) ?_
                refine SL.asgX (u := vB x5) ⟨rfl, rfl, rfl, rfl⟩ rfl (congrArg vB ex5) ?_
                refine SL.nx ?_
                refine SX.cond rfl (fun hc7 => ?_) (fun hc7 => ?_)
                · skip
                  replace h := cT hc7 h
                  refine SX.region ?_
                  obtain ⟨y31, hy31, h⟩ := bnd h
                  refine SL.mv ⟨rfl, rfl, rfl, rfl⟩ rfl ?_
                  refine SL.fa ⟨rfl, rfl, rfl, rfl⟩ rfl fo34_2 ?_
                  refine SL.ld ⟨rfl, rfl, rfl, rfl⟩ sc3 rfl (cell_own 4 rfl rfl) ?_
                  refine SL.call (vs := [_, _]) (Hin := [_, _, _, _]) (Hr := _ :: _) ⟨rfl, rfl, rfl, rfl⟩ rfl ⟨rfl, rfl, trivial⟩ cal15 rfl rfl (c_device_Device_Cut hy31) ?_
                  rintro _ _ ⟨rfl, rfl⟩
                  refine ⟨trivial, ?_⟩
                  refine SL.nil ?_
                  refine SQ.blk ?_
                  refine SQ.blk ?_
                  exact SQ.midD (y31.off, y31.isCut, y31.lasts, y31.counts, y31.blocks, y31.pend, y31.bad, y31.rcnt, y31.rtag, y31.rboots) h (by repeat' (first | exact trivial | refine And.intro rfl ?_)) (fun _ hw => HpOk.pick (H := [_, _, _, _, _]) hw [0, 1, 2, 3] 5 rfl)
                · skip
                  replace h := cF hc7 h
                  refine SX.sr ?_
                  obtain ⟨x6, ex6, h⟩ := retE h
                  refine SL.bin ⟨rfl, rfl, rfl, rfl⟩ rfl rfl (Bin.eq64 (b := 3)) ?_
                  refine SL.asgX (u := vB x6) ⟨rfl, rfl, rfl, rfl⟩ rfl (congrArg vB ex6) ?_
                  refine SL.nx ?_
                  refine SX.cond rfl (fun hc8 => ?_) (fun hc8 => ?_)
                  · skip
                    replace h := cT hc8 h
                    refine SX.region ?_
                    obtain ⟨y32, hy32, h⟩ := bnd h
                    refine SL.mv ⟨rfl, rfl, rfl, rfl⟩ rfl ?_
                    refine SL.fa ⟨rfl, rfl, rfl, rfl⟩ rfl fo34_4 ?_
                    refine SL.ld ⟨rfl, rfl, rfl, rfl⟩ sc32 rfl (cell_own 4 rfl rfl) ?_
                    refine SL.call (vs := [_, _]) (Hin := [_, _, _, _]) (Hr := _ :: _) ⟨rfl, rfl, rfl, rfl⟩ rfl ⟨rfl, rfl, trivial⟩ cal16 rfl rfl (c_device_Device_Wake hy32 (hx2_ _ (nthI_mem hx2))) ?_
                    rintro _ _ ⟨rfl, rfl⟩
                    refine ⟨trivial, ?_⟩
                    refine SL.nil ?_
                    refine SQ.blk ?_
                    refine SQ.blk ?_
                    exact SQ.midD (y32.2.off, y32.2.isCut, y32.2.lasts, y32.2.counts, y32.2.blocks, y32.2.pend, y32.2.bad, y32.2.rcnt, y32.2.rtag, y32.2.rboots) h (by repeat' (first | exact trivial | refine And.intro rfl ?_)) (fun _ hw => HpOk.pick (H := [_, _, _, _, _]) hw [0, 1, 2, 3] 5 rfl)
                  · skip
                    replace h := cF hc8 h
                    refine SX.skip ?_
                    refine SQ.blk ?_
                    refine SQ.blk ?_
                    exact SQ.midD (y13, y14, y15, y16, l4, l5, l6, y17, y18, y19) h (by repeat' (first | exact trivial | refine And.intro rfl ?_)) (fun _ hw => HpOk.pick (H := [_, _, _, _, _]) hw [0, 1, 2, 3] 5 rfl)
        · skip
          obtain ⟨y20, y21, y22, y23, l7, l8, l9, y24, y25, y26⟩ := x
          dsimp only at h
          unfold f_law07_DeviceKeeps_j2 at h
          refine SX.re [(1, vU32 p1), (2, v2_), (7, vB y1), (8, vP b1 0), (10, vS y3), (11, vI y4.1), (12, vI y5.1), (13, vI a1)] (own b1 (.cells #[vB y20, vB y21, vI y22, vI y23, v1, .map (some m1), .map (some m2), vU64 y24, vS y25, vU32 y26] 72) :: rowT 9 1 v1 eS l7 :: mapC m1 vU32 vS l8 :: mapC m2 vU32 vB l9 :: H) ?_ (by repeat' (first | exact trivial | refine And.intro rfl ?_))
          refine SX.region ?_
          obtain ⟨x7, ex7, h⟩ := retE h
          refine SL.mv ⟨rfl, rfl, rfl, rfl⟩ rfl ?_
          refine SL.bin ⟨rfl, rfl, rfl, rfl⟩ rfl rfl Bin.addW ?_
          refine SL.asgX (u := vI x7) ⟨rfl, rfl, rfl, rfl⟩ rfl (congrArg vI ex7) ?_
          refine SL.nil ?_
          exact SQ.again (m3, y20, y21, y22, y23, l7, l8, l9, y24, y25, y26, x7) h (Nat.lt_succ_self _) (by repeat' (first | exact trivial | refine And.intro rfl ?_)) (fun _ hw => HpOk.pick (H := [_, _, _, _]) hw [0, 1, 2, 3] 4 rfl)
      · skip
        replace h := cF hc2 h
        refine SX.exit ?_
        refine SQ.thnE ?_
        refine SQ.lpE ?_
        refine SQ.blkE ?_
        exact SQ.midD (y13, y14, y15, y16, l4, l5, l6, y17, y18, y19) h (by repeat' (first | exact trivial | refine And.intro rfl ?_)) (fun _ hw => HpOk.pick (H := [_, _, _, _]) hw [0, 1, 2, 3] 4 rfl)
    · skip
      obtain ⟨y6, y7, y8, y9, l1, l2, l3, y10, y11, y12⟩ := x
      dsimp only at h
      unfold f_law07_DeviceKeeps_j1 at h
      refine SX.re [(1, vU32 p1), (7, vB y1), (8, vP b1 0), (10, vS y3), (11, vI y4.1), (12, vI y5.1)] (own b1 (.cells #[vB y6, vB y7, vI y8, vI y9, v1, .map (some m1), .map (some m2), vU64 y10, vS y11, vU32 y12] 72) :: rowT 9 1 v1 eS l1 :: mapC m1 vU32 vS l2 :: mapC m2 vU32 vB l3 :: H) ?_ (by repeat' (first | exact trivial | refine And.intro rfl ?_))
      refine SX.sr ?_
      obtain ⟨y33, hy33, h⟩ := bnd h
      refine SL.mv ⟨rfl, rfl, rfl, rfl⟩ rfl ?_
      refine SL.call (vs := [_, _]) (Hin := [_, _, _, _]) (Hr := _) ⟨rfl, rfl, rfl, rfl⟩ rfl ⟨rfl, rfl, trivial⟩ cal16 rfl rfl (c_device_Device_Wake hy33 (SlOf.nil (fun _ => rfl))) ?_
      rintro _ _ ⟨rfl, rfl⟩
      refine ⟨trivial, ?_⟩
      refine SL.asg ⟨rfl, rfl, rfl, rfl⟩ rfl ?_
      refine SL.nx ?_
      refine SX.sr ?_
      obtain ⟨y34, hy34, h⟩ := bnd h
      refine SL.mv ⟨rfl, rfl, rfl, rfl⟩ rfl ?_
      refine SL.mv ⟨rfl, rfl, rfl, rfl⟩ rfl ?_
      refine SL.call (vs := [_, _]) (Hin := [_, _, _, _]) (Hr := _) ⟨rfl, rfl, rfl, rfl⟩ rfl ⟨rfl, rfl, trivial⟩ cal17 rfl rfl (c_device_Device_Read hy34) ?_
      rintro _ _ ⟨rfl, rfl⟩
      refine ⟨trivial, ?_⟩
      refine SL.mv ⟨rfl, rfl, rfl, rfl⟩ rfl ?_
      refine SL.ext ⟨rfl, rfl, rfl, rfl⟩ rfl rfl ?_
      refine SL.ext ⟨rfl, rfl, rfl, rfl⟩ rfl rfl ?_
      refine SL.asg ⟨rfl, rfl, rfl, rfl⟩ rfl ?_
      refine SL.asg ⟨rfl, rfl, rfl, rfl⟩ rfl ?_
      refine SL.nx ?_
      refine SX.sr ?_
      obtain ⟨x8, ex8, h⟩ := retE h
      refine SL.mv ⟨rfl, rfl, rfl, rfl⟩ rfl ?_
      refine SL.mv ⟨rfl, rfl, rfl, rfl⟩ rfl ?_
      refine SL.and (c := decide (y4.1 = 0)) 101 3 104 rfl (fun hb k => ?_) (fun hb k => ?_) ?_
      · skip
        refine SL.mv ⟨rfl, rfl, rfl, rfl⟩ rfl ?_
        refine SL.bin ⟨rfl, rfl, rfl, rfl⟩ rfl rfl Bin.eqI ?_
        refine SL.pk ⟨rfl, rfl, rfl, rfl⟩ rfl rfl ?_
        exact k.mono (by repeat' (first | exact trivial | refine And.intro rfl ?_))
      · skip
        refine SL.pass rfl rfl rfl ?_
        refine SL.pass rfl rfl rfl ?_
        refine SL.pk ⟨rfl, rfl, rfl, rfl⟩ rfl rfl ?_
        exact k.mono (by repeat' (first | exact trivial | refine And.intro rfl ?_))
      refine SL.mv ⟨rfl, rfl, rfl, rfl⟩ rfl ?_
      refine SL.and (c := decide (y5.1 = 0)) 105 3 108 rfl (fun hb k => ?_) (fun hb k => ?_) ?_
      · skip
        refine SL.mv ⟨rfl, rfl, rfl, rfl⟩ rfl ?_
        refine SL.bin ⟨rfl, rfl, rfl, rfl⟩ rfl rfl Bin.eqI ?_
        refine SL.pk ⟨rfl, rfl, rfl, rfl⟩ rfl rfl ?_
        exact k.mono (by repeat' (first | exact trivial | refine And.intro rfl ?_))
      · skip
        refine SL.pass rfl rfl rfl ?_
        refine SL.pass rfl rfl rfl ?_
        refine SL.pk ⟨rfl, rfl, rfl, rfl⟩ rfl rfl ?_
        exact k.mono (by repeat' (first | exact trivial | refine And.intro rfl ?_))
      refine SL.mv ⟨rfl, rfl, rfl, rfl⟩ rfl ?_
      refine SL.and (c := decide (y33.1 = 0)) 109 3 112 rfl (fun hb k => ?_) (fun hb k => ?_) ?_
      · skip
        refine SL.mv ⟨rfl, rfl, rfl, rfl⟩ rfl ?_
        refine SL.bin ⟨rfl, rfl, rfl, rfl⟩ rfl rfl Bin.eqI ?_
        refine SL.pk ⟨rfl, rfl, rfl, rfl⟩ rfl rfl ?_
        exact k.mono (by repeat' (first | exact trivial | refine And.intro rfl ?_))
      · skip
        refine SL.pass rfl rfl rfl ?_
        refine SL.pass rfl rfl rfl ?_
        refine SL.pk ⟨rfl, rfl, rfl, rfl⟩ rfl rfl ?_
        exact k.mono (by repeat' (first | exact trivial | refine And.intro rfl ?_))
      refine SL.mv ⟨rfl, rfl, rfl, rfl⟩ rfl ?_
      refine SL.and (c := decide (y34.2 = 0)) 113 3 116 rfl (fun hb k => ?_) (fun hb k => ?_) ?_
      · skip
        refine SL.mv ⟨rfl, rfl, rfl, rfl⟩ rfl ?_
        refine SL.bin ⟨rfl, rfl, rfl, rfl⟩ rfl rfl Bin.eqI ?_
        refine SL.pk ⟨rfl, rfl, rfl, rfl⟩ rfl rfl ?_
        exact k.mono (by repeat' (first | exact trivial | refine And.intro rfl ?_))
      · skip
        refine SL.pass rfl rfl rfl ?_
        refine SL.pass rfl rfl rfl ?_
        refine SL.pk ⟨rfl, rfl, rfl, rfl⟩ rfl rfl ?_
        exact k.mono (by repeat' (first | exact trivial | refine And.intro rfl ?_))
      refine SL.mv ⟨rfl, rfl, rfl, rfl⟩ rfl ?_
      refine SL.and (c := decide (y34.1 = y3)) 117 4 121 rfl (fun hb k => ?_) (fun hb k => ?_) ?_
      · skip
        refine SL.mv ⟨rfl, rfl, rfl, rfl⟩ rfl ?_
        refine SL.mv ⟨rfl, rfl, rfl, rfl⟩ rfl ?_
        refine SL.bin ⟨rfl, rfl, rfl, rfl⟩ rfl rfl Bin.eqS ?_
        refine SL.pk ⟨rfl, rfl, rfl, rfl⟩ rfl rfl ?_
        exact k.mono (by repeat' (first | exact trivial | refine And.intro rfl ?_))
      · skip
        refine SL.pass rfl rfl rfl ?_
        refine SL.pass rfl rfl rfl ?_
        refine SL.pass rfl rfl rfl ?_
        refine SL.pk ⟨rfl, rfl, rfl, rfl⟩ rfl rfl ?_
        exact k.mono (by repeat' (first | exact trivial | refine And.intro rfl ?_))
      refine SL.asgX (u := vB x8) ⟨rfl, rfl, rfl, rfl⟩ rfl (congrArg vB ex8) ?_
      refine SL.nx ?_
      refine SX.ret ?_
      obtain rfl := Option.some.inj h
      exact SQ.fret (res1 rfl rfl) (ret_of (M := []) ⟨rfl, rfl⟩ fun _ hw => HpOk.pick (H := [_, _, _, _]) hw [] 4 rfl)


end Go.Proofs.Ytmnmepaopodblaa

/- Plain laws of a device: what its printed operations answer. No program's walk in sight. Condition: at most twelve blocks are pending. -/
namespace Go.Proofs.Ytmnmepaopodblaa
open Go

theorem getD_lt {α : Type} {l : List α} {k : Nat} (d : α) (h : k < l.length) : l.getD k d = l[k] := by simp [List.getD, h]
def fillA (s : List UInt8) : List UInt8 := s.take 256 ++ List.replicate (256 - min s.length 256) 0
theorem fillA_length (s : List UInt8) : (fillA s).length = 256 := by simp [fillA]; omega
theorem zeros_eq {n : Int} (h0 : 0 ≤ n) (h1 : n ≤ 1048576) : f_ref07_Zeros n = some (List.replicate n.toNat 0) := by
  unfold f_ref07_Zeros mkI
  rw [if_pos ⟨h0, by omega, by omega⟩, some_bind]
theorem filled_eq (s : List UInt8) : f_ref07_Filled s = some (fillA s) := by
  have hm : (min (s.length : Int) 256).toNat = min s.length 256 := by omega
  unfold f_ref07_Filled slcI
  rw [if_pos ⟨by omega, by omega, by omega⟩, some_bind]
  simp only [hm, Int.toNat_zero, List.drop_zero, Nat.sub_zero]
  have hl : (s.take (min s.length 256)).length = min s.length 256 := by simp
  rw [hl, wI_eq (by omega) (by omega), zeros_eq (by omega) (by omega), some_bind]
  unfold catS
  rw [if_pos (by simp; omega), some_bind]
  have e1 : s.take (min s.length 256) = s.take 256 := by
    rw [Nat.min_comm, ← List.take_take, List.take_length]
  have e2 : ((256 : Int) - ((min s.length 256 : Nat) : Int)).toNat = 256 - min s.length 256 := by omega
  rw [e1, e2, fillA]

def pOn (d : DevA) : Bool := !(d.isCut && decide (d.lasts = 0) || d.off)
def pTick (d : DevA) : DevA := { d with lasts := if d.isCut then wI (d.lasts - 1) else d.lasts, counts := wI (d.counts + 1) }
def pDead (d : DevA) : DevA := { d with off := true }
theorem spend_eq (d : DevA) : f_device_power_spend d = some (if pOn d then (0, pTick d) else (71, pDead d)) := by
  obtain ⟨off, isCut, lasts, counts, bl, pd, bd, rc, rt, rb⟩ := d
  unfold f_device_power_spend f_device_power_spend_j1 f_device_power_spend_j2
  by_cases h0 : lasts = 0 <;> cases off <;> cases isCut <;> simp [pOn, pTick, pDead, h0]
def okR (d : DevA) (r : DevA) : Int × DevA := if pOn d then (0, r) else (71, pDead d)
theorem has_eq (d : DevA) (p : UInt32) : f_device_Device_has d p = some (decide (p.toNat < d.blocks.length)) := by
  unfold f_device_Device_has
  rw [ret_eq]
  congr 1
  simp
theorem write_eq {d : DevA} {p : UInt32} {s : List UInt8} (hp : p.toNat < d.blocks.length) (hs : s.length = 256) (hm : d.pend.length < 9223372036854775807) : f_device_Device_Write d p s = some (okR d { pTick d with pend := mput d.pend p s }) := by
  unfold f_device_Device_Write f_device_Device_Write_j1
  rw [has_eq, some_bind, ret_eq, decide_eq_true hp, hs]
  simp only [spend_eq, some_bind]
  cases h : pOn d
  · simp [okR, h, pDead]
  · simp only [okR, h, if_true]
    have : (pTick d).pend = d.pend := rfl
    simp [mputI, this, hm]
theorem write_bad {d : DevA} {p : UInt32} {s : List UInt8} (hp : ¬ (p.toNat < d.blocks.length) ∨ s.length ≠ 256) : f_device_Device_Write d p s = some (2, d) := by
  unfold f_device_Device_Write
  rw [has_eq, some_bind, ret_eq]
  have : ((!decide (p.toNat < d.blocks.length)) || !decide ((s.length : Int) = 256)) = true := by
    rcases hp with hp | hp
    · simp [hp]
    · have : ¬ ((s.length : Int) = 256) := by omega
      simp [this]
  rw [this, cond_true]
theorem put_eq {d : DevA} {p : UInt32} {s : List UInt8} (hp : p.toNat < d.blocks.length) (hs : s.length = 256) : f_device_Device_Put d p s = some (0, { d with blocks := d.blocks.set p.toNat s, pend := mdel d.pend p }) := by
  unfold f_device_Device_Put
  rw [has_eq, some_bind, ret_eq, decide_eq_true hp, hs, nthI_nat, List.getElem?_eq_getElem hp]
  simp only [some_bind]
  rw [setI_of rfl hp]
  simp
theorem put_bad {d : DevA} {p : UInt32} {s : List UInt8} (hp : ¬ (p.toNat < d.blocks.length) ∨ s.length ≠ 256) : f_device_Device_Put d p s = some (2, d) := by
  unfold f_device_Device_Put
  rw [has_eq, some_bind, ret_eq]
  have : ((!decide (p.toNat < d.blocks.length)) || !decide ((s.length : Int) = 256)) = true := by
    rcases hp with hp | hp
    · simp [hp]
    · have : ¬ ((s.length : Int) = 256) := by omega
      simp [this]
  rw [this, cond_true]
theorem bad_eq {d : DevA} {p : UInt32} {b : Bool} (hp : p.toNat < d.blocks.length) (hm : d.bad.length < 9223372036854775807) : f_device_Device_Bad d p b = some (0, { d with bad := mput d.bad p b }) := by
  unfold f_device_Device_Bad
  rw [has_eq, some_bind, ret_eq, decide_eq_true hp]
  simp [mputI, hm]
theorem bad_bad {d : DevA} {p : UInt32} {b : Bool} (hp : ¬ p.toNat < d.blocks.length) : f_device_Device_Bad d p b = some (2, d) := by
  unfold f_device_Device_Bad
  rw [has_eq, some_bind, ret_eq, decide_eq_false hp]
  rfl
def hold (d : DevA) (p : UInt32) : List UInt8 := (mget d.pend p).getD (d.blocks.getD p.toNat [])
theorem holds_eq {d : DevA} {p : UInt32} (hp : p.toNat < d.blocks.length) : f_device_Device_holds d p = some (hold d p) := by
  unfold f_device_Device_holds hold
  rw [ret_eq, ret_eq]
  cases h : mget d.pend p with
  | some s => simp
  | none =>
    rw [nthI_nat, List.getElem?_eq_getElem hp]
    simp [hp]
theorem read_eq {d : DevA} {p : UInt32} (hp : p.toNat < d.blocks.length) : f_device_Device_Read d p = some (if d.off then ([], 71) else if (mget d.bad p).getD false then ([], 70) else (hold d p, 0)) := by
  unfold f_device_Device_Read
  rw [has_eq, some_bind, ret_eq, decide_eq_true hp, holds_eq hp]
  cases d.off
  · cases h : (mget d.bad p).getD false <;> simp [ret_eq, h]
  · simp
theorem read_bad {d : DevA} {p : UInt32} (hp : ¬ p.toNat < d.blocks.length) : f_device_Device_Read d p = some ([], 2) := by
  unfold f_device_Device_Read
  rw [has_eq, some_bind, ret_eq, decide_eq_false hp]
  rfl
theorem cut_eq {d : DevA} {n : Int} : f_device_Device_Cut d n = some { d with isCut := decide (0 ≤ n), lasts := max n 0 } := by
  unfold f_device_Device_Cut f_device_power_set
  rw [some_bind]
theorem start_eq {d : DevA} (h : d.rboots ≠ 4294967295) : f_device_Device_Start d = some (if pOn d then (d.rboots + 1, 0, { pTick d with rboots := d.rboots + 1 }) else (0, 71, pDead d)) := by
  unfold f_device_Device_Start
  rw [ret_eq, decide_eq_false h, spend_eq]
  simp only [cond_false, some_bind]
  cases h : pOn d
  · simp
  · simp only [if_true]
    rw [show (pTick d).rboots = d.rboots from rfl]
    simp [ret_eq]
theorem advance_eq {d : DevA} {s : List UInt8} (hs : s.length = 32) (h : d.rcnt ≠ 18446744073709551615) : f_device_Device_Advance d s = some (okR d { pTick d with rcnt := d.rcnt + 1, rtag := s }) := by
  unfold f_device_Device_Advance f_device_Device_Advance_j1
  rw [ret_eq, hs, ret_eq, decide_eq_false h, spend_eq]
  simp only [some_bind]
  cases h : pOn d
  · simp [okR, h, pDead]
  · simp only [okR, h, if_true]
    rw [show (pTick d).rcnt = d.rcnt from rfl]
    simp
def flushB (m : List (UInt32 × List UInt8)) (bl : List (List UInt8)) : List (List UInt8) := (keysOf m).foldl (fun b p => b.set p.toNat ((mget m p).getD [])) bl
theorem set_fold_length (f : UInt32 → List UInt8) : ∀ (ks : List UInt32) (bl : List (List UInt8)), (ks.foldl (fun b p => b.set p.toNat (f p)) bl).length = bl.length
  | [], bl => rfl
  | k :: ks, bl => by rw [List.foldl_cons, set_fold_length f ks]; simp
theorem keysOf_mem {α : Type} {m : List (UInt32 × α)} {k : UInt32} : k ∈ keysOf m ↔ k ∈ m.map (·.1) := (List.mergeSort_perm _ _).mem_iff
theorem flush_fold (y : Int × DevA) : ∀ (es : List (Int × UInt32)) (bl : List (List UInt8)), (∀ e ∈ es, e.2.toNat < bl.length) →
    f_device_Device_Flush_r1 y es bl = some (y.1, { y.2 with blocks := es.foldl (fun b e => b.set e.2.toNat ((mget y.2.pend e.2).getD [])) bl, pend := [] })
  | [], bl, _ => rfl
  | e :: es, bl, h => by
    have he := h e (List.mem_cons_self ..)
    show f_device_Device_Flush_r1_b y (f_device_Device_Flush_r1 y es) e bl = _
    unfold f_device_Device_Flush_r1_b
    rw [nthI_nat, List.getElem?_eq_getElem he, some_bind, setI_of rfl he, some_bind]
    exact flush_fold y es _ (fun e' h' => by rw [List.length_set]; exact h e' (List.mem_cons_of_mem _ h'))
theorem enum_fold {β : Type} (g : β → UInt32 → β) : ∀ (ks : List UInt32) (j : Nat) (b : β), ((ks.zipIdx j).map fun q => ((q.2 : Int), q.1)).foldl (fun b e => g b e.2) b = ks.foldl g b
  | [], j, b => rfl
  | k :: ks, j, b => by simp only [List.zipIdx_cons, List.map_cons, List.foldl_cons]; exact enum_fold g ks (j + 1) _
theorem enumU_mem {ks : List UInt32} {e : Int × UInt32} (h : e ∈ enumU ks) : e.2 ∈ ks := by
  obtain ⟨q, hq, rfl⟩ := List.mem_map.1 h
  obtain ⟨_, _, h2⟩ := List.mem_zipIdx hq
  rw [h2]
  exact List.getElem_mem _
theorem flush_eq {d : DevA} (hl : d.pend.length ≤ 12) (hk : ∀ q ∈ d.pend, q.1.toNat < d.blocks.length) : f_device_Device_Flush d = some (okR d { pTick d with blocks := flushB d.pend d.blocks, pend := [] }) := by
  unfold f_device_Device_Flush
  rw [spend_eq, some_bind]
  cases h : pOn d
  · simp [okR, h, f_device_Device_Flush_j1, pDead]
  · simp only [okR, h, if_true, decide_true, cond_true, waitingO, some_bind]
    have hp : (pTick d).pend = d.pend := rfl
    have hb : (pTick d).blocks = d.blocks := rfl
    unfold waitsO
    rw [hp, if_pos hl, some_bind, flush_fold _ _ _ (fun e he => ?_)]
    · simp only [hp, hb]
      rw [show (enumU (keysOf d.pend)).foldl (fun b e => b.set e.2.toNat ((mget d.pend e.2).getD [])) d.blocks = flushB d.pend d.blocks from enum_fold (fun (b : List (List UInt8)) p => b.set p.toNat ((mget d.pend p).getD [])) (keysOf d.pend) 0 d.blocks]
    · have := keysOf_mem.1 (enumU_mem he)
      obtain ⟨q, hq, e1⟩ := List.mem_map.1 this
      rw [hb, ← e1]
      exact hk q hq
/-- one pending block at a power's return -/
def wstep (m : List (UInt32 × List UInt8)) (fs : List Int) (b : List (List UInt8)) (e : Int × UInt32) : List (List UInt8) :=
  if 1 ≤ fs.getD e.1.toNat 0 ∧ fs.getD e.1.toNat 0 ≤ 4 then b.set e.2.toNat (((mget m e.2).getD []).take (64 * (fs.getD e.1.toNat 0).toNat) ++ (b.getD e.2.toNat []).drop (64 * (fs.getD e.1.toNat 0).toNat)) else b
def wakeB (m : List (UInt32 × List UInt8)) (fs : List Int) (bl : List (List UInt8)) : List (List UInt8) := (enumU (keysOf m)).foldl (wstep m fs) bl
theorem wstep_length (m : List (UInt32 × List UInt8)) (fs : List Int) (b : List (List UInt8)) (e : Int × UInt32) : (wstep m fs b e).length = b.length := by
  unfold wstep
  split
  · simp
  · rfl
theorem wstep_256 {m : List (UInt32 × List UInt8)} {fs : List Int} {b : List (List UInt8)} {e : Int × UInt32} (hm : ((mget m e.2).getD []).length = 256) (hp : e.2.toNat < b.length) (hb : ∀ s ∈ b, s.length = 256) : ∀ s ∈ wstep m fs b e, s.length = 256 := by
  unfold wstep
  split
  · rename_i h
    intro s hs
    rcases List.mem_or_eq_of_mem_set hs with hs | rfl
    · exact hb s hs
    · have h1 : (b.getD e.2.toNat []).length = 256 := by
        rw [getD_lt _ hp]
        exact hb _ (List.getElem_mem _)
      rw [List.length_append, List.length_take, List.length_drop, hm, h1]
      omega
  · exact hb
theorem wake_fold (d : DevA) (fs : List Int) : ∀ (es : List (Int × UInt32)) (bl : List (List UInt8)), (∀ e ∈ es, 0 ≤ e.1 ∧ e.2.toNat < bl.length ∧ ((mget d.pend e.2).getD []).length = 256) → (∀ s ∈ bl, s.length = 256) →
    f_device_Device_Wake_r1 d fs es bl = some (0, { d with off := false, isCut := false, lasts := 0, blocks := es.foldl (wstep d.pend fs) bl, pend := [] })
  | [], bl, _, _ => rfl
  | e :: es, bl, h, hb => by
    obtain ⟨h0, he, hm⟩ := h e (List.mem_cons_self ..)
    have ih := wake_fold d fs es (wstep d.pend fs bl e) (fun e' h' => by rw [wstep_length]; exact h e' (List.mem_cons_of_mem _ h')) (wstep_256 hm he hb)
    show f_device_Device_Wake_r1_b d fs (f_device_Device_Wake_r1 d fs es) e bl = _
    rw [List.foldl_cons, ← ih]
    unfold f_device_Device_Wake_r1_b
    obtain ⟨i, p⟩ := e
    dsimp only at h0 he hm ⊢
    obtain ⟨k, rfl⟩ : ∃ k : Nat, i = (k : Int) := ⟨i.toNat, by omega⟩
    have hg : (fs.getD (k : Int).toNat 0) = fs.getD k 0 := by simp
    by_cases hk : k < fs.length
    · have e1 : nthI fs (k : Int) = some (fs.getD k 0) := by rw [nthI_nat, List.getElem?_eq_getElem hk, getD_lt _ hk]
      have e0 : decide ((fs.length : Int) ≤ (k : Int)) = false := decide_eq_false (by omega)
      rw [e0, e1]
      unfold wstep
      dsimp only
      rw [hg]
      generalize fs.getD k 0 = t
      by_cases h1 : t < 1
      · have : ¬ (1 ≤ t ∧ t ≤ 4) := by omega
        simp [orO, h1, this]
      · by_cases h4 : 4 < t
        · have : ¬ (1 ≤ t ∧ t ≤ 4) := by omega
          simp [orO, h1, h4, this]
        · have h14 : 1 ≤ t ∧ t ≤ 4 := by omega
          have hb1 : (bl.getD p.toNat []).length = 256 := by
            rw [getD_lt _ he]
            exact hb _ (List.getElem_mem _)
          have e2 : nthI bl (p.toNat : Int) = some (bl.getD p.toNat []) := by rw [nthI_nat, List.getElem?_eq_getElem he, getD_lt _ he]
          rw [if_pos h14]
          generalize (mget d.pend p).getD [] = q at hm ⊢
          generalize bl.getD p.toNat [] = u at hb1 e2 ⊢
          have hw : wI (t * 64) = t * 64 := wI_eq (by omega) (by omega)
          have ht : (t * 64).toNat = 64 * t.toNat := by omega
          have e3 : slcI q 0 (t * 64) = some (q.take (64 * t.toNat)) := by
            unfold slcI
            rw [if_pos ⟨by omega, by omega, by omega⟩, ht]
            simp
          have e4 : slcI u (t * 64) (u.length : Int) = some (u.drop (64 * t.toNat)) := by
            unfold slcI
            rw [if_pos ⟨by omega, by omega, by omega⟩, ht]
            rw [List.take_of_length_le (by simp)]
          have e5 : catS (q.take (64 * t.toNat)) (u.drop (64 * t.toNat)) = some (q.take (64 * t.toNat) ++ u.drop (64 * t.toNat)) := by
            unfold catS
            rw [if_pos (by simp; omega)]
          simp only [orO, h1, h4, decide_false, some_bind, cond_false, ret_eq, hw, e2, e3, e4, e5]
          rw [setI_of rfl he]
          rfl
    · have e0 : decide ((fs.length : Int) ≤ (k : Int)) = true := decide_eq_true (by omega)
      have e9 : fs.getD k 0 = 0 := by simp [List.getElem?_eq_none (by omega : fs.length ≤ k)]
      rw [e0]
      unfold wstep
      dsimp only
      rw [hg, e9]
      simp [orO]
theorem enumU_nonneg {ks : List UInt32} {e : Int × UInt32} (h : e ∈ enumU ks) : 0 ≤ e.1 := by
  obtain ⟨q, hq, rfl⟩ := List.mem_map.1 h
  simp
/-- what lies in a device's memory -/
structure Inv (N : Nat) (d : DevA) : Prop where
  blen : d.blocks.length = N
  b256 : ∀ s ∈ d.blocks, s.length = 256
  knd : (d.pend.map (·.1)).Nodup
  klt : ∀ q ∈ d.pend, q.1.toNat < N ∧ q.2.length = 256
theorem nodup_u32 {l : List UInt32} {N : Nat} (hn : l.Nodup) (h : ∀ k ∈ l, k.toNat < N) : l.length ≤ N := by
  have h1 : (l.map UInt32.toNat).Nodup := by
    rw [List.nodup_iff_pairwise_ne, List.pairwise_map]
    exact hn.imp fun hne e => hne (UInt32.toNat_inj.1 e)
  have := nodup_len (l' := List.range N) h1 (fun a ha => by
    obtain ⟨k, hk, rfl⟩ := List.mem_map.1 ha
    exact List.mem_range.2 (h k hk))
  simpa using this
theorem Inv.plen {N : Nat} {d : DevA} (I : Inv N d) : d.pend.length ≤ N := by
  have := nodup_u32 I.knd (fun k hk => by
    obtain ⟨q, hq, rfl⟩ := List.mem_map.1 hk
    exact (I.klt q hq).1)
  simpa using this
theorem Inv.get256 {N : Nat} {d : DevA} (I : Inv N d) {p : UInt32} (h : p ∈ d.pend.map (·.1)) : ((mget d.pend p).getD []).length = 256 := by
  obtain ⟨q, hq, rfl⟩ := List.mem_map.1 h
  rw [mget_some I.knd hq]
  exact (I.klt q hq).2
theorem wake_eq {N : Nat} {d : DevA} {fs : List Int} (I : Inv N d) (hN : N ≤ 12) : f_device_Device_Wake d fs = some (0, { d with off := false, isCut := false, lasts := 0, blocks := wakeB d.pend fs d.blocks, pend := [] }) := by
  unfold f_device_Device_Wake waitingO waitsO
  have := I.plen
  rw [some_bind, if_pos (by omega), some_bind]
  exact wake_fold d fs _ _ (fun e he => by
    have h1 := keysOf_mem.1 (enumU_mem he)
    refine ⟨enumU_nonneg he, ?_, I.get256 h1⟩
    obtain ⟨q, hq, e1⟩ := List.mem_map.1 h1
    rw [← e1, I.blen]
    exact (I.klt q hq).1) I.b256
theorem Inv.flush {N : Nat} {d : DevA} (I : Inv N d) (hN : N ≤ 12) : f_device_Device_Flush d = some (okR d { pTick d with blocks := flushB d.pend d.blocks, pend := [] }) :=
  flush_eq (Nat.le_trans I.plen hN) (fun q hq => by rw [I.blen]; exact (I.klt q hq).1)
theorem new_eq {n : Int} (h1 : 4 ≤ n) (h2 : n ≤ 4096) : f_device_New n = some (some { off := false, isCut := false, lasts := 0, counts := 0, blocks := List.replicate n.toNat (List.replicate 256 0), pend := [], bad := [], rcnt := 0, rtag := List.replicate 32 0, rboots := 0 }, 0) := by
  unfold f_device_New rep0O srepO
  have e : (decide (n < 4) || decide (4096 < n)) = false := by simp; omega
  rw [e, cond_false]
  simp only [some_bind]
  rw [if_pos (by simp), some_bind, if_pos (by simp), some_bind, if_pos ⟨by omega, by omega⟩, some_bind]
  rfl
end Go.Proofs.Ytmnmepaopodblaa

/- The laws of layer 7, of the plain functions: DeviceNone, DeviceBad, DeviceParts. No program's walk in sight. -/
namespace Go.Proofs.Ytmnmepaopodblaa
open Go

def zB : List UInt8 := List.replicate 256 0
def zT : List UInt8 := List.replicate 32 0
theorem zB_length : zB.length = 256 := by rw [zB, List.length_replicate]
theorem zT_length : zT.length = 32 := by rw [zT, List.length_replicate]
/-- a device whose register was not touched -/
abbrev D7 (off isCut : Bool) (lasts counts : Int) (bl : List (List UInt8)) (pd : List (UInt32 × List UInt8)) (bd : List (UInt32 × Bool)) : DevA := { off := off, isCut := isCut, lasts := lasts, counts := counts, blocks := bl, pend := pd, bad := bd, rcnt := 0, rtag := zT, rboots := 0 }
theorem new4 : f_device_New 4 = some (some (D7 false false 0 0 (List.replicate 4 zB) [] []), 0) := new_eq (by omega) (by omega)
theorem new8 : f_device_New 8 = some (some (D7 false false 0 0 (List.replicate 8 zB) [] []), 0) := new_eq (by omega) (by omega)
theorem keys1 {α : Type} (k : UInt32) (s : α) : keysOf [(k, s)] = [k] := by simp [keysOf]
theorem keys0 {α : Type} : keysOf ([] : List (UInt32 × α)) = [] := by simp [keysOf]
theorem mget1 {α : Type} (k : UInt32) (s : α) : mget [(k, s)] k = some s := by simp [mget]
theorem wake0 (fs : List Int) (bl : List (List UInt8)) : wakeB [] fs bl = bl := by unfold wakeB; rw [keys0]; rfl
theorem wake1 (k : UInt32) (s : List UInt8) (t : Int) (bl : List (List UInt8)) : wakeB [(k, s)] [t] bl = if 1 ≤ t ∧ t ≤ 4 then bl.set k.toNat (s.take (64 * t.toNat) ++ (bl.getD k.toNat []).drop (64 * t.toNat)) else bl := by
  unfold wakeB
  rw [keys1]
  show wstep [(k, s)] [t] bl (((0 : Nat) : Int), k) = _
  unfold wstep
  simp [mget1]
theorem inv_nil {N : Nat} {off isCut : Bool} {lasts counts : Int} {bl : List (List UInt8)} {bd : List (UInt32 × Bool)} (h1 : bl.length = N) (h2 : ∀ s ∈ bl, s.length = 256) : Inv N (D7 off isCut lasts counts bl [] bd) :=
  ⟨h1, h2, List.nodup_nil, fun q hq => by cases hq⟩
theorem inv_one {N : Nat} {off isCut : Bool} {lasts counts : Int} {bl : List (List UInt8)} {bd : List (UInt32 × Bool)} {k : UInt32} {s : List UInt8} (h1 : bl.length = N) (h2 : ∀ s ∈ bl, s.length = 256) (hk : k.toNat < N) (hs : s.length = 256) : Inv N (D7 off isCut lasts counts bl [(k, s)] bd) :=
  ⟨h1, h2, by simp, fun q hq => by obtain rfl := List.mem_singleton.1 hq; exact ⟨hk, hs⟩⟩
theorem zBs (n : Nat) : (List.replicate n zB).length = n ∧ ∀ s ∈ List.replicate n zB, s.length = 256 := ⟨List.length_replicate .., fun s hs => by rw [List.eq_of_mem_replicate hs]; exact zB_length⟩
theorem fill2 : (fillA [97, 98]).take 2 = [97, 98] := by
  unfold fillA
  rw [List.take_append_of_le_length (by simp)]
  rfl
theorem write_on {l c : Int} {bl : List (List UInt8)} {pd : List (UInt32 × List UInt8)} {bd : List (UInt32 × Bool)} {p : UInt32} {s : List UInt8} (hp : p.toNat < bl.length) (hs : s.length = 256) (hm : pd.length < 9223372036854775807) :
    f_device_Device_Write (D7 false false l c bl pd bd) p s = some (0, D7 false false l (wI (c + 1)) bl (mput pd p s) bd) := by
  rw [write_eq hp hs hm]
  simp [okR, pOn, pTick]
theorem flush_off {c : Int} {N : Nat} {bl : List (List UInt8)} {pd : List (UInt32 × List UInt8)} {bd : List (UInt32 × Bool)} (I : Inv N (D7 false true 0 c bl pd bd)) (hN : N ≤ 12) :
    f_device_Device_Flush (D7 false true 0 c bl pd bd) = some (71, D7 true true 0 c bl pd bd) := by
  rw [I.flush hN]
  simp [okR, pOn, pDead]
theorem mput_nil {κ α : Type} [DecidableEq κ] (k : κ) (a : α) : mput ([] : List (κ × α)) k a = [(k, a)] := rfl
theorem read_on {isCut : Bool} {l c : Int} {bl : List (List UInt8)} {pd : List (UInt32 × List UInt8)} {p : UInt32} (hp : p.toNat < bl.length) :
    f_device_Device_Read (D7 false isCut l c bl pd []) p = some (hold (D7 false isCut l c bl pd []) p, 0) := by
  rw [read_eq hp]
  simp [mget]
theorem read_off {isCut : Bool} {l c : Int} {bl : List (List UInt8)} {pd : List (UInt32 × List UInt8)} {bd : List (UInt32 × Bool)} {p : UInt32} (hp : p.toNat < bl.length) :
    f_device_Device_Read (D7 true isCut l c bl pd bd) p = some ([], 71) := by
  rw [read_eq hp]
  simp
theorem p_shown : f_law07_shown = some true := by
  unfold f_law07_shown
  rw [new4, some_bind, some_bind, filled_eq, some_bind]
  have hF := fillA_length [97, 98]
  have h2 := fill2
  obtain ⟨hb1, hb2⟩ := zBs 4
  generalize fillA [97, 98] = F at hF h2 ⊢
  generalize List.replicate 4 zB = bl at hb1 hb2 ⊢
  rw [write_on (by rw [hb1]; decide) hF (by simp), some_bind, mput_nil]
  dsimp only
  generalize wI (0 + 1) = c
  rw [cut_eq, some_bind]
  show (f_device_Device_Flush (D7 false true 0 c bl [(1, F)] [])).bind _ = _
  rw [flush_off (inv_one hb1 hb2 (by decide) hF) (by omega), some_bind]
  dsimp only
  rw [read_off (by rw [hb1]; decide)]
  show (f_device_Device_Wake (D7 true true 0 c bl [(1, F)] []) [2]).bind _ = _
  rw [wake_eq (inv_one hb1 hb2 (by decide) hF) (by omega), wake1, if_pos ⟨by omega, by omega⟩]
  show (f_device_Device_Read (D7 false false 0 c (bl.set 1 (F.take 128 ++ (bl.getD 1 []).drop 128)) [] []) 1).bind _ = _
  rw [read_on (by rw [List.length_set, hb1]; decide)]
  have hg : (bl.getD 1 []).length = 256 := by rw [getD_lt _ (by omega)]; exact hb2 _ (List.getElem_mem _)
  have hh : hold (D7 false false 0 c (bl.set 1 (F.take 128 ++ (bl.getD 1 []).drop 128)) [] []) 1 = F.take 128 ++ (bl.getD 1 []).drop 128 := by
    show (bl.set 1 _).getD 1 [] = _
    rw [getD_lt _ (by rw [List.length_set, hb1]; omega)]
    simp
  show (andO _ _).bind _ = _
  dsimp only
  rw [hh]
  generalize bl.getD 1 [] = u at hg
  have hl : (F.take 128 ++ u.drop 128).length = 256 := by simp [hF, hg]
  have hs : slcI (F.take 128 ++ u.drop 128) 0 2 = some [97, 98] := by
    unfold slcI
    rw [if_pos ⟨by omega, by omega, by omega⟩]
    show some ((F.take 128 ++ u.drop 128).take 2) = _
    rw [List.take_append_of_le_length (by simp; omega), List.take_take]
    exact congrArg some h2
  rw [hs, hl]
  rfl
theorem p_DeviceNone (p : UInt32) (s : List UInt8) (l : List Int) : f_law07_DeviceNone p s l = some true := by
  unfold f_law07_DeviceNone
  rw [p_shown]
  rfl
theorem p_DeviceBad (s : List UInt8) (p : UInt32) : f_law07_DeviceBad s p = some true := by
  unfold f_law07_DeviceBad
  rw [p_shown, some_bind, new4, some_bind, some_bind, filled_eq, some_bind]
  have hF := fillA_length s
  obtain ⟨hb1, hb2⟩ := zBs 4
  generalize fillA s = F at hF ⊢
  generalize List.replicate 4 zB = bl at hb1 hb2 ⊢
  by_cases hp : p.toNat < 4
  · have hp' : ¬ (4 ≤ p) := by rw [UInt32.not_le, UInt32.lt_iff_toNat_lt]; exact hp
    rw [put_eq (by rw [hb1]; exact hp) hF]
    show (f_device_Device_Bad (D7 false false 0 0 (bl.set p.toNat F) [] []) p true).bind _ = _
    rw [bad_eq (by rw [List.length_set, hb1]; exact hp) (by simp)]
    show (f_device_Device_Read (D7 false false 0 0 (bl.set p.toNat F) [] [(p, true)]) p).bind _ = _
    rw [read_eq (by rw [List.length_set, hb1]; exact hp), mget1]
    show (f_device_Device_Bad (D7 false false 0 0 (bl.set p.toNat F) [] [(p, true)]) p false).bind _ = _
    rw [bad_eq (by rw [List.length_set, hb1]; exact hp) (by simp)]
    have hm : mput [(p, true)] p false = [(p, false)] := by simp [mput, mdel]
    rw [hm]
    show (f_device_Device_Read (D7 false false 0 0 (bl.set p.toNat F) [] [(p, false)]) p).bind _ = _
    rw [read_eq (by rw [List.length_set, hb1]; exact hp), mget1, decide_eq_false hp']
    have hh : hold (D7 false false 0 0 (bl.set p.toNat F) [] [(p, false)]) p = F := by
      show (bl.set p.toNat F).getD p.toNat [] = _
      rw [getD_lt _ (by rw [List.length_set, hb1]; exact hp)]
      simp
    rw [hh]
    simp [ret_eq]
  · have hp' : 4 ≤ p := by rw [UInt32.le_iff_toNat_le]; exact Nat.not_lt.1 hp
    have hq : ¬ p.toNat < bl.length := by rw [hb1]; exact hp
    rw [put_bad (.inl hq)]
    show (f_device_Device_Bad (D7 false false 0 0 bl [] []) p true).bind _ = _
    rw [bad_bad hq]
    show (f_device_Device_Read (D7 false false 0 0 bl [] []) p).bind _ = _
    rw [read_bad hq]
    show (f_device_Device_Bad (D7 false false 0 0 bl [] []) p false).bind _ = _
    rw [bad_bad hq]
    show (f_device_Device_Read (D7 false false 0 0 bl [] []) p).bind _ = _
    rw [read_bad hq, decide_eq_true hp']
    rfl
theorem p_DeviceParts (s t : List UInt8) (k : Int) : f_law07_DeviceParts s t k = some true := by
  unfold f_law07_DeviceParts
  rw [p_shown, some_bind, new4, some_bind, some_bind, filled_eq, some_bind, filled_eq, some_bind]
  have hF := fillA_length s
  have hG := fillA_length t
  obtain ⟨hb1, hb2⟩ := zBs 4
  generalize fillA s = F at hF ⊢
  generalize fillA t = G at hG ⊢
  generalize List.replicate 4 zB = bl at hb1 hb2 ⊢
  rw [put_eq (by rw [hb1]; decide) hF]
  show (f_device_Device_Write (D7 false false 0 0 (bl.set 2 F) [] []) 2 G).bind _ = _
  have hc1 : (bl.set 2 F).length = 4 := by rw [List.length_set, hb1]
  have hc2 : ∀ s ∈ bl.set 2 F, s.length = 256 := fun s hs => by
    rcases List.mem_or_eq_of_mem_set hs with hs | rfl
    · exact hb2 s hs
    · exact hF
  have hc3 : (bl.set 2 F).getD 2 [] = F := by rw [getD_lt _ (by omega)]; simp
  generalize bl.set 2 F = cl at hc1 hc2 hc3 ⊢
  rw [write_on (by rw [hc1]; decide) hG (by simp), some_bind, mput_nil]
  dsimp only
  generalize wI (0 + 1) = c
  rw [read_on (by rw [hc1]; decide)]
  have hh : hold (D7 false false 0 c cl [(2, G)] []) 2 = G := rfl
  rw [hh]
  show (f_device_Device_Wake (D7 false false 0 c cl [(2, G)] []) [k]).bind _ = _
  rw [wake_eq (inv_one hc1 hc2 (by decide) hG) (by omega), wake1]
  have e2 : (2 : UInt32).toNat = 2 := rfl
  rw [e2, hc3]
  by_cases hk : 1 ≤ k ∧ k ≤ 4
  · rw [if_pos hk]
    show (f_device_Device_Read (D7 false false 0 c (cl.set 2 (G.take (64 * k.toNat) ++ F.drop (64 * k.toNat))) [] []) 2).bind _ = _
    rw [read_on (by rw [List.length_set, hc1]; decide)]
    have hh : hold (D7 false false 0 c (cl.set 2 (G.take (64 * k.toNat) ++ F.drop (64 * k.toNat))) [] []) 2 = G.take (64 * k.toNat) ++ F.drop (64 * k.toNat) := by
      show (cl.set 2 _).getD 2 [] = _
      rw [getD_lt _ (by rw [List.length_set, hc1]; omega)]
      simp
    rw [hh, decide_eq_true hk.1, decide_eq_true hk.2]
    have hw : wI (64 * k) = 64 * k := wI_eq (by omega) (by omega)
    have ht : (64 * k).toNat = 64 * k.toNat := by omega
    have e3 : slcI G 0 (64 * k) = some (G.take (64 * k.toNat)) := by
      unfold slcI
      rw [if_pos ⟨by omega, by omega, by omega⟩, ht]
      simp
    have e4 : slcI F (64 * k) (F.length : Int) = some (F.drop (64 * k.toNat)) := by
      unfold slcI
      rw [if_pos ⟨by omega, by omega, by omega⟩, ht]
      rw [List.take_of_length_le (by simp)]
    have e5 : catS (G.take (64 * k.toNat)) (F.drop (64 * k.toNat)) = some (G.take (64 * k.toNat) ++ F.drop (64 * k.toNat)) := by
      unfold catS
      rw [if_pos (by simp; omega)]
    unfold f_law07_DeviceParts_j1
    simp [ret_eq, hw, e3, e4, e5, andO]
  · rw [if_neg hk]
    show (f_device_Device_Read (D7 false false 0 c cl [] []) 2).bind _ = _
    rw [read_on (by rw [hc1]; decide)]
    have hh : hold (D7 false false 0 c cl [] []) 2 = F := hc3
    rw [hh]
    have hn : (decide (1 ≤ k) && decide (k ≤ 4)) = false := by simp; omega
    have e3 : slcI G 0 0 = some [] := by
      unfold slcI
      rw [if_pos ⟨by omega, by omega, by omega⟩]
      simp
    have e4 : slcI F 0 (F.length : Int) = some F := by
      unfold slcI
      rw [if_pos ⟨by omega, by omega, by omega⟩]
      simp
    have e5 : catS [] F = some F := by
      unfold catS
      rw [if_pos (by simp; omega)]
      rfl
    rw [hn]
    unfold f_law07_DeviceParts_j1
    simp [e3, e4, e5, andO]
end Go.Proofs.Ytmnmepaopodblaa
