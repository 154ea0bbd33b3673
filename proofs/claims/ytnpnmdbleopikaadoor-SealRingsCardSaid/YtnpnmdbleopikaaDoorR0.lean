/- From a row's condition to a contract's, and back: readings, keys in a slice, heads, tables. No condition beyond those stated. -/
import Derived.Test.YtnpnmdbleopikaaDoorP7
import Derived.Test.YtnpnmdbleopikaaDoorRows
import Derived.WalkKit
import Derived.ProofKit
import Derived.OpenShut
import Derived.Carry
import Derived.Deep.DeepHandedRow
import Derived.Deep.SlicePairs
import Derived.Lib.LaidTab
import Derived.Lib.SmallJoins
namespace Go.Proofs.YtnpnmdbleopikaaDoor
open Go Go.ChangeShapes Go.WideShapes Go.ChangeAt Go.RowKit Go.Deep

section
variable {G : Type} {enc : TypeId × Value → G} {P : Program} {W W' : World}

theorem HpOk.below {H' : List Chunk} (h : HpOk (· < W.heap.size) W H' W') : Below W.heap.size W W' := ⟨h.os, h.tape, h.output, h.size, fun b hb => h.keep b hb⟩
/-- all types of a list can be read -/
def rowed (P : Program) (ts : List TypeId) : Bool := ts.all fun t => P.readableRec t && decide (t < P.types.size)
theorem trodAll_below (hl : laidOutB P = true) (hb : Below W.heap.size W W') : ∀ {ts : List TypeId} {vs : List Value} {ds : List (DataW G)} {ps : List MemPlace}, rowed P ts = true →
    DataW.TrodAll enc P W 0 (fun _ => true) true ts vs ds ps → DataW.TrodAll enc P W' 0 (fun b => decide (b < W.heap.size)) true ts vs ds ps
  | [], [], [], _, _, h => h
  | t :: ts, v :: vs, d :: ds, ps, hr, h => by
    obtain ⟨p, q, h1, h2, e⟩ := h
    simp only [rowed, List.all_cons, Bool.and_eq_true, decide_eq_true_eq] at hr
    refine ⟨p, q, Below.trod hl hr.1.1 hr.1.2 h1 hb ?_, trodAll_below hl hb (by simpa [rowed] using hr.2) h2, e⟩
    obtain ⟨n, hn⟩ := h1
    exact DataW.trod_lt n _ _ _ hn
  | [], _ :: _, _, _, _, h => h.elim
  | [], [], _ :: _, _, _, h => h.elim
  | _ :: _, [], _, _, _, h => h.elim
  | _ :: _, _ :: _, [], _, _, h => h.elim
/-- a law that answers true and leaves old memory as it was -/
theorem post_true {fn : Func} {s : ChangeSpec} {tb : TypeId} {args : Array Value} {ds gs : List (DataW G)} {before : List MemPlace} (hl : laidOutB P = true) (hr : rowed P fn.params.toList = true)
    (hv : s.vars = []) (hres : fn.resultTypes.toList = [tb]) (htb : P.underlying tb = some .bool) (hW : DataW.Whole enc P fn.params.toList s.vars false W args.toList ds gs before)
    (h1 : (s.fn G (ds ++ gs)).results = [.lit (.bool true)]) (h2 : (s.fn G (ds ++ gs)).args = ds) (h3 : (s.fn G (ds ++ gs)).vars = []) (hb : Below W.heap.size W W') :
    s.post enc P fn false true false false W args (.bool true) W' := by
  have hW' := hW
  obtain ⟨p, q, hA, hV, e, _, _⟩ := hW
  have hsz : fn.resultTypes.size = 1 := by rw [← Array.length_toList, hres]; rfl
  refine ⟨ds, gs, before, [], p, [], hW', ?_, ?_, ?_, hb.frame _, fun h => by cases h⟩
  · rw [h1, hres, hsz]
    exact trodAll_cons_mk (shut_bool htb _) trodAll_mk0
  · rw [h2]
    exact trodAll_below hl hb hr hA
  · rw [hv, h3]
    rfl
end
/-- whatever the world, the walk's answer is the row's -/
theorem calls_row {f : FuncId} {args : List Value} {W : World} {R : Value → World → Prop} {P : Program} {post : Value → List Chunk → Prop} (h : Con P (· < W.heap.size) W f args [] [] post)
    (hp : ∀ v W', (∃ M, post v M) → Below W.heap.size W W' → R v W') : Calls P f args.toArray W fun e W' => ∃ v, e = .returned v ∧ R v W' := by
  refine (h W (HpOk.init W)).mono ?_
  rintro e W' ⟨v, M, rfl, hq, hw⟩
  exact ⟨v, rfl, hp v W' ⟨M, hq⟩ hw.below⟩

section
variable {G : Type} {enc : TypeId × Value → G} {P : Program} {W : World}
theorem u32_of {z : Int} (h : (Lit.int .u32 z).wf = true) : Value.int .u32 z = vU32 (UInt32.ofNat z.toNat) := by
  simp only [Lit.wf, Bool.and_eq_true, decide_eq_true_eq] at h
  have h1 : IntKind.u32.min = 0 := rfl
  have h2 : IntKind.u32.max = 4294967295 := rfl
  rw [h1, h2] at h
  simp only [vU32, UInt32.toNat_ofNat']
  congr 1
  omega
theorem u64_of {z : Int} (h : (Lit.int .u64 z).wf = true) : Value.int .u64 z = vU64 (UInt64.ofNat z.toNat) := by
  simp only [Lit.wf, Bool.and_eq_true, decide_eq_true_eq] at h
  have h1 : IntKind.u64.min = 0 := rfl
  have h2 : IntKind.u64.max = 18446744073709551615 := rfl
  rw [h1, h2] at h
  simp only [vU64, UInt64.toNat_ofNat']
  congr 1
  omega
theorem u8_of {z : Int} (h : (Lit.int .u8 z).wf = true) : Value.int .u8 z = vU8 (UInt8.ofNat z.toNat) := by
  simp only [Lit.wf, Bool.and_eq_true, decide_eq_true_eq] at h
  have h1 : IntKind.u8.min = 0 := rfl
  have h2 : IntKind.u8.max = 255 := rfl
  rw [h1, h2] at h
  simp only [vU8, UInt8.toNat_ofNat']
  congr 1
  omega
theorem str_of (s : ByteArray) : Value.string s = vS s.data.toList := by
  simp [vS]
theorem choose_key {n : Nat} {V0 V1 : Nat → Value} (h : ∀ i, i < n → ∃ k : KeyA, encKey k = [V0 i, V1 i]) : ∃ l : List KeyA, l.length = n ∧ ∀ i (hi : i < l.length), encKey l[i] = [V0 i, V1 i] := by
  induction n with
  | zero => exact ⟨[], rfl, fun i hi => by simp at hi⟩
  | succ n ih =>
    obtain ⟨l, hl, hk⟩ := ih fun i hi => h i (by omega)
    obtain ⟨k, hk'⟩ := h n (by omega)
    refine ⟨l ++ [k], by simp [hl], fun i hi => ?_⟩
    rcases Nat.lt_or_ge i l.length with h1 | h1
    · rw [List.getElem_append_left h1]; exact hk i h1
    · simp only [List.length_append, List.length_singleton] at hi
      have : i = n := by omega
      subst this
      rw [List.getElem_append_right h1]
      simpa using hk'
theorem encKey_at {l : List KeyA} {V0 V1 : Nat → Value} (h : ∀ i (hi : i < l.length), encKey l[i] = [V0 i, V1 i]) {j : Nat} {u : Value} (hu : (l.flatMap encKey)[j]? = some u) :
    ∃ i, i < l.length ∧ ((j = i * 2 ∧ u = V0 i) ∨ (j = i * 2 + 1 ∧ u = V1 i)) := by
  induction l generalizing j V0 V1 with
  | nil => simp at hu
  | cons k r ih =>
    have h0 : encKey k = [V0 0, V1 0] := h 0 (by simp)
    rw [List.flatMap_cons, h0] at hu
    match j, hu with
    | 0, hu =>
      simp only [List.cons_append, List.getElem?_cons_zero, Option.some.injEq] at hu
      exact ⟨0, by simp, .inl ⟨rfl, hu.symm⟩⟩
    | 1, hu =>
      simp only [List.cons_append, List.getElem?_cons_succ, List.getElem?_cons_zero, Option.some.injEq] at hu
      exact ⟨0, by simp, .inr ⟨rfl, hu.symm⟩⟩
    | j + 2, hu =>
      simp only [List.cons_append, List.nil_append, List.getElem?_cons_succ] at hu
      obtain ⟨i, hi, hc⟩ := ih (V0 := fun i => V0 (i + 1)) (V1 := fun i => V1 (i + 1)) (fun i hi => h (i + 1) (by simp; omega)) hu
      refine ⟨i + 1, by simp; omega, ?_⟩
      rcases hc with ⟨rfl, rfl⟩ | ⟨rfl, rfl⟩
      · exact .inl ⟨by omega, rfl⟩
      · exact .inr ⟨by omega, rfl⟩
/-- an argument that is a slice of keys -/
theorem open_keys {t e : TypeId} {f0 f1 : Field} {base : Nat} {v : Value} {d : DataW G} {p : List MemPlace} (ht : P.underlying t = some (.slice e)) (he : P.underlying e = some (.struct #[f0, f1]))
    (ce : P.cellsOf e = 2) (o0 : f0.offset = 0) (o1 : f1.offset = 1) (c0 : P.cellsOf f0.type = 1) (c1 : P.cellsOf f1.type = 1) (u0 : P.underlying f0.type = some (.int .u32)) (u1 : P.underlying f1.type = some .string)
    (hval : Value.okWide P W .any base t v) (h : DataW.Trod enc P W 0 (fun _ => true) true t v d p) : ∃ l : List KeyA, SlOf (· < W.heap.size) W encKey 2 v l ∧ l.length ≤ 9223372036854775807 := by
  obtain ⟨a', len', cap', rfl⟩ := okWide_slice ht hval
  obtain ⟨n, hn⟩ := h
  have hok : Cell.ok P W .any base t (.slice a' len' cap') := by
    simpa [Value.okWide, ht, Cell.okWide] using hval
  rcases open_slice_pairs ht he ce o0 o1 c0 c1 hn with ⟨hc, _⟩ | ⟨a, len, cap, m, n, V0, V1, D0, D1, P0, P1, hc, _, hl, hm, hmm, _, hall⟩
  · simp [Value.cells] at hc
    obtain ⟨rfl, rfl, rfl⟩ := hc
    exact ⟨[], ⟨fun _ => rfl, .inl ⟨rfl, rfl⟩⟩, by simp⟩
  · simp [Value.cells] at hc
    obtain ⟨rfl, rfl, rfl⟩ := hc
    simp only [Cell.ok, ht] at hok
    obtain ⟨b, off, spot⟩ := a
    obtain rfl : spot = none := hok.2.2.2.1
    simp only [if_true] at hmm
    subst hmm
    obtain ⟨l, hll, hlk⟩ := choose_key (n := len') (V0 := V0) (V1 := V1) fun i hi => by
      obtain ⟨_, _, h2, h3⟩ := hall i (by omega)
      obtain ⟨z, hz, _, hwf⟩ := DataW.trod_int u0 h2
      obtain ⟨s, hs, _, _⟩ := DataW.trod_string u1 h3
      simp only [List.cons.injEq, and_true] at hz hs
      exact ⟨⟨UInt32.ofNat z.toNat, s.data.toList⟩, by rw [encKey, hz, hs, u32_of hwf, str_of]⟩
    have hcap : m ≤ 9223372036854775807 := by simpa [maxLen] using hm
    refine ⟨l, ⟨fun _ => rfl, .inr ⟨b, off, m, by rw [hll], by omega, fun j u hu => ?_⟩⟩, by omega⟩
    obtain ⟨i, hi, hc⟩ := encKey_at hlk hu
    obtain ⟨h0, h1, _, _⟩ := hall i (by omega)
    simp only [Addr.add_mk] at h0 h1
    have hbl : ∀ {x : Nat} {q : Value}, W.cell? ⟨b, x, none⟩ = some q → b < W.heap.size := by
      intro x q hq
      rcases Nat.lt_or_ge b W.heap.size with h | h
      · exact h
      · have : W.heap[b]? = none := by simp [h]
        simp [World.cell?, this] at hq
    rcases hc with ⟨rfl, rfl⟩ | ⟨rfl, rfl⟩
    · exact ⟨hbl h0, h0⟩
    · refine ⟨hbl h1, ?_⟩
      rw [← h1]
end
end Go.Proofs.YtnpnmdbleopikaaDoor
