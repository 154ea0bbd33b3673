/- The engine's reading of slices that lie in kept memory, and the lending of chunks to a call that only reads them. No condition beyond those stated. -/
import Derived.Test.YtnpnmdbleopikaaDoorS7
namespace Go.Proofs.YtnpnmdbleopikaaDoor
open Go

variable {P : Program} {ro : Option Nat} {K : Nat → Prop} {w0 : World} {N : Nat} {Q : Post} {D : List Nat} {l l' : Tm} {H H' Hs L : List Chunk} {ops : Array Oper} {items : Its}
variable {tk : Bool} {o : Oper} {t : Nat} {v : Value} {x y z : Operand}

/-- the slice v reads as xs, in kept memory: each element sz cells, as enc says -/
structure SlOf {α : Type} (K : Nat → Prop) (w0 : World) (enc : α → List Value) (sz : Nat) (v : Value) (xs : List α) : Prop where
  len : ∀ x, (enc x).length = sz
  at_ : (v = .slice none 0 0 ∧ xs = []) ∨ ∃ b off cap, v = .slice (some ⟨b, off, none⟩) xs.length cap ∧ xs.length ≤ cap ∧
    ∀ j u, (xs.flatMap enc)[j]? = some u → K b ∧ w0.cell? ⟨b, off + j, none⟩ = some u

theorem flatMap_get {α : Type} {enc : α → List Value} {sz : Nat} (hl : ∀ x, (enc x).length = sz) : ∀ (xs : List α) (i : Nat) (x : α) (j : Nat) (u : Value), xs[i]? = some x → (enc x)[j]? = some u → (xs.flatMap enc)[i * sz + j]? = some u
  | [], i, x, j, u, h, _ => by simp at h
  | y :: ys, 0, x, j, u, h, hu => by
    simp at h
    subst h
    have hlt : j < (enc y).length := by
      rcases Nat.lt_or_ge j (enc y).length with h | h
      · exact h
      · rw [List.getElem?_eq_none h] at hu; cases hu
    rw [List.flatMap_cons, Nat.zero_mul, Nat.zero_add, List.getElem?_append_left hlt]
    exact hu
  | y :: ys, i + 1, x, j, u, h, hu => by
    have hy : (enc y).length = sz := hl y
    rw [List.flatMap_cons, List.getElem?_append_right (by rw [hy, Nat.add_mul]; omega)]
    have e : (i + 1) * sz + j - (enc y).length = i * sz + j := by rw [hy, Nat.add_mul]; omega
    rw [e]
    exact flatMap_get hl ys i x j u (by simpa using h) hu

theorem SL.lenV {α : Type} {enc : α → List Value} {sz : Nat} {xs : List α} {e ty : TypeId} (hk : SlOf K w0 enc sz v xs) (ho : At ops N l o t (.call { callee := .builtin .len, args := #[x], argTypes := #[ty] })) (hty : P.underlying ty = some (.slice e)) (hx : evl l x = some v)
    (h : SL P ro K w0 N ops Hs items Q D ((t, vI xs.length) :: l) H) : SL P ro K w0 N ops Hs (.cons (tk, o) items) Q D l H :=
  SL.val ho rfl (fun a w ha hsw => by
    simp only [execOp, ho.op, resolve, invoke, builtin, Builtin.len_]
    rcases hk.at_ with ⟨rfl, rfl⟩ | ⟨b, off, cap, rfl, _⟩ <;> simp [ha.eval hx, run_underlying hty, goInt]) h
/-- an element's address, and what lies there -/
theorem SL.iaV {α : Type} {enc : α → List Value} {sz : Nat} {xs : List α} {k : IntKind} {i : Int} {ty e : TypeId} (n : Nat) (x0 : α) (hk : SlOf K w0 enc sz v xs) (ho : At ops N l o t (.indexAddr ty x y)) (hty : P.underlying ty = some (.slice e)) (hsz : tsz P e = some sz) (hx : evl l x = some v) (hy : evl l y = some (.int k i))
    (hi : i = (n : Int)) (hn : xs[n]? = some x0)
    (h : ∀ b off, (∀ L w, HpS K w0 L w → ∀ j u, (enc x0)[j]? = some u → w.cell? ⟨b, off + j, none⟩ = some u) → SL P ro K w0 N ops Hs items Q D ((t, vP b off) :: l) H) : SL P ro K w0 N ops Hs (.cons (tk, o) items) Q D l H := by
  have hlt : n < xs.length := by
    rcases Nat.lt_or_ge n xs.length with h | h
    · exact h
    · rw [List.getElem?_eq_none h] at hn; cases hn
  rcases hk.at_ with ⟨_, rfl⟩ | ⟨b, off, cap, rfl, _, hc⟩
  · simp at hlt
  · refine SL.ia ho hty hsz hx hy hi hlt (h b (off + n * sz) ?_)
    intro L w hw j u hu
    obtain ⟨hb, hcell⟩ := hc (n * sz + j) u (flatMap_get hk.len xs n x0 j u hn hu)
    have := cell_base (L := L) hb hcell w hw
    rw [Nat.add_assoc]
    exact this
theorem cells_at {b off : Nat} {cs : List Value} {L : List Chunk} (hc : ∀ w, HpS K w0 L w → ∀ j u, cs[j]? = some u → w.cell? ⟨b, off + j, none⟩ = some u) : ∀ w, HpS K w0 L w → ∀ j u, cs[j]? = some u → w.cell? (Addr.add ⟨b, off, none⟩ j) = some u :=
  fun w hw j u hu => by rw [Addr.add_mk]; exact hc w hw j u hu
/-- a prefix -/
theorem SL.slV {α : Type} {enc : α → List Value} {sz : Nat} {xs : List α} {k : IntKind} {j : Int} {ty e : TypeId} (n : Nat) (hk : SlOf K w0 enc sz v xs) (ho : At ops N l o t (.slice ty x none (some z) none)) (hty : P.underlying ty = some (.slice e)) (hsz : tsz P e = some sz) (hx : evl l x = some v) (hz : evl l z = some (.int k j))
    (hj : j = (n : Int)) (hn : n ≤ xs.length) (h : ∀ v', SlOf K w0 enc sz v' (xs.take n) → SL P ro K w0 N ops Hs items Q D ((t, v') :: l) H) : SL P ro K w0 N ops Hs (.cons (tk, o) items) Q D l H := by
  subst hj
  rcases hk.at_ with ⟨rfl, rfl⟩ | ⟨b, off, cap, rfl, hcap, hc⟩
  · have hn0 : n = 0 := by simpa using hn
    subst hn0
    refine SL.val (v := .slice none 0 0) ho rfl (fun a w ha _ => ?_) (h _ ⟨hk.len, .inl ⟨rfl, by simp⟩⟩)
    simp only [execOp, ho.op, Instr.sliceAt, Instr.slice, Option.map]
    simp [ha.eval hx, ha.eval hz, run_underlying hty, run_sizeOf hsz, Instr.sliceBounds, Instr.sliceBound, asIntOf]
  · have hle : n ≤ cap := Nat.le_trans hn hcap
    refine SL.val (v := .slice (some ⟨b, off, none⟩) n cap) ho rfl (fun a w ha _ => ?_) (h _ ⟨hk.len, .inr ⟨b, off, cap, by simp [List.length_take, Nat.min_eq_left hn], by simp [List.length_take]; omega, ?_⟩⟩)
    · simp only [execOp, ho.op, Instr.sliceAt, Instr.slice, Option.map]
      simp [ha.eval hx, ha.eval hz, run_underlying hty, run_sizeOf hsz, Instr.sliceBounds, Instr.sliceBound, asIntOf, hle, Addr.add_mk]
    · intro j u hu
      refine hc j u ?_
      have hpre : (xs.take n).flatMap enc ++ (xs.drop n).flatMap enc = xs.flatMap enc := by
        rw [← List.flatMap_append, List.take_append_drop]
      rw [← hpre]
      have hlt : j < ((xs.take n).flatMap enc).length := by
        rcases Nat.lt_or_ge j ((xs.take n).flatMap enc).length with h | h
        · exact h
        · rw [List.getElem?_eq_none h] at hu; cases hu
      rw [List.getElem?_append_left hlt]
      exact hu

/-! ### Lending -/
/-- (K', w1) keeps all that (K, w0) keeps -/
def Keeps (K : Nat → Prop) (w0 : World) (K' : Nat → Prop) (w1 : World) : Prop := ∀ b, K b → K' b ∧ w1.heap[b]? = w0.heap[b]?
theorem SlOf.keeps {α : Type} {enc : α → List Value} {sz : Nat} {xs : List α} {K' : Nat → Prop} {w1 : World} (h : SlOf K w0 enc sz v xs) (hk : Keeps K w0 K' w1) : SlOf K' w1 enc sz v xs := by
  refine ⟨h.len, ?_⟩
  rcases h.at_ with h0 | ⟨b, off, cap, rfl, hcap, hc⟩
  · exact .inl h0
  · refine .inr ⟨b, off, cap, rfl, hcap, fun j u hu => ?_⟩
    obtain ⟨h1, h2⟩ := hc j u hu
    obtain ⟨h3, h4⟩ := hk b h1
    refine ⟨h3, ?_⟩
    rw [World.cell?_of_block (w := w0) h4]
    exact h2
/-- chunks B are lent to a call that reads them: they come back as they were -/
theorem Con.lend {f : FuncId} {args : List Value} {B Hin : List Chunk} {post : Value → List Chunk → Prop}
    (hc : ∀ K' w1, Keeps K w0 K' w1 → (∀ c ∈ B, c.holds w1 ∧ ∀ b, c.foot b → K' b) → Con P K' w1 f args Hin H post) :
    Con P K w0 f args (B ++ Hin) H (fun v M => ∃ M', M = B ++ M' ∧ post v M') := by
  intro w hw
  have hB : HpOk K w0 (B ++ (Hin ++ H)) w := by rw [← List.append_assoc]; exact hw
  have hpw := List.pairwise_append.1 hB.disj
  let K' : Nat → Prop := fun b => K b ∨ ∃ c ∈ B, c.foot b
  have hK' : ∀ b, K' b → b < w.heap.size := by
    rintro b (h | ⟨c, hcB, hb⟩)
    · exact hw.kltw b h
    · exact (hB.foot c (List.mem_append_left _ hcB) b hb).1
  have h1 : HpOk K' w (Hin ++ H) w := by
    refine ⟨rfl, rfl, rfl, Nat.le_refl _, hK', fun _ _ => rfl, fun c hc => hB.holds c (List.mem_append_right _ hc), fun c hc b hb => ?_, hpw.2.1⟩
    have := hB.foot c (List.mem_append_right _ hc) b hb
    refine ⟨this.1, ?_⟩
    rintro (h | ⟨d, hd, hdb⟩)
    · exact this.2 h
    · exact hpw.2.2 d hd c hc b hdb hb
  refine (hc K' w (fun b hb => ⟨.inl hb, (hw.keep b hb)⟩) (fun c hcB => ⟨hB.holds c (List.mem_append_left _ hcB), fun b hb => .inr ⟨c, hcB, hb⟩⟩) w h1).mono ?_
  rintro e w' ⟨v, M', rfl, hp, hw'⟩
  refine ⟨v, B ++ M', rfl, ⟨M', rfl, hp⟩, ?_⟩
  rw [List.append_assoc]
  refine ⟨hw'.os.trans hw.os, hw'.tape.trans hw.tape, hw'.output.trans hw.output, Nat.le_trans hw.size hw'.size, hw.klt, fun b hb => (hw'.keep b (.inl hb)).trans (hw.keep b hb), ?_, ?_, ?_⟩
  · intro c hc
    rcases List.mem_append.1 hc with hc | hc
    · exact c.loc w w' (fun b hb => hw'.keep b (.inr ⟨c, hc, hb⟩)) (hB.holds c (List.mem_append_left _ hc))
    · exact hw'.holds c hc
  · intro c hc b hb
    rcases List.mem_append.1 hc with hc | hc
    · have := hB.foot c (List.mem_append_left _ hc) b hb
      exact ⟨Nat.lt_of_lt_of_le this.1 hw'.size, this.2⟩
    · have := hw'.foot c hc b hb
      exact ⟨this.1, fun h => this.2 (.inl h)⟩
  · refine List.pairwise_append.2 ⟨hpw.1, hw'.disj, ?_⟩
    intro c hc d hd b hb hb'
    exact (hw'.foot d hd b hb').2 (.inr ⟨c, hc, hb⟩)
/-- a slice over the whole of a lent chunk -/
theorem SlOf.lent {α : Type} {enc : α → List Value} {sz : Nat} {xs : List α} {b cap : Nat} {c : Array Value} {e : TypeId} {z : Nat × Nat} {K' : Nat → Prop} {w1 : World} (hl : ∀ x, (enc x).length = sz) (hcap : xs.length ≤ cap) (hc : c.toList.take (xs.length * sz) = xs.flatMap enc)
    (h : (own b (.cells c e z)).holds w1 ∧ ∀ k, (own b (.cells c e z)).foot k → K' k) : SlOf K' w1 enc sz (.slice (some ⟨b, 0, none⟩) xs.length cap) xs := by
  refine ⟨hl, .inr ⟨b, 0, cap, rfl, hcap, fun j u hu => ⟨h.2 b rfl, ?_⟩⟩⟩
  have hb : w1.heap[b]? = some (.cells c e z) := h.1
  rw [← hc, List.getElem?_take] at hu
  split at hu
  · simp only [Nat.zero_add, World.cell?, hb]
    simpa using hu
  · cases hu
/-- .. over a row of the call's own -/
theorem SlOf.lentR {α : Type} {enc : α → List Value} {sz : Nat} {xs : List α} {e : TypeId} {v : Value} {K' : Nat → Prop} {w1 : World} (hl : ∀ x, (enc x).length = sz)
    (h : (rowC e sz v xs.length (xs.flatMap enc)).holds w1 ∧ ∀ k, (rowC e sz v xs.length (xs.flatMap enc)).foot k → K' k) : SlOf K' w1 enc sz v xs := by
  have hrow : w1.ownsRowF 0 e sz v xs.length (xs.flatMap enc) := h.1
  refine ⟨hl, ?_⟩
  rcases hrow.2 with ⟨rfl, h0⟩ | ⟨g, cap, cur, fz, rfl, _, hg, _, hc, _⟩
  · exact .inl ⟨rfl, List.length_eq_zero_iff.1 h0⟩
  · refine .inr ⟨g, 0, cap, rfl, hc, fun j u hu => ⟨h.2 g rfl, ?_⟩⟩
    have := hrow.cells (g := g) rfl j u hu
    rw [Addr.add_mk] at this
    exact this
end Go.Proofs.YtnpnmdbleopikaaDoor
