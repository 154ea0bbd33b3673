/- The engine's ground, in one sentence: rules of walking a Go function's text with two descriptors (temporaries, heap chunks), proved over the kit's walk laws. No condition. -/
import Derived.RangeFuncRecord
import Derived.RangeFuncCalls
import Derived.OrdersIn
import Derived.OwnWalkIn
import Derived.KernelRfl
namespace Go.Proofs.YtnpnmdbleopikaaDoor
open Go

/-! ### Fences: all of the program; in a round -/
def Fc : Option Nat → Fence
  | none => Fence.wide
  | some l => Fence.wide.inRound l
theorem Fc_round : ∀ ro, (Fc ro).round = ro | none => rfl | some _ => rfl
theorem Fc_fn : ∀ ro f, (Fc ro).fn f | none, _ => trivial | some _, _ => trivial
theorem Fc_depth : ∀ ro, (Fc ro).depth = none | none => rfl | some _ => rfl
theorem Fc_room (ro n) : (Fc ro).room n := fun d h => by rw [Fc_depth] at h; cases h
theorem Fc_calls {P : Program} {n : Nat} {f : FuncId} {args : Array Value} {w : World} {R : Ending → World → Prop} : ∀ ro, Calls P f args w R → CallsIn (Fc ro) n P f args w R
  | none, h => callsIn_wide.2 h
  | some l, h => CallsIn.inRound l (callsIn_wide.2 h)
theorem Fc_rounds {P : Program} {n l : Nat} {f : FuncId} {tmps : Array Value} {x y : Code} {w : World} {R : Ending → World → Prop} : ∀ ro, RoundIn Fence.wide n P l f tmps x y w R → RoundIn (Fc ro) n P l f tmps x y w R
  | none, h => h
  | some _, h => h

/-! ### Posts -/
abbrev Post := Exit → Act → World → Prop
/-- no panic, no way out for want of room -/
def NP (Q : Post) : Post
  | .panic _, _, _ => False
  | .outgrown, _, _ => False
  | e, a, w => Q e a w

/-! ### Chunks of the heap -/
structure Chunk where
  foot : Nat → Prop
  holds : World → Prop
  loc : ∀ w w' : World, (∀ b, foot b → w'.heap[b]? = w.heap[b]?) → holds w → holds w'

def own (b : Nat) (o : Obj) : Chunk := ⟨(· = b), fun w => w.heap[b]? = some o, fun w w' h hw => by rw [h _ rfl]; exact hw⟩

structure HpS (K : Nat → Prop) (w0 : World) (H : List Chunk) (w : World) : Prop where
  keep : ∀ b, K b → w.heap[b]? = w0.heap[b]?
  holds : ∀ c ∈ H, c.holds w

structure HpOk (K : Nat → Prop) (w0 : World) (H : List Chunk) (w : World) : Prop where
  os : w.os = w0.os
  tape : w.tape = w0.tape
  output : w.output = w0.output
  size : w0.heap.size ≤ w.heap.size
  klt : ∀ b, K b → b < w0.heap.size
  keep : ∀ b, K b → w.heap[b]? = w0.heap[b]?
  holds : ∀ c ∈ H, c.holds w
  foot : ∀ c ∈ H, ∀ b, c.foot b → b < w.heap.size ∧ ¬ K b
  disj : H.Pairwise (fun c d => ∀ b, c.foot b → ¬ d.foot b)

variable {K : Nat → Prop} {w0 w w' : World} {H H' M : List Chunk}

theorem HpOk.s (h : HpOk K w0 H w) : HpS K w0 H w := ⟨h.keep, h.holds⟩
theorem HpS.sub (h : HpS K w0 H w) (hs : ∀ c ∈ M, c ∈ H) : HpS K w0 M w := ⟨h.keep, fun c hc => h.holds c (hs c hc)⟩

theorem HpOk.init (w : World) : HpOk (· < w.heap.size) w [] w :=
  ⟨rfl, rfl, rfl, Nat.le_refl _, fun _ h => h, fun _ _ => rfl, by simp, by simp, by simp⟩

theorem HpOk.perm (h : HpOk K w0 H w) (p : H.Perm H') : HpOk K w0 H' w :=
  ⟨h.os, h.tape, h.output, h.size, h.klt, h.keep, fun c hc => h.holds c (p.mem_iff.2 hc), fun c hc => h.foot c (p.mem_iff.2 hc),
    p.pairwise h.disj (fun {_ _} hxy b hy hx => hxy b hx hy)⟩

theorem HpOk.sublist (h : HpOk K w0 H w) (p : H'.Sublist H) : HpOk K w0 H' w :=
  ⟨h.os, h.tape, h.output, h.size, h.klt, h.keep, fun c hc => h.holds c (p.subset hc), fun c hc => h.foot c (p.subset hc), h.disj.sublist p⟩

theorem HpOk.drew (h : HpOk K w0 H w) : HpOk K w0 H { w with drawn := w.drawn + 1 } := by
  refine ⟨h.os, h.tape, h.output, h.size, h.klt, h.keep, fun c hc => c.loc w _ (fun _ _ => rfl) (h.holds c hc), h.foot, h.disj⟩

/-- whatever keeps all old blocks keeps the chunks -/
theorem HpOk.same (h : HpOk K w0 H w) (h1 : w'.os = w.os) (h2 : w'.tape = w.tape) (h3 : w'.output = w.output) (h4 : w.heap.size ≤ w'.heap.size)
    (h5 : ∀ b, b < w.heap.size → w'.heap[b]? = w.heap[b]?) : HpOk K w0 H w' :=
  ⟨h1.trans h.os, h2.trans h.tape, h3.trans h.output, Nat.le_trans h.size h4, h.klt,
    fun b hb => (h5 b (Nat.lt_of_lt_of_le (h.klt b hb) h.size)).trans (h.keep b hb),
    fun c hc => c.loc w _ (fun b hb => h5 b (h.foot c hc b hb).1) (h.holds c hc),
    fun c hc b hb => ⟨Nat.lt_of_lt_of_le (h.foot c hc b hb).1 h4, (h.foot c hc b hb).2⟩, h.disj⟩

/-- a new chunk whose blocks are all new -/
theorem HpOk.cons (h : HpOk K w0 H w) {c : Chunk} {n : Nat} (hn : n ≤ w.heap.size) (hold : ∀ d ∈ H, ∀ b, d.foot b → b < n) (hk : ∀ b, K b → b < n) (hc : c.holds w) (hf : ∀ b, c.foot b → n ≤ b ∧ b < w.heap.size) : HpOk K w0 (c :: H) w := by
  refine ⟨h.os, h.tape, h.output, h.size, h.klt, h.keep, ?_, ?_, ?_⟩
  · intro d hd
    rcases List.mem_cons.1 hd with rfl | hd
    · exact hc
    · exact h.holds d hd
  · intro d hd b hb
    rcases List.mem_cons.1 hd with rfl | hd
    · exact ⟨(hf b hb).2, fun hkb => absurd (hk b hkb) (by have := (hf b hb).1; omega)⟩
    · exact h.foot d hd b hb
  · refine List.pairwise_cons.2 ⟨fun d hd b hb hb' => ?_, h.disj⟩
    have := hold d hd b hb'
    have := (hf b hb).1
    omega

theorem HpOk.kltw (h : HpOk K w0 H w) : ∀ b, K b → b < w.heap.size := fun b hb => Nat.lt_of_lt_of_le (h.klt b hb) h.size

theorem heap_push_lt (w : World) (o : Obj) (b : Nat) (h : b < w.heap.size) : (w.alloc o).heap[b]? = w.heap[b]? := by
  show (w.heap.push o)[b]? = _
  rw [Array.getElem?_push, if_neg (by omega)]

theorem HpOk.alloc (h : HpOk K w0 H w) (o : Obj) : HpOk K w0 (own w.heap.size o :: H) (w.alloc o) := by
  have h' : HpOk K w0 H (w.alloc o) := h.same rfl rfl rfl (by simp) (fun b hb => heap_push_lt w o b hb)
  refine h'.cons (n := w.heap.size) (by simp) (fun d hd b hb => (h.foot d hd b hb).1) h.kltw ?_ ?_
  · show (w.heap.push o)[w.heap.size]? = some o
    simp
  · intro b hb
    have : b = w.heap.size := hb
    simp [this]

/-- one chunk turned, its footprint as it was (or new blocks) -/
theorem HpOk.turn {c d : Chunk} (h : HpOk K w0 (c :: H) w) (h1 : w'.os = w.os) (h2 : w'.tape = w.tape) (h3 : w'.output = w.output) (h4 : w.heap.size ≤ w'.heap.size)
    (h5 : ∀ b, b < w.heap.size → ¬ c.foot b → w'.heap[b]? = w.heap[b]?) (hd : d.holds w') (hf : ∀ b, d.foot b → (c.foot b ∨ w.heap.size ≤ b) ∧ b < w'.heap.size) : HpOk K w0 (d :: H) w' := by
  have hp := List.pairwise_cons.1 h.disj
  have hcf := h.foot c (List.mem_cons_self ..)
  have hHf : ∀ e ∈ H, ∀ b, e.foot b → b < w.heap.size ∧ ¬ K b := fun e he => h.foot e (List.mem_cons_of_mem _ he)
  refine ⟨h1.trans h.os, h2.trans h.tape, h3.trans h.output, Nat.le_trans h.size h4, h.klt, ?_, ?_, ?_, ?_⟩
  · intro b hb
    exact (h5 b (h.kltw b hb) (fun hc => (hcf b hc).2 hb)).trans (h.keep b hb)
  · intro e he
    rcases List.mem_cons.1 he with rfl | he
    · exact hd
    · exact e.loc w _ (fun b hb => h5 b (hHf e he b hb).1 (fun hc => hp.1 e he b hc hb)) (h.holds e (List.mem_cons_of_mem _ he))
  · intro e he b hb
    rcases List.mem_cons.1 he with rfl | he
    · refine ⟨(hf b hb).2, fun hk => ?_⟩
      rcases (hf b hb).1 with hc | hc
      · exact (hcf b hc).2 hk
      · have := h.kltw b hk; omega
    · exact ⟨Nat.lt_of_lt_of_le (hHf e he b hb).1 h4, (hHf e he b hb).2⟩
  · refine List.pairwise_cons.2 ⟨fun e he b hb hb' => ?_, hp.2⟩
    rcases (hf b hb).1 with hc | hc
    · exact hp.1 e he b hc hb'
    · have := (hHf e he b hb').1; omega

theorem HpOk.put {b : Nat} {o o' : Obj} (h : HpOk K w0 (own b o :: H) w) : HpOk K w0 (own b o' :: H) (w.putObj b o') := by
  have hb : b < w.heap.size := (h.foot _ (List.mem_cons_self ..) b rfl).1
  refine h.turn rfl rfl rfl (by simp) (fun k hk hne => World.putObj_heap_other hne) (World.putObj_heap_same hb) (fun k hk => ⟨.inl hk, ?_⟩)
  have : k = b := hk
  simp [this, hb]

/-! ### Choosing chunks by number -/
def pick (is : List Nat) (k : Nat) (H : List Chunk) : List Chunk := is.filterMap (H[·]?) ++ H.drop k
theorem pick_sublist_perm : ∀ (is : List Nat) (k : Nat) (H : List Chunk), is.Nodup → (∀ i ∈ is, i < k) → ∃ H', (pick is k H).Perm H' ∧ H'.Sublist H := by
  intro is k H hn hk
  have h1 : (is.filterMap (H[·]?)).Perm ((List.range k).filter (· ∈ is) |>.filterMap (H[·]?)) := by
    refine List.Perm.filterMap _ ?_
    rw [List.perm_ext_iff_of_nodup hn (List.nodup_range.filter _)]
    intro a
    simp
    exact fun h => hk a h
  refine ⟨_, h1.append_right _, ?_⟩
  have h2 : ∀ (k : Nat) (H : List Chunk) (p : Nat → Bool), (((List.range k).filter p).filterMap (H[·]?)).Sublist (H.take k) := by
    intro k
    induction k with
    | zero => intro H p; simp
    | succ k ih =>
      intro H p
      rw [List.range_succ, List.filter_append, List.filterMap_append]
      rw [List.take_add_one]
      refine (ih H p).append ?_
      simp only [List.filter_cons, List.filter_nil]
      split
      · cases h : H[k]? <;> simp [h]
      · simp
  have h3 := (h2 k H (fun i => decide (i ∈ is))).append (List.Sublist.refl (H.drop k))
  rw [List.take_append_drop] at h3
  exact h3
theorem HpOk.pick (h : HpOk K w0 (H ++ M) w) (is : List Nat) (k : Nat) (hn : (decide is.Nodup && is.all (· < k)) = true) : HpOk K w0 (pick is k H ++ M) w := by
  simp only [Bool.and_eq_true, decide_eq_true_eq, List.all_eq_true] at hn
  obtain ⟨H1, hp, hs⟩ := pick_sublist_perm is k H hn.1 hn.2
  exact (h.sublist (hs.append (List.Sublist.refl M))).perm (hp.symm.append_right M)

/-! ### Temporaries -/
abbrev Tm := List (Nat × Value)
def look : Tm → Nat → Option Value
  | [], _ => none
  | (t, v) :: r, k => bif Nat.beq t k then some v else look r k
def evl (l : Tm) : Operand → Option Value
  | .tmp t => look l t
  | .const v => some v
  | .global g => some (.pointer (some ⟨g, 0, none⟩))
  | .func f => some (.func (.func f) #[] #[])
def mark (b : Nat) : Deferred := { target := .collected b, args := #[] }
def Vals (l : Tm) (a : Act) : Prop := ∀ t v, look l t = some v → a.tmps[t]? = some v
structure TmOk (N : Nat) (D : List Nat) (l : Tm) (a : Act) : Prop where
  size : a.tmps.size = N
  defers : a.defers = D.map mark
  vals : Vals l a
def TmLe : Tm → Tm → Prop
  | [], _ => True
  | (t, v) :: r, l => look l t = some v ∧ TmLe r l
variable {N : Nat} {D : List Nat} {l l' : Tm} {a : Act}
theorem TmLe.look : ∀ {l' l : Tm}, TmLe l' l → ∀ t v, look l' t = some v → look l t = some v
  | [], l, _, t, v, h => by simp [Go.Proofs.YtnpnmdbleopikaaDoor.look] at h
  | (s, u) :: r, l, hle, t, v, h => by
    simp only [Go.Proofs.YtnpnmdbleopikaaDoor.look] at h
    cases hb : Nat.beq s t with
    | true =>
      rw [hb] at h
      simp at h
      have : s = t := Nat.eq_of_beq_eq_true hb
      subst this; subst h
      exact hle.1
    | false =>
      rw [hb] at h
      exact TmLe.look hle.2 t v h
theorem Vals.mono (h : Vals l a) (hle : TmLe l' l) : Vals l' a := fun t v hv => h t v (hle.look t v hv)
theorem TmOk.mono (h : TmOk N D l a) (hle : TmLe l' l) : TmOk N D l' a := ⟨h.size, h.defers, h.vals.mono hle⟩
theorem Vals.eval (h : Vals l a) : ∀ {x : Operand} {v : Value}, evl l x = some v → a.eval x = v
  | .tmp t, v, hv => by
    have := h t v hv
    simp [Act.eval, this]
  | .const _, _, hv => by simpa [evl, Act.eval] using hv
  | .global _, _, hv => by simpa [evl, Act.eval] using hv
  | .func _, _, hv => by simpa [evl, Act.eval] using hv
theorem TmOk.put (h : TmOk N D l a) {t : Nat} (ht : t < N) (v : Value) : TmOk N D ((t, v) :: l) (a.put (some t) v) := by
  refine ⟨?_, ?_, ?_⟩
  · simp [Act.put, h.size]
  · simp [Act.put, h.defers]
  · intro s u hu
    simp only [Go.Proofs.YtnpnmdbleopikaaDoor.look] at hu
    cases hb : Nat.beq t s with
    | true =>
      rw [hb] at hu
      have hts : t = s := Nat.eq_of_beq_eq_true hb
      subst hts
      simp at hu
      subst hu
      simp [Act.put, h.size, ht]
    | false =>
      rw [hb] at hu
      have hts : t ≠ s := fun e => by subst e; simp at hb
      simp only [Act.put]
      rw [Array.getElem?_setIfInBounds_ne hts]
      exact h.vals s u hu
theorem TmOk.putNone (h : TmOk N D l a) (v : Value) : TmOk N D l (a.put none v) := h

/-! ### One operation -/
section op
variable {P : Program} {ro : Option Nat} {o : Oper} {next : Act → World → Prop} {Q : Post} {v : Value}
theorem ow_value (hop : ∀ c, o.op ≠ .defer c) (h : (execOp a.eval o).run P w = .ok (.value v) w') (hn : next (a.put o.dst v) w') : o.wpIn (Fc ro) 0 P a w next Q := by
  refine ⟨fun f _ => Fc_fn _ _, ?_⟩
  rw [Fc_round, Oper.semAt_eq _ _ _ hop, h]
  exact hn
theorem ow_skip (hop : ∀ c, o.op ≠ .defer c) (h : (execOp a.eval o).run P w = .ok .skip w') (hn : next (a.put o.dst undef) w') : o.wpIn (Fc ro) 0 P a w next Q := by
  refine ⟨fun f _ => Fc_fn _ _, ?_⟩
  rw [Fc_round, Oper.semAt_eq _ _ _ hop, h]
  exact hn
theorem ow_enter {f : FuncId} {args : Array Value} (hop : ∀ c, o.op ≠ .defer c) (h : (execOp a.eval o).run P w = .ok (.enter f args) w')
    (hc : Calls P f args w' fun e w'' => ∃ v, e = .returned v ∧ next (a.put o.dst v) w'') : o.wpIn (Fc ro) 0 P a w next Q := by
  refine ⟨fun f _ => Fc_fn _ _, ?_⟩
  rw [Fc_round, Oper.semAt_eq _ _ _ hop, h]
  refine ⟨fun hd => by simp [Fc_depth] at hd, Fc_calls ro (hc.mono ?_)⟩
  rintro e w'' ⟨v, rfl, hn⟩
  exact hn
theorem ow_round {i : Nat} {f : FuncId} {tmps : Array Value} {x y : Code} (hop : ∀ c, o.op ≠ .defer c) (h : (execOp a.eval o).run P w = .ok (.round i f tmps x y) w')
    (hc : RoundIn Fence.wide 0 P i f tmps x y w' fun e w'' => ∃ v, e = .returned v ∧ next (a.put o.dst v) w'') : o.wpIn (Fc ro) 0 P a w next Q := by
  refine ⟨fun f _ => Fc_fn _ _, ?_⟩
  rw [Fc_round, Oper.semAt_eq _ _ _ hop, h]
  refine ⟨fun hd => by simp [Fc_depth] at hd, Fc_rounds ro (hc.mono ?_)⟩
  rintro e w'' ⟨v, rfl, hn⟩
  exact hn
end op
end Go.Proofs.YtnpnmdbleopikaaDoor
