/- The engine's judgement, in one sentence: what code does to the two descriptors, form by form (sequence, block, loop, label, return, entry of a function). No condition. -/
import Derived.Test.YtnpnmdbleopikaaDoorS1
namespace Go.Proofs.YtnpnmdbleopikaaDoor
open Go

/-- the blocks for the deferred calls of rounds -/
def marks (D : List Nat) : Chunk := ⟨(· ∈ D), fun w => D.Nodup ∧ ∀ b ∈ D, w.heap[b]? = some (.deferred (some [])),
  fun w w' h hw => ⟨hw.1, fun b hb => (h b hb).trans (hw.2 b hb)⟩⟩

section
variable (P : Program) (ro : Option Nat) (K : Nat → Prop) (w0 : World) (N : Nat)
def SX (c : Code) (Q : Post) (D : List Nat) (l : Tm) (H : List Chunk) : Prop :=
  ∀ a w, TmOk N D l a → HpOk K w0 (H ++ [marks D]) w → c.wpIn (Fc ro) 0 P (NP Q) a w
def SQ (Q : Post) (e : Exit) (D : List Nat) (l : Tm) (H : List Chunk) : Prop :=
  ∀ a w, TmOk N D l a → HpOk K w0 (H ++ [marks D]) w → Q e a w
/-- the items of a region that are left; Hs: the chunks on which the quiet ones among them lean -/
def SL (ops : Array Oper) (Hs : List Chunk) (items : Its) (Q : Post) (D : List Nat) (l : Tm) (H : List Chunk) : Prop :=
  ∀ a w, TmOk N D l a → HpOk K w0 (H ++ [marks D]) w → HpS K w0 Hs w → PL P ro ops Q (HpS K w0 []) (HpS K w0 Hs) items a w
def thn (y : Code) (Q : Post) : Post
  | .normal, a, w => y.wpIn (Fc ro) 0 P (NP Q) a w
  | e, a, w => Q e a w
def blk (id : Nat) (Q : Post) : Post
  | .exit i, a, w => if i = id then Q .normal a w else Q (.exit i) a w
  | e, a, w => Q e a w
def scp (Q : Post) : Post
  | .goto _, _, _ => False
  | e, a, w => Q e a w
end

variable {P : Program} {ro : Option Nat} {K : Nat → Prop} {w0 : World} {N : Nat} {Q : Post} {D : List Nat} {l l' : Tm} {H H' Hs : List Chunk} {ops : Array Oper} {items : Its}

theorem SX.mono {c : Code} (h : SX P ro K w0 N c Q D l' H) (hl : TmLe l' l) : SX P ro K w0 N c Q D l H :=
  fun a w ha hw => h a w (ha.mono hl) hw
theorem SX.heap {c : Code} (h : SX P ro K w0 N c Q D l H') (hp : ∀ w, HpOk K w0 (H ++ [marks D]) w → HpOk K w0 (H' ++ [marks D]) w) : SX P ro K w0 N c Q D l H :=
  fun a w ha hw => h a w ha (hp w hw)
theorem SL.heap (h : SL P ro K w0 N ops Hs items Q D l H') (hp : ∀ w, HpOk K w0 (H ++ [marks D]) w → HpOk K w0 (H' ++ [marks D]) w) : SL P ro K w0 N ops Hs items Q D l H :=
  fun a w ha hw hs => h a w ha (hp w hw) hs
theorem SL.mono (h : SL P ro K w0 N ops Hs items Q D l' H) (hl : TmLe l' l) : SL P ro K w0 N ops Hs items Q D l H :=
  fun a w ha hw hs => h a w (ha.mono hl) hw hs
theorem SL.pick (is : List Nat) (k : Nat) (h : SL P ro K w0 N ops Hs items Q D l (pick is k H)) (hn : (decide is.Nodup && is.all (· < k)) = true := by rfl) : SL P ro K w0 N ops Hs items Q D l H :=
  fun a w ha hw hs => h a w ha (hw.pick is k hn) hs
theorem SX.pick {c : Code} (is : List Nat) (k : Nat) (h : SX P ro K w0 N c Q D l (pick is k H)) (hn : (decide is.Nodup && is.all (· < k)) = true := by rfl) : SX P ro K w0 N c Q D l H :=
  fun a w ha hw => h a w ha (hw.pick is k hn)
theorem SQ.mono {e : Exit} (h : SQ K w0 N Q e D l' H) (hl : TmLe l' l) : SQ K w0 N Q e D l H :=
  fun a w ha hw => h a w (ha.mono hl) hw
theorem SQ.heap {e : Exit} (h : SQ K w0 N Q e D l H') (hp : ∀ w, HpOk K w0 (H ++ [marks D]) w → HpOk K w0 (H' ++ [marks D]) w) : SQ K w0 N Q e D l H :=
  fun a w ha hw => h a w ha (hp w hw)
/-- a fact of the heap is taken out -/
theorem SX.fact {c : Code} {φ : Prop} (hf : ∀ w, HpOk K w0 (H ++ [marks D]) w → φ) (h : φ → SX P ro K w0 N c Q D l H) : SX P ro K w0 N c Q D l H :=
  fun a w ha hw => h (hf w hw) a w ha hw
theorem SL.fact {φ : Prop} (hf : ∀ w, HpOk K w0 (H ++ [marks D]) w → φ) (h : φ → SL P ro K w0 N ops Hs items Q D l H) : SL P ro K w0 N ops Hs items Q D l H :=
  fun a w ha hw hs => h (hf w hw) a w ha hw hs

/-! ### Forms of code -/
theorem SX.seq {x y : Code} (h : SX P ro K w0 N x (thn P ro y Q) D l H) : SX P ro K w0 N (.seq x y) Q D l H := by
  intro a w ha hw
  refine wpIn_seq (wpIn_mono (h a w ha hw) ?_)
  intro e a w q
  cases e <;> exact q
theorem SQ.thn {y : Code} (h : SX P ro K w0 N y Q D l H) : SQ K w0 N (thn P ro y Q) .normal D l H := h
theorem SQ.thnE {y : Code} {id : Nat} (h : SQ K w0 N Q (.exit id) D l H) : SQ K w0 N (Go.Proofs.YtnpnmdbleopikaaDoor.thn P ro y Q) (.exit id) D l H := h
theorem SQ.thnR {y : Code} (h : SQ K w0 N Q .ret D l H) : SQ K w0 N (Go.Proofs.YtnpnmdbleopikaaDoor.thn P ro y Q) .ret D l H := h
theorem SX.block {id : Nat} {c : Code} (h : SX P ro K w0 N c (blk id Q) D l H) : SX P ro K w0 N (.block id c) Q D l H := by
  intro a w ha hw
  refine wpIn_block (wpIn_mono (h a w ha hw) ?_)
  intro e a w q
  cases e <;> exact q
theorem SQ.blk {id : Nat} (h : SQ K w0 N Q .normal D l H) : SQ K w0 N (blk id Q) .normal D l H := h
theorem SQ.blkE {id : Nat} (h : SQ K w0 N Q .normal D l H) : SQ K w0 N (Go.Proofs.YtnpnmdbleopikaaDoor.blk id Q) (.exit id) D l H := fun a w ha hw => by
  simp only [Go.Proofs.YtnpnmdbleopikaaDoor.blk, if_true]; exact h a w ha hw
theorem SQ.blkO {id i : Nat} (h : SQ K w0 N Q (.exit i) D l H) (hi : Nat.beq i id = false := by rfl) : SQ K w0 N (Go.Proofs.YtnpnmdbleopikaaDoor.blk id Q) (.exit i) D l H := fun a w ha hw => by
  have : i ≠ id := fun e => by subst e; simp at hi
  simp only [Go.Proofs.YtnpnmdbleopikaaDoor.blk, if_neg this]; exact h a w ha hw
theorem SQ.blkR {id : Nat} (h : SQ K w0 N Q .ret D l H) : SQ K w0 N (Go.Proofs.YtnpnmdbleopikaaDoor.blk id Q) .ret D l H := h
theorem SX.skip (h : SQ K w0 N Q .normal D l H) : SX P ro K w0 N .skip Q D l H := fun a w ha hw => wpIn_skip (h a w ha hw)
theorem SX.label {i : Nat} (h : SQ K w0 N Q .normal D l H) : SX P ro K w0 N (.label i) Q D l H := fun a w ha hw => wpIn_label (h a w ha hw)
theorem SX.exit {id : Nat} (h : SQ K w0 N Q (.exit id) D l H) : SX P ro K w0 N (.exit id) Q D l H := fun a w ha hw => wpIn_exit (h a w ha hw)
theorem SX.ret (h : SQ K w0 N Q .ret D l H) : SX P ro K w0 N .ret Q D l H := fun a w ha hw => wpIn_ret (h a w ha hw)
theorem SX.cond {c : Operand} {x y : Code} {b : Bool} (hc : evl l c = some (.bool b)) (ht : b = true → SX P ro K w0 N x Q D l H) (hf : b = false → SX P ro K w0 N y Q D l H) :
    SX P ro K w0 N (.cond c x y) Q D l H :=
  fun a w ha hw => wpIn_cond_split (ha.vals.eval hc) (fun e => ht e a w ha hw) (fun e => hf e a w ha hw)
theorem SX.condT {c : Operand} {x y : Code} (hc : evl l c = some (.bool true)) (ht : SX P ro K w0 N x Q D l H) : SX P ro K w0 N (.cond c x y) Q D l H :=
  SX.cond hc (fun _ => ht) (fun e => by cases e)
theorem SX.condF {c : Operand} {x y : Code} (hc : evl l c = some (.bool false)) (hf : SX P ro K w0 N y Q D l H) : SX P ro K w0 N (.cond c x y) Q D l H :=
  SX.cond hc (fun e => by cases e) (fun _ => hf)

section scope
variable {b : Frame} {a : Act} {k : List Item} {cs : List Frame} {w : World}
theorem stepR_scope' {c : Code} : step P (lone (b.atR a (.code (.scope c) :: k)) cs w) = .next (lone (b.atR a (.code c :: .inScope c :: k)) cs w) :=
  step_lone_go (by simp [stepG, stepG.exec, Frame.atR])
theorem stepR_inScope' {c : Code} : step P (lone (b.atR a (.inScope c :: k)) cs w) = .next (lone (b.atR a k) cs w) :=
  step_lone_go (by simp [stepG, stepG.exec, Frame.atR])
end scope
theorem SX.scope {c : Code} (h : SX P ro K w0 N c (scp Q) D l H) : SX P ro K w0 N (.scope c) Q D l H := by
  intro a w ha hw b k cs hro hb hr
  obtain ⟨e, a₁, w₁, hq, harr⟩ := h a w ha hw b (.inScope c :: k) cs hro hb hr
  have h0 : (lone (b.atR a (.code (.scope c) :: k)) cs w).fenced P (Fc ro) := fenced_calm hb hr rfl
  have hx : ∀ i, exitTo i (.inScope c :: k) = exitTo i k := fun i => by simp [exitTo]
  cases e with
  | normal => exact ⟨.normal, a₁, w₁, hq, .head h0 stepR_scope' (StepsIn.trans harr (.one (fenced_calm hb hr rfl) stepR_inScope'))⟩
  | exit id => exact ⟨.exit id, a₁, w₁, hq, fun k' hk => .head h0 stepR_scope' (harr.1 k' (by rw [hx]; exact hk)),
      fun hr' hk => let ⟨k₁, h1, h2⟩ := harr.2 hr' (by rw [hx]; exact hk); ⟨k₁, h1, .head h0 stepR_scope' h2⟩⟩
  | goto _ => exact hq.elim
  | ret => exact ⟨.ret, a₁, w₁, hq, .of_steps (e := .ret) (k := k) (.one h0 stepR_scope') harr⟩
  | panic _ => exact hq.elim
  | outgrown => exact hq.elim
theorem SQ.scp (h : SQ K w0 N Q .normal D l H) : SQ K w0 N (scp Q) .normal D l H := h
theorem SQ.scpE {i : Nat} (h : SQ K w0 N Q (.exit i) D l H) : SQ K w0 N (Go.Proofs.YtnpnmdbleopikaaDoor.scp Q) (.exit i) D l H := h
theorem SQ.scpR (h : SQ K w0 N Q .ret D l H) : SQ K w0 N (Go.Proofs.YtnpnmdbleopikaaDoor.scp Q) .ret D l H := h

/-! ### Loops -/
def lp {α : Type} (K : Nat → Prop) (w0 : World) (N : Nat) (p : α → Prop) (I : α → Tm) (G : α → List Chunk) (m : α → Nat) (n : Nat) (Q : Post) : Post
  | .normal, a, w => ∃ y D, p y ∧ m y < n ∧ TmOk N D (I y) a ∧ HpOk K w0 (G y ++ [marks D]) w
  | e, a, w => Q e a w
theorem SX.loop {α : Type} (p : α → Prop) (I : α → Tm) (G : α → List Chunk) (m : α → Nat) {c : Code}
    (round : ∀ x D, p x → SX P ro K w0 N c (lp K w0 N p I G m (m x) Q) D (I x) (G x)) (x : α) (hx : p x) : SX P ro K w0 N (.loop c) Q D (I x) (G x) := by
  intro a w ha hw b k cs hro hb hr
  have key : ∀ n x D a w, m x = n → p x → TmOk N D (I x) a → HpOk K w0 (G x ++ [marks D]) w →
      ∃ e a' w', NP Q e a' w' ∧ ArrivesIn (Machine.fenced P (Fc ro)) P (lone (b.atR a (.code c :: .inLoop c :: k)) cs w) b k cs e a' w' := by
    intro n
    induction n using Nat.strongRecOn with
    | _ n ih =>
      intro x D a w hn hp ha hw
      obtain ⟨e, a₁, w₁, hq, harr⟩ := round x D hp a w ha hw b (.inLoop c :: k) cs hro hb hr
      cases e with
      | normal =>
        obtain ⟨y, D', hpy, hlt, ha', hw'⟩ := hq
        obtain ⟨e₂, a₂, w₂, hq₂, harr₂⟩ := ih (m y) (hn ▸ hlt) y D' a₁ w₁ rfl hpy ha' hw'
        exact ⟨e₂, a₂, w₂, hq₂, .of_steps (StepsIn.trans harr (.one (fenced_calm hb hr rfl) stepR_inLoop)) harr₂⟩
      | exit id => exact ⟨.exit id, a₁, w₁, hq, .pass (x := .inLoop c) (e := .exit id) rfl (fun _ _ => .inl (by simp)) harr⟩
      | goto l => exact ⟨.goto l, a₁, w₁, hq, .pass (x := .inLoop c) (e := .goto l) rfl (fun _ _ => .inl (by simp)) harr⟩
      | ret => exact ⟨.ret, a₁, w₁, hq, .pass (x := .inLoop c) (e := .ret) rfl (fun _ _ => .inl (by simp)) harr⟩
      | panic ch => exact hq.elim
      | outgrown => exact hq.elim
  obtain ⟨e, a', w', hq, harr⟩ := key _ x D a w rfl hx ha hw
  exact ⟨e, a', w', hq, .of_steps (.one (fenced_calm hb hr rfl) stepR_loop) harr⟩
theorem SQ.again {α : Type} {p : α → Prop} {I : α → Tm} {G : α → List Chunk} {m : α → Nat} {n : Nat} (y : α) (hp : p y) (hm : m y < n) (hl : TmLe (I y) l)
    (hH : ∀ w, HpOk K w0 (H ++ [marks D]) w → HpOk K w0 (G y ++ [marks D]) w := by exact fun _ h => h) : SQ K w0 N (lp K w0 N p I G m n Q) .normal D l H :=
  fun a w ha hw => ⟨y, D, hp, hm, ha.mono hl, hH w hw⟩
theorem SQ.lpE {α : Type} {p : α → Prop} {I : α → Tm} {G : α → List Chunk} {m : α → Nat} {n i : Nat} (h : SQ K w0 N Q (.exit i) D l H) : SQ K w0 N (lp K w0 N p I G m n Q) (.exit i) D l H := h
theorem SQ.lpR {α : Type} {p : α → Prop} {I : α → Tm} {G : α → List Chunk} {m : α → Nat} {n : Nat} (h : SQ K w0 N Q .ret D l H) : SQ K w0 N (lp K w0 N p I G m n Q) .ret D l H := h

/-! ### Regions -/
theorem SX.region {id : Nat} {ops : Array Oper} (h : SL P ro K w0 N ops [] (Its.all ops.toList) Q D l H) : SX P ro K w0 N (.region id ops false) Q D l H :=
  fun a w ha hw => wp_list (h a w ha hw ⟨hw.keep, by simp⟩)
theorem SX.draw {id : Nat} {ops : Array Oper} (hm : P.follows .mixedOrders = true) (Hs : List Chunk) (plan : Pl) (hp : allPlan ops plan = true) (hs : ∀ c ∈ Hs, c ∈ H)
    (h : SL P ro K w0 N ops Hs (planOps ops plan) Q D l H) : SX P ro K w0 N (.region id ops true) Q D l H :=
  fun a w ha hw => wp_draw hm plan hp (hw.drew.s.sub fun c hc => List.mem_append_left _ (hs c hc)) (h a _ ⟨ha.size, ha.defers, ha.vals⟩ hw.drew (hw.drew.s.sub fun c hc => List.mem_append_left _ (hs c hc)))
theorem SL.nil (h : SQ K w0 N Q .normal D l H) : SL P ro K w0 N ops Hs .nil Q D l H := fun a w ha hw _ => h a w ha hw
/-- an operation behind all quiet ones: what these leaned on may go -/
theorem SL.last {o : Oper} {r : Its} (h : SL P ro K w0 N ops [] (.cons (false, o) r) Q D l H) : SL P ro K w0 N ops Hs (.last o r) Q D l H := fun a w ha hw hs => by
  have h0 : HpS K w0 [] w := hs.sub (fun _ hc => by cases hc)
  exact ⟨h0, h a w ha hw h0⟩
/-- two operations of which each may come first -/
theorem SL.two {o : Oper} {r s : Its} (h1 : SL P ro K w0 N ops Hs (.cons (false, o) r) Q D l H) (h2 : SL P ro K w0 N ops Hs s Q D l H) : SL P ro K w0 N ops Hs (.alt o r s) Q D l H := fun a w ha hw hs => ⟨h1 a w ha hw hs, h2 a w ha hw hs⟩

/-! ### Functions -/
def argTm : List Value → Nat → Tm
  | [], _ => []
  | v :: r, i => (i, v) :: argTm r (i + 1)
theorem look_argTm : ∀ (vs : List Value) (i t : Nat) (v : Value), look (argTm vs i) t = some v → i ≤ t ∧ vs[t - i]? = some v
  | [], i, t, v, h => by simp [argTm, look] at h
  | u :: r, i, t, v, h => by
    simp only [argTm, look] at h
    cases hb : Nat.beq i t with
    | true =>
      rw [hb] at h
      have : i = t := Nat.eq_of_beq_eq_true hb
      subst this
      simp at h
      simp [h]
    | false =>
      rw [hb] at h
      obtain ⟨h1, h2⟩ := look_argTm r (i + 1) t v h
      refine ⟨by omega, ?_⟩
      have : t - i = (t - (i + 1)) + 1 := by omega
      rw [this]
      simpa using h2
def FP (P : Program) (fn : Func) (R : Ending → World → Prop) : Post := bodyPostM Fence.wide 0 P fn R
def Ret (K : Nat → Prop) (w0 : World) (H : List Chunk) (post : Value → List Chunk → Prop) : Ending → World → Prop :=
  fun e w' => ∃ v M, e = .returned v ∧ post v M ∧ HpOk K w0 (M ++ H) w'
/-- A function's contract: the chunks Hin are handed over; post tells the result and the chunks that come back; all others (H) are kept. -/
def Con (P : Program) (K : Nat → Prop) (w0 : World) (f : FuncId) (args : List Value) (Hin : List Chunk) (H : List Chunk) (post : Value → List Chunk → Prop) : Prop :=
  ∀ w, HpOk K w0 (Hin ++ H) w → Calls P f args.toArray w (Ret K w0 H post)

theorem HpOk.marks0 {w : World} (h : HpOk K w0 H w) : HpOk K w0 (H ++ [marks []]) w := by
  refine ⟨h.os, h.tape, h.output, h.size, h.klt, h.keep, ?_, ?_, ?_⟩
  · intro c hc
    rcases List.mem_append.1 hc with hc | hc
    · exact h.holds c hc
    · obtain rfl : c = marks [] := by simpa using hc
      exact ⟨List.nodup_nil, by simp⟩
  · intro c hc b hb
    rcases List.mem_append.1 hc with hc | hc
    · exact h.foot c hc b hb
    · obtain rfl : c = marks [] := by simpa using hc
      simp [marks] at hb
  · refine List.pairwise_append.2 ⟨h.disj, by simp, ?_⟩
    intro c hc d hd b hb hb'
    obtain rfl : d = marks [] := by simpa using hd
    simp [marks] at hb'

theorem Con.enter {f : FuncId} {fn : Func} {c : Code} {args : List Value} {Hin : List Chunk} {post : Value → List Chunk → Prop} (hf : P.funcs[f]? = some fn) (hb : fn.body = some c)
    (hn : Nat.ble args.length fn.ntmps = true) (h : SX P none K w0 fn.ntmps c (FP P fn (Ret K w0 H post)) [] (argTm args 0) (Hin ++ H)) : Con P K w0 f args Hin H post := by
  intro w hw
  refine (callsIn_wide (n := 0)).1 (callsIn_of_wp_marks hf hb trivial ?_ rfl)
  have hn' : args.length ≤ fn.ntmps := Nat.le_of_ble_eq_true hn
  refine wpIn_mono (h _ w ⟨?_, rfl, ?_⟩ hw.marks0) ?_
  · simp
    omega
  · intro t v hv
    obtain ⟨_, hv⟩ := look_argTm _ _ _ _ hv
    simp only [Nat.sub_zero] at hv
    have hlt : t < args.length := by
      rcases Nat.lt_or_ge t args.length with h | h
      · exact h
      · rw [List.getElem?_eq_none h] at hv; cases hv
    rw [Array.getElem?_append_left (by simpa using hlt)]
    simpa using hv
  · intro e a w q
    cases e <;> first | exact q | exact q.elim

theorem HpOk.dropMarks {w : World} (h : HpOk K w0 (H ++ [marks D]) w) : HpOk K w0 H w := h.sublist (List.sublist_append_left _ _)

theorem leaves_marks {fn : Func} {tmps : Array Value} {R : Ending → World → Prop} {v : Value} (hres : ∀ w, HpS K w0 H w → (results fn tmps).run P w = .ok v w) (hR : ∀ w, HpOk K w0 H w → R (.returned v) w) :
    ∀ (D : List Nat) (w : World), HpOk K w0 (H ++ [marks D]) w → LeavesInM Fence.wide 0 P fn tmps R (D.map mark) .returning w
  | [], w, hw => ⟨v, hres w hw.dropMarks.s, hR w hw.dropMarks⟩
  | b :: D, w, hw => by
    have hm := hw.holds (marks (b :: D)) (by simp)
    have hb : w.heap[b]? = some (.deferred (some [])) := hm.2 b (List.mem_cons_self ..)
    have hbs : b < w.heap.size := (hw.foot (marks (b :: D)) (by simp) b (List.mem_cons_self ..)).1
    refine ⟨by simp, .inl ⟨b, _, rfl, run_takeDeferred hb, leaves_marks hres hR D _ ?_⟩⟩
    have hp : HpOk K w0 (marks (b :: D) :: H) w := hw.perm List.perm_append_comm
    have hn := List.nodup_cons.1 hm.1
    have ht : HpOk K w0 (marks D :: H) (w.putObj b (.deferred none)) := by
      refine hp.turn rfl rfl rfl (by simp) (fun k hk hne => World.putObj_heap_other (fun e => hne (by subst e; exact List.mem_cons_self ..))) ⟨hn.2, ?_⟩ ?_
      · intro k hk
        rw [World.putObj_heap_other (fun e => hn.1 (by subst e; exact hk))]
        exact hm.2 k (List.mem_cons_of_mem _ hk)
      · intro k hk
        refine ⟨.inl (List.mem_cons_of_mem _ hk), ?_⟩
        simp
        exact (hw.foot (marks (b :: D)) (by simp) k (List.mem_cons_of_mem _ hk)).1
    exact ht.perm (List.perm_append_comm (l₁ := [marks D]) (l₂ := H))

theorem SQ.fret {fn : Func} {R : Ending → World → Prop} {v : Value} (hres : ∀ a w, Vals l a → HpS K w0 H w → (results fn a.tmps).run P w = .ok v w) (hR : ∀ w, HpOk K w0 H w → R (.returned v) w) :
    SQ K w0 N (FP P fn R) .ret D l H := by
  intro a w ha hw
  show LeavesInM Fence.wide 0 P fn a.tmps R a.defers .returning w
  rw [ha.defers]
  exact leaves_marks (fun w hs => hres a w ha.vals hs) hR D w hw
theorem SQ.fend {fn : Func} {R : Ending → World → Prop} {v : Value} (hres : ∀ a w, Vals l a → HpS K w0 H w → (results fn a.tmps).run P w = .ok v w) (hR : ∀ w, HpOk K w0 H w → R (.returned v) w) :
    SQ K w0 N (FP P fn R) .normal D l H := by
  intro a w ha hw
  show LeavesInM Fence.wide 0 P fn a.tmps R a.defers .returning w
  rw [ha.defers]
  exact leaves_marks (fun w hs => hres a w ha.vals hs) hR D w hw

theorem vals_getD {a : Act} (h : Vals l a) {t : Nat} {v : Value} (hv : look l t = some v) : a.tmps.getD t undef = v := by
  have := h t v hv
  simp [Array.getD_eq_getD_getElem?, this]
theorem res0 {fn : Func} (hr : fn.results = #[]) : ∀ a w, Vals l a → HpS K w0 H w → (results fn a.tmps).run P w = .ok (.tuple #[]) w := by
  intro a w _ _
  simp [results, hr]
theorem res1 {fn : Func} {t : Nat} {v : Value} (hr : fn.results = #[.tmp t]) (hv : look l t = some v) : ∀ a w, Vals l a → HpS K w0 H w → (results fn a.tmps).run P w = .ok v w := by
  intro a w ha _
  have := vals_getD ha hv
  simp [results, hr, ← this]
theorem res2 {fn : Func} {t u : Nat} {v v' : Value} (hr : fn.results = #[.tmp t, .tmp u]) (hv : look l t = some v) (hv' : look l u = some v') : ∀ a w, Vals l a → HpS K w0 H w → (results fn a.tmps).run P w = .ok (.tuple #[v, v']) w := by
  intro a w ha _
  have h1 := vals_getD ha hv
  have h2 := vals_getD ha hv'
  simp [results, hr, ← h1, ← h2]
theorem res3 {fn : Func} {t u s : Nat} {v v' v'' : Value} (hr : fn.results = #[.tmp t, .tmp u, .tmp s]) (hv : look l t = some v) (hv' : look l u = some v') (hv'' : look l s = some v'') : ∀ a w, Vals l a → HpS K w0 H w → (results fn a.tmps).run P w = .ok (.tuple #[v, v', v'']) w := by
  intro a w ha _
  have h1 := vals_getD ha hv
  have h2 := vals_getD ha hv'
  have h3 := vals_getD ha hv''
  simp [results, hr, ← h1, ← h2, ← h3]
/-- the way out: the chunks M come back, those behind them are dropped -/
theorem ret_of {post : Value → List Chunk → Prop} {v : Value} {M G : List Chunk} (hp : post v M) (hH : ∀ w, HpOk K w0 G w → HpOk K w0 (M ++ H) w) : ∀ w, HpOk K w0 G w → Ret K w0 H post (.returned v) w :=
  fun w hw => ⟨v, M, rfl, hp, hH w hw⟩
theorem HpOk.skip {w : World} (L : List Chunk) (h : HpOk K w0 (L ++ H) w) : HpOk K w0 H w := h.sublist (List.sublist_append_right _ _)
end Go.Proofs.YtnpnmdbleopikaaDoor
