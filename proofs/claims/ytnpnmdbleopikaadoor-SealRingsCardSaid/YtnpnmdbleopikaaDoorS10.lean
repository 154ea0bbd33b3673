/- The engine's short circuits, joins and turns of the chunks' order. No condition beyond those stated. -/
import Derived.Test.YtnpnmdbleopikaaDoorS9
namespace Go.Proofs.YtnpnmdbleopikaaDoor
open Go

variable {P : Program} {ro : Option Nat} {K : Nat → Prop} {w0 : World} {N : Nat} {Q : Post} {D : List Nat} {l l' : Tm} {H H' Hs L : List Chunk} {ops : Array Oper} {items : Its}

theorem SL.aux {l₁ : Tm} (hl : ∀ s v, look l₁ s = some v → look l s = some v) (h : SL P ro K w0 N ops Hs items Q D l₁ H) : SL P ro K w0 N ops Hs items Q D l H :=
  fun a w ha hw hs => h a w ⟨ha.size, ha.defers, fun s v hv => ha.vals s v (hl s v hv)⟩ hw hs
def del (t : Nat) : Tm → Tm
  | [] => []
  | (s, v) :: r => bif Nat.beq s t then del t r else (s, v) :: del t r
theorem SL.join {t tt : Nat} {v0 u : Value} {it : Its} (hb : look l t = some v0) (h : SL P ro K w0 N ops Hs it Q D ((tt, u) :: l) H) : SL P ro K w0 N ops Hs it Q D ((tt, u) :: (t, v0) :: del t l) H :=
  fun a w ha hw hs => h a w ⟨ha.size, ha.defers, fun s v hv => by
    -- what the wider list says, the narrower one says
    have key : ∀ s v, look ((tt, u) :: l) s = some v → look ((tt, u) :: (t, v0) :: del t l) s = some v := by
      intro s v h
      simp only [look] at h ⊢
      cases h1 : Nat.beq tt s with
      | true => rw [h1] at h; exact h
      | false =>
        simp only [h1, cond_false] at h ⊢
        cases h2 : Nat.beq t s with
        | true =>
          have : t = s := Nat.eq_of_beq_eq_true h2
          subst this
          rw [hb] at h
          exact h
        | false =>
          simp only [cond_false]
          have : ∀ (l : Tm), look l s = some v → look (del t l) s = some v := by
            intro l
            induction l with
            | nil => intro h; simp [look] at h
            | cons p r ih =>
              obtain ⟨k, x⟩ := p
              intro h
              cases hk : Nat.beq k t with
              | true =>
                simp only [del, hk, cond_true]
                have hkt : k = t := Nat.eq_of_beq_eq_true hk
                subst hkt
                simp only [look, h2, cond_false] at h
                exact ih h
              | false =>
                simp only [del, hk, cond_false, look] at h ⊢
                cases hs : Nat.beq k s with
                | true => simpa only [hs, cond_true] using h
                | false =>
                  simp only [hs, cond_false] at h ⊢
                  exact ih h
          exact this l h
    exact ha.vals s v (key s v hv)⟩ hw hs
/-- a && c: the n operations from here on yield c in slot tt, where a is true -/
theorem SL.and (t n tt : Nat) {b c : Bool} (hb : look l t = some (.bool b))
    (ht : b = true → SL P ro K w0 N ops Hs (items.drop n) Q D ((tt, .bool c) :: (t, .bool true) :: del t l) H → SL P ro K w0 N ops Hs items Q D ((t, .bool true) :: l) H)
    (hf : b = false → SL P ro K w0 N ops Hs (items.drop n) Q D ((tt, .bool false) :: (t, .bool false) :: del t l) H → SL P ro K w0 N ops Hs items Q D ((t, .bool false) :: l) H)
    (h : SL P ro K w0 N ops Hs (items.drop n) Q D ((tt, .bool (b && c)) :: l) H) : SL P ro K w0 N ops Hs items Q D l H := by
  refine SL.split t hb (fun e => ?_) (fun e => ?_)
  · subst e; exact ht rfl (h.join hb)
  · subst e; exact hf rfl (h.join hb)
/-- a || c -/
theorem SL.or (t n tt : Nat) {b c : Bool} (hb : look l t = some (.bool b))
    (ht : b = true → SL P ro K w0 N ops Hs (items.drop n) Q D ((tt, .bool true) :: (t, .bool true) :: del t l) H → SL P ro K w0 N ops Hs items Q D ((t, .bool true) :: l) H)
    (hf : b = false → SL P ro K w0 N ops Hs (items.drop n) Q D ((tt, .bool c) :: (t, .bool false) :: del t l) H → SL P ro K w0 N ops Hs items Q D ((t, .bool false) :: l) H)
    (h : SL P ro K w0 N ops Hs (items.drop n) Q D ((tt, .bool (b || c)) :: l) H) : SL P ro K w0 N ops Hs items Q D l H := by
  refine SL.split t hb (fun e => ?_) (fun e => ?_)
  · subst e; exact ht rfl (h.join hb)
  · subst e; exact hf rfl (h.join hb)

/-! ### The chunks' order -/
theorem SL.back (n : Nat) (h : SL P ro K w0 N ops Hs items Q D l (H.drop n ++ H.take n)) : SL P ro K w0 N ops Hs items Q D l H :=
  SL.heap h fun w hw => hw.perm (List.Perm.append_right _ (by
    have := (List.perm_append_comm (l₁ := H.take n) (l₂ := H.drop n))
    rwa [List.take_append_drop] at this))
theorem SX.back {c : Code} (n : Nat) (h : SX P ro K w0 N c Q D l (H.drop n ++ H.take n)) : SX P ro K w0 N c Q D l H :=
  SX.heap h fun w hw => hw.perm (List.Perm.append_right _ (by
    have := (List.perm_append_comm (l₁ := H.take n) (l₂ := H.drop n))
    rwa [List.take_append_drop] at this))
theorem SL.front {G M : List Chunk} (h : SL P ro K w0 N ops Hs items Q D l (M ++ G)) : SL P ro K w0 N ops Hs items Q D l (G ++ M) :=
  SL.heap h fun w hw => hw.perm (List.Perm.append_right _ List.perm_append_comm)
theorem SX.front {c : Code} {G M : List Chunk} (h : SX P ro K w0 N c Q D l (M ++ G)) : SX P ro K w0 N c Q D l (G ++ M) :=
  SX.heap h fun w hw => hw.perm (List.Perm.append_right _ List.perm_append_comm)
theorem SX.drop {c : Code} (M : List Chunk) {G : List Chunk} (h : SX P ro K w0 N c Q D l G) : SX P ro K w0 N c Q D l (M ++ G) :=
  SX.heap h fun w hw => by rw [List.append_assoc] at hw; exact hw.skip M
theorem HpOk.front {G M T : List Chunk} {w : World} (h : HpOk K w0 (G ++ M ++ T) w) : HpOk K w0 (M ++ G ++ T) w := h.perm (List.Perm.append_right _ List.perm_append_comm)
theorem HpOk.rot {G M T : List Chunk} {w : World} (h : HpOk K w0 (G ++ (M ++ T)) w) : HpOk K w0 (M ++ (G ++ T)) w := by
  rw [← List.append_assoc] at h ⊢
  exact h.perm (List.Perm.append_right _ List.perm_append_comm)

/-! ### A meeting point behind a form of code -/
def mid {α : Type} (K : Nat → Prop) (w0 : World) (N : Nat) (D : List Nat) (p : α → Prop) (I : α → Tm) (G : α → List Chunk) (Q : Post) : Post
  | .normal, a, w => ∃ x, p x ∧ TmOk N D (I x) a ∧ HpOk K w0 (G x ++ [marks D]) w
  | e, a, w => Q e a w
theorem SX.meet {α : Type} (p : α → Prop) (I : α → Tm) (G : α → List Chunk) {c y : Code} (h : SX P ro K w0 N c (mid K w0 N D p I G Q) D l H) (h2 : ∀ x, p x → SX P ro K w0 N y Q D (I x) (G x)) : SX P ro K w0 N (.seq c y) Q D l H := by
  intro a w ha hw
  refine wpIn_seq (wpIn_mono (h a w ha hw) ?_)
  intro e a w q
  cases e with
  | normal =>
    obtain ⟨x, hx, ha, hw⟩ := q
    exact h2 x hx a w ha hw
  | _ => exact q
theorem SQ.mid {α : Type} {p : α → Prop} {I : α → Tm} {G : α → List Chunk} (x : α) (hp : p x) (hl : TmLe (I x) l) (hH : ∀ w, HpOk K w0 (H ++ [marks D]) w → HpOk K w0 (G x ++ [marks D]) w := by exact fun _ h => h) :
    SQ K w0 N (Go.Proofs.YtnpnmdbleopikaaDoor.mid K w0 N D p I G Q) .normal D l H := fun a w ha hw => ⟨x, hp, ha.mono hl, hH w hw⟩
theorem SQ.midE {α : Type} {p : α → Prop} {I : α → Tm} {G : α → List Chunk} {i : Nat} (h : SQ K w0 N Q (.exit i) D l H) : SQ K w0 N (Go.Proofs.YtnpnmdbleopikaaDoor.mid K w0 N D p I G Q) (.exit i) D l H := h
theorem SQ.midR {α : Type} {p : α → Prop} {I : α → Tm} {G : α → List Chunk} (h : SQ K w0 N Q .ret D l H) : SQ K w0 N (Go.Proofs.YtnpnmdbleopikaaDoor.mid K w0 N D p I G Q) .ret D l H := h

/-- a call of yield; the iterator's own chunks M2 stand in front, the loop's G behind them -/
theorem SL.yld {o : Oper} {t : Nat} {x : Operand} {xs : Array Operand} {tys : Array TypeId} {lp : Nat} {vs : List Value} {M2 G T : List Chunk} {ok no : List Chunk → Prop}
    (ho : At ops N l o t (.call { callee := .value x, args := xs, argTypes := tys })) (hx : evl l x = some (vY lp)) (hv : evs l xs.toList vs) (hH : H = M2 ++ (G ++ T))
    (hy : ∀ M, Yld P K w0 lp vs (G ++ M) fun b G' => ∃ G1, G' = G1 ++ M ∧ (if b then ok G1 else no G1))
    (h : ∀ (b : Bool) (G1 : List Chunk), (if b then ok G1 else no G1) → SubI Hs (M2 ++ (G1 ++ T)) ∧ SL P ro K w0 N ops Hs items Q D ((t, .bool b) :: l) (M2 ++ (G1 ++ T))) :
    SL P ro K w0 N ops Hs (.cons (false, o) items) Q D l H := by
  subst hH
  intro a w ha hw hs0
  have hw1 := wtd_wanted ho.wt ha.vals
  simp only [PL, hw1, if_true]
  have hp : ∀ X : List Chunk, (M2 ++ (X ++ T) ++ [marks D]).Perm (X ++ (T ++ (M2 ++ [marks D]))) := by
    intro X
    have h1 : M2 ++ (X ++ T) ++ [marks D] = M2 ++ (X ++ T ++ [marks D]) := by simp
    have h2 : X ++ (T ++ (M2 ++ [marks D])) = (X ++ T) ++ (M2 ++ [marks D]) := by simp
    rw [h1, h2]
    have h3 := List.perm_append_comm_assoc M2 (X ++ T) [marks D]
    simpa using h3
  obtain ⟨f, tmps, asg, body, hrun, hround⟩ := hy (T ++ (M2 ++ [marks D])) w (hw.perm (hp G))
  have hargs : xs.map a.eval = vs.toArray := by
    apply Array.ext'
    simp [evs.eval ha.vals hv]
  refine ow_round (by rw [ho.op]; exact isDefer_ne rfl) (i := lp) (f := f) (tmps := tmps) (x := asg) (y := body) (w' := w) ?_ ?_
  · simp [execOp, ho.op, resolve, Deferred.ofValue, ha.vals.eval hx, invoke, hargs]
    exact hrun
  · refine hround.mono ?_
    rintro e w' ⟨b, G', rfl, ⟨G1, rfl, hb⟩, hw'⟩
    have hw'' : HpOk K w0 ((M2 ++ (G1 ++ T)) ++ [marks D]) w' := hw'.perm (hp G1).symm
    obtain ⟨h1, h2⟩ := h b G1 hb
    refine ⟨_, rfl, h1.hs hw'', ?_⟩
    have hput : TmOk N D ((t, .bool b) :: l) (a.put o.dst (.bool b)) := by rw [ho.dst]; exact ha.put (blt_lt ho.lt) _
    exact h2 _ w' hput hw'' (h1.hs hw'')

/-! ### Lists -/
theorem take_split {α : Type} {xs : List α} {i : Nat} {x : α} (h : xs[i]? = some x) : xs = xs.take i ++ x :: xs.drop (i + 1) ∧ xs.take (i + 1) = xs.take i ++ [x] := by
  obtain ⟨hlt, hx⟩ := List.getElem?_eq_some_iff.1 h
  subst hx
  refine ⟨?_, ?_⟩
  · simp
  · rw [List.take_add_one, List.getElem?_eq_getElem hlt]; rfl
theorem get_of_lt {α : Type} {xs : List α} {i : Nat} (h : i < xs.length) : ∃ x, xs[i]? = some x := ⟨xs[i], List.getElem?_eq_getElem h⟩
end Go.Proofs.YtnpnmdbleopikaaDoor
