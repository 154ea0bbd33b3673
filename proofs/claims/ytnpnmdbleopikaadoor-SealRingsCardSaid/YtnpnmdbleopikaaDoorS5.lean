/- The engine's ranges over functions, in one sentence: an iterator's contract, a loop over it, a call of yield. No condition beyond those stated. -/
import Derived.Test.YtnpnmdbleopikaaDoorS4
namespace Go.Proofs.YtnpnmdbleopikaaDoor
open Go

variable {P : Program} {ro : Option Nat} {K : Nat → Prop} {w0 : World} {N : Nat} {Q : Post} {D : List Nat} {l l' : Tm} {H H' Hs L : List Chunk} {ops : Array Oper} {items : Its}

/-- a call of yield: the round goes through, hands back a bool, and leaves the chunks as R says -/
def Yld (P : Program) (K : Nat → Prop) (w0 : World) (lp : Nat) (vs : List Value) (Hin : List Chunk) (R : Bool → List Chunk → Prop) : Prop :=
  ∀ w, HpOk K w0 Hin w → ∃ f tmps asg body, (Instr.yield lp vs.toArray).run P w = .ok (.round lp f tmps asg body) w ∧
    RoundIn Fence.wide 0 P lp f tmps asg body w fun e w' => ∃ b M, e = .returned (.bool b) ∧ R b M ∧ HpOk K w0 M w'
abbrev vY (lp : Nat) : Value := .func (.yield lp) #[] #[]
/-- an iterator (function f, captured values cap, its own chunks Hit) gives xs, one after the other, until a round says no -/
def Seq (P : Program) (K : Nat → Prop) (w0 : World) (f : FuncId) (cap : List Value) (Hit : List Chunk) {α : Type} (enc : α → List Value) (xs : List α) : Prop :=
  ∀ (lp : Nat) (J : List α → List Chunk → Prop) (X : List Chunk → Prop) (T : List Chunk),
    (∀ pre x suf, xs = pre ++ x :: suf → ∀ G, J pre G → ∀ M, Yld P K w0 lp (enc x) (G ++ M) fun b G' => ∃ G1, G' = G1 ++ M ∧ (if b then J (pre ++ [x]) G1 else X G1)) →
    ∀ G, J [] G → Con P K w0 f (vY lp :: cap) (Hit ++ G) T fun _ M => J xs M ∨ X M

theorem SL.yield {o : Oper} {t : Nat} {x : Operand} {xs : Array Operand} {tys : Array TypeId} {lp : Nat} {vs : List Value} {G M : List Chunk} {ok no : List Chunk → Prop}
    (ho : At ops N l o t (.call { callee := .value x, args := xs, argTypes := tys })) (hx : evl l x = some (vY lp)) (hv : evs l xs.toList vs) (hH : H = G ++ M)
    (hy : Yld P K w0 lp vs (G ++ (M ++ [marks D])) fun b G' => ∃ G1, G' = G1 ++ (M ++ [marks D]) ∧ (if b then ok G1 else no G1))
    (hs : ∀ (b : Bool) (G1 : List Chunk), SubI Hs (G1 ++ M))
    (ht : ∀ G1, ok G1 → SL P ro K w0 N ops Hs items Q D ((t, .bool true) :: l) (G1 ++ M))
    (hf : ∀ G1, no G1 → SL P ro K w0 N ops Hs items Q D ((t, .bool false) :: l) (G1 ++ M)) :
    SL P ro K w0 N ops Hs (.cons (false, o) items) Q D l H := by
  intro a w ha hw hs0
  subst hH
  have hw1 := wtd_wanted ho.wt ha.vals
  simp only [PL, hw1, if_true]
  obtain ⟨f, tmps, asg, body, hrun, hround⟩ := hy w (by rw [← List.append_assoc]; exact hw)
  have hargs : xs.map a.eval = vs.toArray := by
    apply Array.ext'
    simp [evs.eval ha.vals hv]
  refine ow_round (by rw [ho.op]; exact isDefer_ne rfl) (i := lp) (f := f) (tmps := tmps) (x := asg) (y := body) (w' := w) ?_ ?_
  · simp [execOp, ho.op, resolve, Deferred.ofValue, ha.vals.eval hx, invoke, hargs]
    exact hrun
  · refine hround.mono ?_
    rintro e w' ⟨b, G', rfl, ⟨G1, rfl, hb⟩, hw'⟩
    have hw'' : HpOk K w0 ((G1 ++ M) ++ [marks D]) w' := by rw [List.append_assoc]; exact hw'
    refine ⟨_, rfl, (hs b G1).hs hw'', ?_⟩
    have hput : TmOk N D ((t, .bool b) :: l) (a.put o.dst (.bool b)) := by rw [ho.dst]; exact ha.put (blt_lt ho.lt) _
    cases b with
    | true => exact ht G1 (by simpa using hb) _ w' hput hw'' ((hs true G1).hs hw'')
    | false => exact hf G1 (by simpa using hb) _ w' hput hw'' ((hs false G1).hs hw'')

/-! ### The loop's side -/
/-- the loop's record (and what is behind it) -/
def Tl (r : Loop) (lp : Nat) (Rest : List Chunk) (st : LoopState) : List Chunk := own lp (.loop { r with state := st, pending := none }) :: Rest
/-- what is asked between the assignment to the loop's variables and its body -/
def bgn (P : Program) (lp : Nat) (body : Code) (Qb : Post) : Post
  | .normal, a, w => ∃ w₂, (Instr.beginRound lp).run P w = .ok () w₂ ∧ body.wpIn (Fc (some lp)) 0 P (NP Qb) a w₂
  | _, _, _ => False
/-- what is asked at a round's end -/
def rnd {α : Type} (K : Nat → Prop) (w0 : World) (J : List α → List Chunk → Prop) (X : Code → List Chunk → Prop) (pre : List α) (x : α) (T : List Chunk) : Post
  | .normal, a, w => ∃ G, J (pre ++ [x]) G ∧ HpOk K w0 (G ++ T) w
  | .ret, a, w => ∃ G, X .ret G ∧ HpOk K w0 (G ++ T) w
  | .exit id, a, w => ∃ G, X (.exit id) G ∧ HpOk K w0 (G ++ T) w
  | _, _, _ => False

theorem SQ.bgn {r : Loop} {lp : Nat} {Rest G : List Chunk} {body : Code} {Qb : Post} (h : SX P (some lp) K w0 N body Qb D l (G ++ Tl r lp Rest .busy)) :
    SQ K w0 N (Go.Proofs.YtnpnmdbleopikaaDoor.bgn P lp body Qb) .normal D l (G ++ Tl r lp Rest .ready) := by
  intro a w ha hw
  have hl : w.heap[lp]? = some (.loop { r with state := .ready, pending := none }) := hw.holds (own lp _) (by simp [Tl])
  refine ⟨_, run_beginRound hl rfl, h a _ ha ?_⟩
  have h2 := hw.putAt (b := lp) (o := .loop { r with state := .ready, pending := none }) (o' := .loop { r with state := .busy, pending := none }) G.length (by simp [Tl])
  have e : (G ++ Tl r lp Rest .ready).set G.length (own lp (.loop { r with state := .busy, pending := none })) = G ++ Tl r lp Rest .busy := by
    simp [Tl]
  rw [e] at h2
  exact h2
theorem SQ.rndN {α : Type} {J : List α → List Chunk → Prop} {X : Code → List Chunk → Prop} {pre : List α} {x : α} {T G : List Chunk} (hJ : J (pre ++ [x]) G) (hH : ∀ w, HpOk K w0 H w → HpOk K w0 (G ++ T) w) :
    SQ K w0 N (rnd K w0 J X pre x T) .normal D l H := fun a w ha hw => ⟨G, hJ, hH w hw.dropMarks⟩
theorem SQ.rndR {α : Type} {J : List α → List Chunk → Prop} {X : Code → List Chunk → Prop} {pre : List α} {x : α} {T G : List Chunk} (hJ : X .ret G) (hH : ∀ w, HpOk K w0 H w → HpOk K w0 (G ++ T) w) :
    SQ K w0 N (rnd K w0 J X pre x T) .ret D l H := fun a w ha hw => ⟨G, hJ, hH w hw.dropMarks⟩
theorem SQ.rndE {α : Type} {J : List α → List Chunk → Prop} {X : Code → List Chunk → Prop} {pre : List α} {x : α} {T G : List Chunk} {id : Nat} (hJ : X (.exit id) G) (hH : ∀ w, HpOk K w0 H w → HpOk K w0 (G ++ T) w) :
    SQ K w0 N (rnd K w0 J X pre x T) (.exit id) D l H := fun a w ha hw => ⟨G, hJ, hH w hw.dropMarks⟩

/-- the parameters of a round in the temporaries -/
def parTm : List Tmp → List Value → Tm → Tm
  | p :: ps, v :: vs, l => parTm ps vs ((p, v) :: l)
  | _, _, l => l
theorem parTm_ok : ∀ (ps : List Tmp) (vs : List Value) (l : Tm) (tm : Array Value), (∀ p ∈ ps, p < tm.size) → Vals l { tmps := tm, defers := [] } →
    Vals (parTm ps vs l) { tmps := (ps.zip vs).foldl (fun tm (t, a) => tm.setIfInBounds t a) tm, defers := [] }
  | [], _, l, tm, _, h => by simpa [parTm] using h
  | p :: ps, [], l, tm, _, h => by simpa [parTm] using h
  | p :: ps, v :: vs, l, tm, hp, h => by
    simp only [parTm, List.zip_cons_cons, List.foldl_cons]
    refine parTm_ok ps vs ((p, v) :: l) _ (fun q hq => by simpa using hp q (List.mem_cons_of_mem _ hq)) ?_
    have := (show TmOk tm.size [] l { tmps := tm, defers := [] } from ⟨rfl, rfl, h⟩).put (hp p (List.mem_cons_self ..)) v
    exact this.vals
theorem foldl_set_size : ∀ (z : List (Tmp × Value)) (tm : Array Value), (z.foldl (fun tm (t, a) => tm.setIfInBounds t a) tm).size = tm.size
  | [], _ => rfl
  | x :: z, tm => by simp only [List.foldl_cons]; rw [foldl_set_size z]; simp

/-- **for .. := range g { .. }**, outside every round -/
theorem SX.range {α : Type} {g : Operand} {ps : Array Tmp} {assign body : Code} {f : FuncId} {cap : List Value} {Hit : List Chunk} {enc : α → List Value} (xs : List α) {G0 : List Chunk}
    (J : List α → List Chunk → Prop) (X : Code → List Chunk → Prop)
    (hg : evl l g = some (.func (.func f) #[] cap.toArray)) (hf : callable P f = true) (hps : ps.toList.all (fun p => Nat.blt p N) = true) (hlen : ∀ x, (enc x).length = ps.size)
    (hseq : Seq P K w0 f cap Hit enc xs) (hH : H = Hit ++ G0) (h0 : J [] G0)
    (hbody : ∀ pre x suf G, xs = pre ++ x :: suf → J pre G → ∀ r lp Rest, SX P (some lp) K w0 N assign (bgn P lp body (rnd K w0 J X pre x (Tl r lp Rest .busy))) [] (parTm ps.toList (enc x) l) (G ++ Tl r lp Rest .ready))
    (hdone : ∀ G D, J xs G → SQ K w0 N Q .normal D l G)
    (hstop : ∀ c G D, X c G → SX P none K w0 N c Q D l G) : SX P none K w0 N (.rangeFunc g ps assign body) Q D l H := by
  intro a w ha hw
  subst hH
  refine wpIn_rangeFunc fun fn _ => ?_
  let r : Loop := { state := .ready, pending := none, fn := fn, tmps := a.tmps, params := ps, assign := assign, body := body, defers := w.heap.size }
  refine ⟨w.heap.size + 1, [{ target := .collected w.heap.size, args := #[] }], (w.alloc (.deferred (some []))).alloc (.loop r), { target := .fn (.func f) cap.toArray, args := #[vY (w.heap.size + 1)] }, (w.alloc (.deferred (some []))).alloc (.loop r),
    f, (vY (w.heap.size + 1) :: cap).toArray, (w.alloc (.deferred (some []))).alloc (.loop r), ?_, ?_, fun _ _ => Fc_fn _ _, ?_, fun hd => by simp [Fc_depth] at hd, ?_⟩
  · rw [Fc_round]; exact run_enterLoop_outer fn a.tmps ps assign body
  · have hev := ha.vals.eval hg
    simp [resolve, hev, Deferred.ofValue]
    rfl
  · simp [invoke, run_callFunc hf]
  · -- the call
    generalize hlp : w.heap.size + 1 = lp
    have hw1 : HpOk K w0 ((Hit ++ (Tl r lp [] .ready ++ G0)) ++ [marks (w.heap.size :: D)]) ((w.alloc (.deferred (some []))).alloc (.loop r)) := by
      have h1 := (hw.alloc (.deferred (some []))).alloc (.loop r)
      rw [World.size_alloc, hlp] at h1
      -- own lp record :: own mark :: ((Hit ++ G0) ++ [marks D])
      have hm : HpOk K w0 (marks (w.heap.size :: D) :: own lp (.loop r) :: (Hit ++ G0)) ((w.alloc (.deferred (some []))).alloc (.loop r)) := by
        have hp : (own lp (.loop r) :: own w.heap.size (.deferred (some [])) :: (Hit ++ G0 ++ [marks D])).Perm (own w.heap.size (.deferred (some [])) :: marks D :: own lp (.loop r) :: (Hit ++ G0)) := by
          refine (List.Perm.swap _ _ _).trans (List.Perm.cons _ ?_)
          refine (List.Perm.cons _ (List.perm_append_comm (l₁ := Hit ++ G0) (l₂ := [marks D]))).trans ?_
          exact List.Perm.swap _ _ _
        have h2 := h1.perm hp
        have hpw := List.pairwise_cons.1 h2.disj
        have hpw2 := List.pairwise_cons.1 hpw.2
        have hmk := h2.holds (marks D) (by simp)
        have hnew := h2.holds (own w.heap.size (.deferred (some []))) (List.mem_cons_self ..)
        refine ⟨h2.os, h2.tape, h2.output, h2.size, h2.klt, h2.keep, ?_, ?_, ?_⟩
        · intro c hc
          rcases List.mem_cons.1 hc with rfl | hc
          · refine ⟨List.nodup_cons.2 ⟨fun hin => hpw.1 (marks D) (by simp) _ rfl hin, hmk.1⟩, fun b hb => ?_⟩
            rcases List.mem_cons.1 hb with rfl | hb
            · exact hnew
            · exact hmk.2 b hb
          · exact h2.holds c (by simp only [List.mem_cons] at hc ⊢; exact .inr (.inr hc))
        · intro c hc b hb
          rcases List.mem_cons.1 hc with rfl | hc
          · rcases List.mem_cons.1 hb with rfl | hb
            · exact h2.foot (own w.heap.size (.deferred (some []))) (List.mem_cons_self ..) _ rfl
            · exact h2.foot (marks D) (by simp) b hb
          · exact h2.foot c (by simp only [List.mem_cons] at hc ⊢; exact .inr (.inr hc)) b hb
        · refine List.pairwise_cons.2 ⟨fun c hc b hb hb' => ?_, hpw2.2⟩
          rcases List.mem_cons.1 hb with rfl | hb
          · exact hpw.1 c (List.mem_cons_of_mem _ hc) _ rfl hb'
          · exact hpw2.1 c hc b hb hb'
      refine hm.perm ?_
      have e : Tl r lp [] .ready = [own lp (.loop r)] := rfl
      rw [e]
      refine (List.perm_append_comm (l₁ := [marks (w.heap.size :: D)])).trans (List.Perm.append_right _ ?_)
      simpa using (List.perm_middle (l₁ := Hit) (a := own lp (.loop r)) (l₂ := G0)).symm
    have hN : ∀ p ∈ ps.toList, p < a.tmps.size := fun p hp => by
      rw [ha.size]
      exact blt_lt (List.all_eq_true.1 hps p hp)
    let D' := w.heap.size :: D
    have hcon := hseq lp (fun pre Gx => ∃ G, J pre G ∧ Gx = Tl r lp [] .ready ++ G) (fun Gx => ∃ c G, X c G ∧ Gx = own lp (.loop { r with state := .done, pending := some c }) :: G) [marks D'] ?_ (Tl r lp [] .ready ++ G0) ⟨G0, h0, rfl⟩
    · refine Fc_calls none ((hcon _ hw1).mono ?_)
      rintro e w' ⟨v, M, rfl, hM, hw'⟩
      have hD : TmOk N D' l { tmps := a.tmps, defers := [{ target := .collected w.heap.size, args := #[] }] ++ a.defers } := ⟨ha.size, by simp [ha.defers, D', mark], ha.vals⟩
      rcases hM with ⟨G, hJ, rfl⟩ | ⟨c, G, hX, rfl⟩
      · have hl : w'.heap[lp]? = some (.loop { r with state := .ready, pending := none }) := hw'.holds (own lp _) (by simp [Tl])
        refine ⟨_, _, run_endLoop hl (by simp), ?_⟩
        refine hdone G D' hJ _ _ hD ?_
        have h3 := (show HpOk K w0 (own lp (.loop { r with state := .ready, pending := none }) :: (G ++ [marks D'])) w' from hw').put (o' := .loop { r with state := .exhausted, pending := none })
        exact h3.sublist (List.sublist_cons_self _ _)
      · have hl : w'.heap[lp]? = some (.loop { r with state := .done, pending := some c }) := hw'.holds (own lp _) (by simp)
        refine ⟨_, _, run_endLoop hl (by simp), ?_⟩
        refine hstop c G D' hX _ _ hD ?_
        have h3 := (show HpOk K w0 (own lp (.loop { r with state := .done, pending := some c }) :: (G ++ [marks D'])) w' from hw').put (o' := .loop { r with state := .exhausted, pending := some c })
        exact h3.sublist (List.sublist_cons_self _ _)
    · -- a round
      rintro pre x suf hxs Gx ⟨G, hJ, rfl⟩ M w₁ hw₁
      have hl : w₁.heap[lp]? = some (.loop { r with state := .ready, pending := none }) := hw₁.holds (own lp _) (by simp [Tl])
      refine ⟨_, _, _, _, run_yield hl (by simp [hlen]; rfl), ?_⟩
      refine roundIn_of_wpIn trivial ?_
      have hw₂ : HpOk K w0 ((G ++ Tl r lp M .ready) ++ [marks []]) w₁ := by
        refine HpOk.marks0 (hw₁.perm ?_)
        show (own lp _ :: (G ++ M)).Perm (G ++ own lp _ :: M)
        exact List.perm_middle.symm
      have hzip : ((ps.zip (enc x).toArray).foldl (fun tmps (t, a) => tmps.setIfInBounds t a) a.tmps) = ((ps.toList.zip (enc x)).foldl (fun tm (t, a) => tm.setIfInBounds t a) a.tmps) := by
        rw [← Array.foldl_toList, Array.toList_zip]
      have hb := hbody pre x suf G hxs hJ r lp M { tmps := (ps.zip (enc x).toArray).foldl (fun tmps (t, a) => tmps.setIfInBounds t a) a.tmps, defers := [] } w₁
        ⟨by rw [hzip, foldl_set_size]; exact ha.size, rfl, by rw [hzip]; exact parTm_ok ps.toList (enc x) l a.tmps hN ha.vals⟩ hw₂
      refine wpIn_mono hb ?_
      intro e a' w' q
      cases e with
      | normal =>
        obtain ⟨w₃, hbr, hbody'⟩ := q
        refine ⟨w₃, hbr, wpIn_mono hbody' ?_⟩
        have fin : ∀ (jump : Option Code) (G' : List Chunk) (w₄ : World), HpOk K w0 (G' ++ Tl r lp M .busy) w₄ →
            (Instr.endRound lp jump).run P w₄ = .ok (.bool jump.isNone) (w₄.putObj lp (.loop { r with state := if jump.isNone then .ready else .done, pending := jump })) ∧
            HpOk K w0 ((own lp (.loop { r with state := if jump.isNone then .ready else .done, pending := jump }) :: G') ++ M) (w₄.putObj lp (.loop { r with state := if jump.isNone then .ready else .done, pending := jump })) := by
          intro jump G' w₄ h4
          have hl4 : w₄.heap[lp]? = some (.loop { r with state := .busy, pending := none }) := h4.holds (own lp _) (by simp [Tl])
          refine ⟨run_endRound (r := { r with state := .busy, pending := none }) jump hl4, ?_⟩
          have h5 : HpOk K w0 (own lp (.loop { r with state := .busy, pending := none }) :: (G' ++ M)) w₄ := h4.perm List.perm_middle
          exact h5.put
        intro e₂ a₂ w₄ q₂
        cases e₂ with
        | normal =>
          obtain ⟨G', hJ', h4⟩ := q₂
          obtain ⟨hrun, h5⟩ := fin none G' w₄ h4
          exact ⟨_, _, hrun, _, _, rfl, ⟨_, rfl, by simp only [Option.isNone_none, if_true]; exact ⟨G', hJ', rfl⟩⟩, h5⟩
        | ret =>
          obtain ⟨G', hX', h4⟩ := q₂
          obtain ⟨hrun, h5⟩ := fin (some .ret) G' w₄ h4
          exact ⟨_, _, hrun, _, _, rfl, ⟨_, rfl, by simp only [Option.isNone_some, Bool.false_eq_true, if_false]; exact ⟨_, G', hX', rfl⟩⟩, h5⟩
        | exit id =>
          obtain ⟨G', hX', h4⟩ := q₂
          obtain ⟨hrun, h5⟩ := fin (some (.exit id)) G' w₄ h4
          exact ⟨_, _, hrun, _, _, rfl, ⟨_, rfl, by simp only [Option.isNone_some, Bool.false_eq_true, if_false]; exact ⟨_, G', hX', rfl⟩⟩, h5⟩
        | goto _ => exact q₂.elim
        | panic _ => exact q₂.elim
        | outgrown => exact q₂.elim
      | exit _ => exact q.elim
      | goto _ => exact q.elim
      | ret => exact q.elim
      | panic _ => exact q.elim
      | outgrown => exact q.elim
end Go.Proofs.YtnpnmdbleopikaaDoor
