/- The engine's regions, in one sentence: a region that draws its order is walked in one order, quiet operations first. Condition: quiet operations yield their value in every world that keeps the stated chunks. -/
import Derived.Test.YtnpnmdbleopikaaDoorS0
namespace Go.Proofs.YtnpnmdbleopikaaDoor
open Go

section ao
variable {P : Program} {ro : Option Nat} {ops : Array Oper} {Q : Post} {S : World → Prop}

def YS (P : Program) (ops : Array Oper) (S : World → Prop) (o : Oper) (v : Value) (a : Act) : Prop :=
  (Region.wanted o (yielded ops a.tmps) = true ∧ ∀ w, S w → (execOp a.eval o).run P w = .ok (.value v) w) ∨
  (Region.wanted o (yielded ops a.tmps) = false ∧ v = undef)
theorem YS.of_same {o : Oper} {v : Value} {a a' : Act} (hy : YS P ops S o v a) (he : execOp a'.eval o = execOp a.eval o)
    (hw : Region.wanted o (yielded ops a'.tmps) = Region.wanted o (yielded ops a.tmps)) : YS P ops S o v a' := by
  unfold YS at *
  rw [he, hw]
  exact hy

/-- operation number i, whose post is K -/
def wpI (P : Program) (ro : Option Nat) (ops : Array Oper) (Q : Post) (i : Nat) (K : Act → World → Prop) (a : Act) (w : World) : Prop :=
  wpOpIn (Fc ro) 0 P ops (NP Q) i K a w

/-- the quiet operations' ground S is kept until operation number s is done -/
def AO (P : Program) (ro : Option Nat) (ops : Array Oper) (Q : Post) (S : World → Prop) (s : Nat) : Nat → Array Bool → Act → World → Prop
  | 0, listed, a, w => Region.ready .any ops listed = [] ∧ Q .normal a w
  | fuel + 1, listed, a, w =>
    (Region.ready .any ops listed = [] → Q .normal a w) ∧
    ∀ i ∈ Region.ready .any ops listed, wpI P ro ops Q i (fun a' w' => ((listed.setIfInBounds i true).getD s false = false → S w') ∧ AO P ro ops Q S s fuel (listed.setIfInBounds i true) a' w') a w

theorem AO.any {s : Nat} : ∀ (fuel : Nat) (listed : Array Bool) (a : Act) (w : World), AO P ro ops Q S s fuel listed a w → wpAnyIn (Fc ro) 0 P .any ops (NP Q) fuel listed a w
  | 0, _, _, _, h => h
  | fuel + 1, _, _, _, h => ⟨h.1, fun i hi => wpOpIn_mono (fun a' w' h' => AO.any fuel _ a' w' h'.2) (h.2 i hi)⟩

theorem YS.wpI {i : Nat} {o : Oper} {v : Value} {a : Act} (hi : ops[i]? = some o) (hnd : ∀ c, o.op ≠ .defer c) (hy : YS P ops S o v a)
    {K : Act → World → Prop} {w : World} (hS : S w) (h : K (a.put o.dst v) w) : wpI P ro ops Q i K a w := by
  unfold Go.Proofs.YtnpnmdbleopikaaDoor.wpI wpOpIn
  simp only [hi]
  rcases hy with ⟨hw, hv⟩ | ⟨hw, rfl⟩
  · simp only [hw, if_true]
    exact ow_value hnd (hv w hS) h
  · simp only [hw, Bool.false_eq_true, if_false]
    exact ⟨fun f _ => Fc_fn _ _, h⟩

theorem wpI_put {j : Nat} {oi oj : Oper} {v : Value} (hj : ops[j]? = some oj) (hap : oi.apart ops oj = true)
    (hsi : ∀ cs b, oi.op ≠ .select cs b) (hsj : ∀ cs b, oj.op ≠ .select cs b) (hdj : ∀ c, oj.op ≠ .defer c)
    {K : Act → World → Prop} {a : Act} {w : World}
    (hy : YS P ops S oi v a) (h : wpI P ro ops Q j K (a.put oi.dst v) w) :
    wpI P ro ops Q j (fun a' w' => YS P ops S oi v a' ∧ K (a'.put oi.dst v) w') a w := by
  obtain ⟨h1, h2, h3⟩ := Oper.apart_spec hap
  have keep : ∀ (a : Act), YS P ops S oi v a → ∀ u, YS P ops S oi v (a.put oj.dst u) := fun a hy u =>
    hy.of_same (execOp_put oi hsi a oj.dst u h3) (wanted_put oi a oj.dst u h3)
  have keepD : ∀ d, YS P ops S oi v { a with defers := d :: a.defers } := fun d => hy.of_same rfl rfl
  unfold wpI wpOpIn at *
  simp only [hj] at *
  rw [wanted_put oj a oi.dst v h1] at h
  split
  · rename_i hw
    simp only [hw, if_true] at h
    unfold Oper.wpIn at *
    refine ⟨fun f _ => Fc_fn _ _, ?_⟩
    have h := h.2
    rw [Oper.semAt_eq _ _ _ hdj, execOp_put oj hsj a oi.dst v h1] at h
    rw [Oper.semAt_eq _ _ _ hdj]
    generalize (execOp a.eval oj).run P w = r at *
    cases r with
    | ok x w' =>
      cases x <;> simp only [Oper.uponIn] at h ⊢
      case value u => exact ⟨keep a hy u, by rw [← Act.put_comm a v u h2]; exact h⟩
      case skip => exact ⟨keep a hy _, by rw [← Act.put_comm a v undef h2]; exact h⟩
      case defer d =>
        refine ⟨keep _ (keepD d) _, ?_⟩
        rw [← Act.put_comm _ v undef h2, ← Act.put_defers]
        exact h
      case enter f args =>
        refine ⟨h.1, CallsIn.mono h.2 fun e w'' he => ?_⟩
        cases e with
        | returned u => exact ⟨keep a hy u, by rw [← Act.put_comm a v u h2]; exact he⟩
        | panicked c => exact he
        | outgrown => obtain ⟨_, _, h⟩ := he; exact h.elim
      case row row args => exact ⟨h.1, RowsIn.mono h.2 fun u w'' he => ⟨keep a hy u, by rw [← Act.put_comm a v u h2]; exact he⟩⟩
      case round l f tmps assign body =>
        refine ⟨h.1, RoundIn.mono h.2 fun e w'' he => ?_⟩
        cases e with
        | returned u => exact ⟨keep a hy u, by rw [← Act.put_comm a v u h2]; exact he⟩
        | panicked c => exact he
        | outgrown => obtain ⟨_, _, h⟩ := he; exact h.elim
    | halt x w' =>
      cases x <;> simp only [Oper.uponIn] at h ⊢
      case panic u => exact h
  · rename_i hw
    simp only [hw] at h
    exact ⟨fun f _ => Fc_fn _ _, keep a hy _, by rw [← Act.put_comm a v undef h2]; exact h.2⟩

theorem getD_set_false {listed : Array Bool} {i s : Nat} (hne : i ≠ s) : (listed.setIfInBounds i true).getD s false = listed.getD s false := by
  simp only [Array.getD_eq_getD_getElem?, Array.getElem?_setIfInBounds_ne hne]
theorem AO.first {i s : Nat} {oi : Oper} {v : Value} (hi : ops[i]? = some oi) (hsel : ∀ (j : Nat) (o : Oper) cs b, ops[j]? = some o → o.op ≠ .select cs b)
    (hdf : ∀ (j : Nat) (o : Oper) c, ops[j]? = some o → o.op ≠ .defer c) (hsi : i ≠ s) {Bl : List Nat} (hB : ∀ k ∈ Bl, ∀ ok, ops[k]? = some ok → ∃ e ∈ ok.after, Region.binds .any e = true ∧ (e.on = i ∨ e.on ∈ Bl)) (hz : s < ops.size → s ∈ Bl) :
    ∀ (fuel : Nat) (listed : Array Bool) (a : Act) (w : World), (∀ k ∈ Bl, listed.getD k true = false) →
      (∀ j oj, ops[j]? = some oj → j ≠ i → listed.getD j true = false → (∀ e ∈ oj.after, Region.binds .any e = true → e.on ≠ i) → oi.apart ops oj = true) → listed.getD s false = false →
      i ∈ Region.ready .any ops listed → YS P ops S oi v a → S w →
      AO P ro ops Q S s fuel (listed.setIfInBounds i true) (a.put oi.dst v) w → AO P ro ops Q S s (fuel + 1) listed a w := by
  intro fuel
  induction fuel with
  | zero =>
    intro listed a w _ _ hls hr hy hS H
    refine ⟨fun h => (by rw [h] at hr; cases hr), fun j hj => ?_⟩
    by_cases hji : j = i
    · subst hji; exact hy.wpI hi (fun c => hdf _ _ c hi) hS ⟨fun _ => hS, H⟩
    · have := ready_mono hj hji
      rw [H.1] at this
      cases this
  | succ fuel ih =>
    intro listed a w hlk hfree hls hr hy hS H
    refine ⟨fun h => (by rw [h] at hr; cases hr), fun j hj => ?_⟩
    by_cases hji : j = i
    · subst hji; exact hy.wpI hi (fun c => hdf _ _ c hi) hS ⟨fun _ => hS, H⟩
    · have h1 := H.2 j (ready_mono hj hji)
      obtain ⟨hjun, oj, hoj, hall⟩ := mem_ready.1 hj
      have hnot : ∀ e ∈ oj.after, Region.binds .any e = true → e.on ≠ i := fun e he hb heq => by
        have h1 := hall e he hb
        have h0 := (mem_ready.1 hr).1
        rw [heq] at h1
        rcases Nat.lt_or_ge i listed.size with h' | h'
        · simp [h'] at h0 h1; rw [h0] at h1; cases h1
        · simp [Array.getElem?_eq_none h'] at h1
      have hjB : j ∉ Bl := fun hin => by
        obtain ⟨e, he, hb, hon⟩ := hB j hin oj hoj
        rcases hon with hon | hon
        · exact hnot e he hb hon
        · have h1 := hall e he hb
          have h2 := hlk e.on hon
          rcases Nat.lt_or_ge e.on listed.size with h' | h'
          · simp [h'] at h1 h2; rw [h1] at h2; cases h2
          · simp [Array.getElem?_eq_none h'] at h1
      have hjs : j ≠ s := fun e => hjB (by subst e; exact hz (by obtain ⟨h, _⟩ := Array.getElem?_eq_some_iff.1 hoj; exact h))
      have hlk' : ∀ k ∈ Bl, (listed.setIfInBounds j true).getD k true = false := fun k hk => by
        have hjk : j ≠ k := fun e => hjB (e ▸ hk)
        rw [getD_set_ne true hjk]; exact hlk k hk
      have hls' : (listed.setIfInBounds j true).getD s false = false := by rw [getD_set_false hjs]; exact hls
      have hls2 : ((listed.setIfInBounds i true).setIfInBounds j true).getD s false = false := by rw [getD_set_false hjs, getD_set_false hsi]; exact hls
      have h2 := wpI_put hoj (hfree j oj hoj hji hjun hnot) (fun cs b => hsel i oi cs b hi) (fun cs b => hsel j oj cs b hoj) (fun c => hdf j oj c hoj) hy h1
      have hfree' : ∀ k ok, ops[k]? = some ok → k ≠ i → (listed.setIfInBounds j true).getD k true = false →
          (∀ e ∈ ok.after, Region.binds .any e = true → e.on ≠ i) → oi.apart ops ok = true := fun k ok hk hki hun hno => by
        refine hfree k ok hk hki ?_ hno
        by_cases hjk : j = k
        · subst hjk; exact hjun
        · rw [getD_set_ne true hjk] at hun; exact hun
      refine wpOpIn_mono (fun a' w' h3 => ⟨fun _ => h3.2.1 hls2, ih (listed.setIfInBounds j true) a' w' hlk' hfree' hls' (ready_mono hr (Ne.symm hji)) h3.1 (h3.2.1 hls2) ?_⟩) h2
      rw [Array.setIfInBounds_comm _ _ hji]
      exact h3.2.2
end ao

/-! ### A plan: which operation is taken first (true), which is the only one that can come up (false) -/
def noDefers (ops : Array Oper) : Bool := ops.all fun o => !(o.op matches .defer _)
theorem noDefers_spec {ops : Array Oper} (h : noDefers ops = true) (j : Nat) (o : Oper) (c : Call) (ho : ops[j]? = some o) : o.op ≠ .defer c := by
  intro e
  obtain ⟨hj, rfl⟩ := Array.getElem?_eq_some_iff.1 ho
  have := (Array.all_eq_true.1 h) j hj
  rw [e] at this
  simp at this

/-- what is left of a region: one operation and what is behind it; or one of several, which may each come first -/
inductive Its where
  | nil
  | cons (p : Bool × Oper) (r : Its)
  | alt (o : Oper) (r s : Its)
  | last (o : Oper) (r : Its)
def Its.all : List Oper → Its
  | [] => .nil
  | o :: r => .cons (false, o) (Its.all r)
def Its.drop : Nat → Its → Its
  | 0, i => i
  | n + 1, .cons _ r => Its.drop n r
  | _, i => i
/-- the walk along a plan -/
def PL (P : Program) (ro : Option Nat) (ops : Array Oper) (Q : Post) (S0 : World → Prop) : (World → Prop) → Its → Act → World → Prop
  | _, .nil, a, w => Q .normal a w
  | S, .cons (true, o) r, a, w => ∃ v, YS P ops S o v a ∧ PL P ro ops Q S0 S r (a.put o.dst v) w
  | S, .cons (false, o) r, a, w =>
    if Region.wanted o (yielded ops a.tmps) then o.wpIn (Fc ro) 0 P a w (fun a' w' => S w' ∧ PL P ro ops Q S0 S r a' w') (NP Q)
    else PL P ro ops Q S0 S r (a.put o.dst undef) w
  | S, .alt o r s, a, w =>
    (if Region.wanted o (yielded ops a.tmps) then o.wpIn (Fc ro) 0 P a w (fun a' w' => S w' ∧ PL P ro ops Q S0 S r a' w') (NP Q)
    else PL P ro ops Q S0 S r (a.put o.dst undef) w) ∧ PL P ro ops Q S0 S s a w
  | S, .last o r, a, w => S0 w ∧
    if Region.wanted o (yielded ops a.tmps) then o.wpIn (Fc ro) 0 P a w (fun a' w' => S0 w' ∧ PL P ro ops Q S0 S0 r a' w') (NP Q)
    else PL P ro ops Q S0 S0 r (a.put o.dst undef) w

/-- a plan: which operation is taken first (true), which is one of those that may come up (false), which is behind all of the quiet ones (last) -/
inductive Pl where
  | nil
  | cons (p : Bool × Nat) (r : Pl)
  | alt (i : Nat) (r s : Pl)
  | last (i : Nat) (r : Pl)
def Pl.ap : List (Bool × Nat) → Pl → Pl
  | [], s => s
  | p :: r, s => .cons p (Pl.ap r s)
def Pl.of (l : List (Bool × Nat)) : Pl := Pl.ap l .nil
def Pl.heads : Pl → List Nat
  | .nil => []
  | .cons (_, i) _ => [i]
  | .alt i _ s => i :: s.heads
  | .last i _ => [i]
/-- the number of the operation behind all quiet ones -/
def Pl.end_ (n : Nat) : Pl → Nat
  | .nil => n
  | .cons _ r => r.end_ n
  | .alt _ r _ => r.end_ n
  | .last i _ => i
/-- the operations that wait for number i -/
def waits (ops : Array Oper) (i : Nat) : List Nat := (List.range ops.size).foldl (fun B k => if (ops[k]?).any (fun ok => ok.after.any fun e => Region.binds .any e && (e.on == i || B.contains e.on)) then k :: B else B) []
def waitsOk (ops : Array Oper) (i z : Nat) (listed : Array Bool) (B : List Nat) : Bool :=
  B.contains z && B.all fun k => !listed.getD k true && ((ops[k]?).all fun ok => ok.after.any fun e => Region.binds .any e && (e.on == i || B.contains e.on))
def planOk (ops : Array Oper) (z : Nat) : Pl → Nat → Array Bool → Bool → Bool
  | .nil, n, listed, chk => chk && (n == 0) && (Region.ready .any ops listed).isEmpty
  | .cons (true, i) r, n + 1, listed, chk => chk && Region.free .any ops listed i && (Region.ready .any ops listed).contains i && (!listed.getD z false) && (i != z) && (decide (ops.size ≤ z) || waitsOk ops i z listed (waits ops i)) && planOk ops z r n (listed.setIfInBounds i true) true
  | .cons (false, i) r, n + 1, listed, chk => (!chk || (Region.ready .any ops listed == [i])) && planOk ops z r n (listed.setIfInBounds i true) true
  | .alt i r s, n + 1, listed, chk => (!chk || (Region.ready .any ops listed == i :: s.heads)) && planOk ops z r n (listed.setIfInBounds i true) true && planOk ops z s (n + 1) listed false
  | .last i r, n + 1, listed, chk => chk && (i == z) && decide (i < ops.size) && (listed.size == ops.size) && (Region.ready .any ops listed == [i]) && planOk ops z r n (listed.setIfInBounds i true) true
  | _, 0, _, _ => false
def planOps (ops : Array Oper) : Pl → Its
  | .nil => .nil
  | .cons p r => .cons (p.1, ops.getD p.2 default) (planOps ops r)
  | .alt i r s => .alt (ops.getD i default) (planOps ops r) (planOps ops s)
  | .last i r => .last (ops.getD i default) (planOps ops r)

theorem PL.turn {P : Program} {ro : Option Nat} {ops : Array Oper} {Q : Post} {S S0 : World → Prop} {i : Nat} {r : Its} {K : Act → World → Prop} {a : Act} {w : World} (hi : (ops[i]?).isSome = true) (hS : S w) (hk : ∀ a' w', S w' → PL P ro ops Q S0 S r a' w' → K a' w')
    (h : PL P ro ops Q S0 S (.cons (false, ops.getD i default) r) a w) : wpI P ro ops Q i K a w := by
  obtain ⟨oj, hoj⟩ := Option.isSome_iff_exists.1 hi
  have hg : ops.getD i default = oj := by simp [Array.getD_eq_getD_getElem?, hoj]
  simp only [PL, hg] at h
  unfold wpI wpOpIn
  simp only [hoj]
  split
  · rename_i hw
    rw [if_pos hw] at h
    exact Oper.wpIn_mono (fun a' w' h' => hk a' w' h'.1 h'.2) h
  · rename_i hw
    rw [if_neg hw] at h
    exact ⟨fun f _ => Fc_fn _ _, hk _ _ hS h⟩

theorem AO.of_plan {P : Program} {ro : Option Nat} {ops : Array Oper} {Q : Post} {S0 : World → Prop} {z : Nat} {S1 : World → Prop} (hs : Region.noSelect ops = true) (hd : noDefers ops = true) :
    ∀ (plan : Pl) (n : Nat) (listed : Array Bool) (chk : Bool) (a : Act) (w : World) (S : World → Prop), (listed.getD z false = false → S = S1) → planOk ops z plan n listed chk = true → S w →
      PL P ro ops Q S0 S (planOps ops plan) a w → (chk = true → AO P ro ops Q S1 z n listed a w) ∧ (chk = false → ∀ i ∈ plan.heads, i ∈ Region.ready .any ops listed → ∀ m, n = m + 1 → wpI P ro ops Q i (fun a' w' => ((listed.setIfInBounds i true).getD z false = false → S1 w') ∧ AO P ro ops Q S1 z m (listed.setIfInBounds i true) a' w') a w) := by
  have hmono : ∀ (listed : Array Bool) (i : Nat), (listed.setIfInBounds i true).getD z false = false → listed.getD z false = false := by
    intro listed i h
    by_cases hi : i = z
    · subst hi
      simp only [Array.getD_eq_getD_getElem?] at h ⊢
      rcases Nat.lt_or_ge i listed.size with h' | h'
      · simp [h'] at h
      · simp [Array.getElem?_eq_none h']
    · rw [getD_set_false hi] at h; exact h
  intro plan
  induction plan with
  | nil =>
    intro n listed chk a w S hSS hp hS h
    simp only [planOk, Bool.and_eq_true, beq_iff_eq] at hp
    obtain ⟨⟨hc, rfl⟩, hr⟩ := hp
    refine ⟨fun _ => ⟨by simpa using hr, h⟩, fun hf => by rw [hc] at hf; cases hf⟩
  | cons p r ih =>
    obtain ⟨tk, i⟩ := p
    intro n listed chk a w S hSS hp hS h
    cases n with
    | zero => cases tk <;> simp [planOk] at hp
    | succ n =>
    cases tk with
    | true =>
      simp only [planOk, Bool.and_eq_true, Bool.not_eq_true', bne_iff_ne, ne_eq] at hp
      obtain ⟨⟨⟨⟨⟨⟨hc, hf⟩, hr⟩, hlz⟩, hiz⟩, haz⟩, hp⟩ := hp
      obtain rfl := hSS hlz
      refine ⟨fun _ => ?_, fun hf => by rw [hc] at hf; cases hf⟩
      obtain ⟨v, hy, h⟩ := h
      have hm : i ∈ Region.ready .any ops listed := by simpa using hr
      obtain ⟨oi, hoi⟩ : ∃ oi, ops[i]? = some oi := by
        obtain ⟨_, oj, hoj, _⟩ := mem_ready.1 hm
        exact ⟨oj, hoj⟩
      have hg : ops.getD i default = oi := by simp [Array.getD_eq_getD_getElem?, hoi]
      simp only [hg] at hy h
      have hgo : ∀ B : List Nat, (∀ k ∈ B, ∀ ok, ops[k]? = some ok → ∃ e ∈ ok.after, Region.binds .any e = true ∧ (e.on = i ∨ e.on ∈ B)) → (z < ops.size → z ∈ B) → (∀ k ∈ B, listed.getD k true = false) → AO P ro ops Q S z (n + 1) listed a w := fun B h1 h2 h3 =>
        AO.first hoi (Region.noSelect_spec hs) (fun j o c => noDefers_spec hd j o c) hiz h1 h2 _ listed a w h3 (Region.free_spec hoi hf) hlz hm hy hS ((ih _ _ _ _ _ _ (fun _ => rfl) hp hS h).1 rfl)
      simp only [Bool.or_eq_true, decide_eq_true_eq] at haz
      rcases haz with hz | hz
      · exact hgo [] (fun k hk => by cases hk) (fun h => by omega) (fun k hk => by cases hk)
      · simp only [waitsOk, Bool.and_eq_true, List.all_eq_true, Bool.not_eq_true'] at hz
        obtain ⟨hzc, hall⟩ := hz
        refine hgo (waits ops i) (fun k hk ok hok => ?_) (fun _ => by simpa using hzc) (fun k hk => (hall k hk).1)
        have := (hall k hk).2
        rw [hok] at this
        simp only [Option.all_some, Array.any_eq_true'] at this
        obtain ⟨e, he, hbe⟩ := this
        simp only [Bool.and_eq_true, Bool.or_eq_true, beq_iff_eq] at hbe
        exact ⟨e, he, hbe.1, by rcases hbe.2 with h | h; exact .inl h; exact .inr (by simpa using h)⟩
    | false =>
      simp only [planOk, Bool.and_eq_true] at hp
      obtain ⟨hr, hp⟩ := hp
      have key : i ∈ Region.ready .any ops listed → wpI P ro ops Q i (fun a' w' => ((listed.setIfInBounds i true).getD z false = false → S1 w') ∧ AO P ro ops Q S1 z n (listed.setIfInBounds i true) a' w') a w := fun hm => by
        obtain ⟨_, oj, hoj, _⟩ := mem_ready.1 hm
        exact PL.turn (by simp [hoj]) hS (fun a' w' hS' h' => ⟨fun hl => by rw [← hSS (hmono _ _ hl)]; exact hS', (ih _ _ _ _ _ _ (fun hl => hSS (hmono _ _ hl)) hp hS' h').1 rfl⟩) h
      refine ⟨fun hc => ?_, fun _ j hj hm m hnm => ?_⟩
      · subst hc
        simp only [Bool.not_true, Bool.false_or, beq_iff_eq] at hr
        refine ⟨fun h0 => (by rw [hr] at h0; cases h0), fun j hj => ?_⟩
        rw [hr] at hj
        obtain rfl : j = i := by simpa using hj
        exact key (by rw [hr]; simp)
      · obtain rfl : j = i := by simpa [Pl.heads] using hj
        obtain rfl : n = m := by omega
        exact key hm
  | alt i r s ihr ihs =>
    intro n listed chk a w S hSS hp hS h
    cases n with
    | zero => simp [planOk] at hp
    | succ n =>
    simp only [planOk, Bool.and_eq_true] at hp
    obtain ⟨⟨hr, hp1⟩, hp2⟩ := hp
    obtain ⟨h1, h2⟩ := h
    have key : i ∈ Region.ready .any ops listed → wpI P ro ops Q i (fun a' w' => ((listed.setIfInBounds i true).getD z false = false → S1 w') ∧ AO P ro ops Q S1 z n (listed.setIfInBounds i true) a' w') a w := fun hm => by
      obtain ⟨_, oj, hoj, _⟩ := mem_ready.1 hm
      exact PL.turn (r := planOps ops r) (by simp [hoj]) hS (fun a' w' hS' h' => ⟨fun hl => by rw [← hSS (hmono _ _ hl)]; exact hS', (ihr _ _ _ _ _ _ (fun hl => hSS (hmono _ _ hl)) hp1 hS' h').1 rfl⟩) h1
    have hrest := (ihs _ _ _ _ _ _ hSS hp2 hS h2).2 rfl
    refine ⟨fun hc => ?_, fun _ j hj hm m hnm => ?_⟩
    · subst hc
      simp only [Bool.not_true, Bool.false_or, beq_iff_eq] at hr
      refine ⟨fun h0 => (by rw [hr] at h0; cases h0), fun j hj => ?_⟩
      have hj' := hj
      rw [hr] at hj'
      rcases List.mem_cons.1 hj' with rfl | hjs
      · exact key hj
      · exact hrest j hjs hj n rfl
    · obtain rfl : n = m := by omega
      rcases List.mem_cons.1 hj with rfl | hjs
      · exact key hm
      · exact hrest j hjs hm n rfl
  | last i r ih =>
    intro n listed chk a w S hSS hp hS h
    cases n with
    | zero => simp [planOk] at hp
    | succ n =>
    simp only [planOk, Bool.and_eq_true, beq_iff_eq, decide_eq_true_eq] at hp
    obtain ⟨⟨⟨⟨⟨hc, rfl⟩, hlt⟩, hsz⟩, hr⟩, hp⟩ := hp
    refine ⟨fun _ => ?_, fun hf => by rw [hc] at hf; cases hf⟩
    refine ⟨fun h0 => (by rw [hr] at h0; cases h0), fun j hj => ?_⟩
    rw [hr] at hj
    obtain rfl : j = i := by simpa using hj
    have hl : (listed.setIfInBounds j true).getD j false = true := by
      have : j < listed.size := by rw [hsz]; exact hlt
      simp [Array.getD_eq_getD_getElem?, this]
    obtain ⟨hS0, h⟩ := h
    have h' : PL P ro ops Q S0 S0 (.cons (false, ops.getD j default) (planOps ops r)) a w := by simpa only [PL] using h
    exact PL.turn (by simp [hlt]) hS0 (fun a' w' hS' h' => ⟨fun hf => absurd (hl.symm.trans hf) (by decide), (ih _ _ _ _ _ _ (fun hf => absurd (hl.symm.trans hf) (by decide)) hp hS' h').1 rfl⟩) h'

def allPlan (ops : Array Oper) (plan : Pl) : Bool :=
  Region.noSelect ops && noDefers ops && planOk ops (plan.end_ ops.size) plan ops.size (Array.replicate ops.size false) true

theorem wp_draw {P : Program} {ro : Option Nat} {ops : Array Oper} {Q : Post} {S S0 : World → Prop} {id : Nat} {a : Act} {w : World} (hm : P.follows .mixedOrders = true)
    (plan : Pl) (hp : allPlan ops plan = true)
    (hS : S { w with drawn := w.drawn + 1 }) (h : PL P ro ops Q S0 S (planOps ops plan) a { w with drawn := w.drawn + 1 }) :
    (Code.region id ops true).wpIn (Fc ro) 0 P (NP Q) a w := by
  simp only [allPlan, Bool.and_eq_true] at hp
  obtain ⟨⟨hs, hd⟩, hp⟩ := hp
  refine wpIn_region_any hm ?_
  exact AO.any _ _ _ _ ((AO.of_plan hs hd plan _ _ _ a _ S (fun _ => rfl) hp hS h).1 rfl)

theorem PL.list {P : Program} {ro : Option Nat} {ops : Array Oper} {Q : Post} {S S0 : World → Prop} : ∀ (l : List Oper) (a : Act) (w : World),
    PL P ro ops Q S0 S (Its.all l) a w → wpListIn (Fc ro) 0 P ops (NP Q) l a w
  | [], a, w, h => h
  | o :: r, a, w, h => by
    simp only [Its.all, PL] at h
    unfold wpListIn
    split
    · rename_i hw
      rw [if_pos hw] at h
      exact Oper.wpIn_mono (fun a' w' h' => PL.list r a' w' h'.2) h
    · rename_i hw
      rw [if_neg hw] at h
      exact ⟨fun f _ => Fc_fn _ _, PL.list r _ w h⟩
theorem wp_list {P : Program} {ro : Option Nat} {ops : Array Oper} {Q : Post} {S S0 : World → Prop} {id : Nat} {a : Act} {w : World}
    (h : PL P ro ops Q S0 S (Its.all ops.toList) a w) : (Code.region id ops false).wpIn (Fc ro) 0 P (NP Q) a w :=
  wpIn_region_list (PL.list _ a w h)
end Go.Proofs.YtnpnmdbleopikaaDoor
