/- The texts S14, S15, S16, S17, S18, S19, R4, BB1, W3, W4, VW0, one behind the other: each bears its own sentence. Conditions: as each says. -/
import Derived.Test.YtddjneafgddlcaaDoorVB1
import Derived.Test.YtddjneafgddlcaaDoorVB2
import Derived.Test.YtddjneafgddlcaaDoorVB3
import Derived.Maps.Range
import Derived.JoinedOf
import Derived.SliceStrings
import Derived.Deep.Slices
import Derived.HandedShaped

/- The engine's maps: a map of the call's own as a list of keys and elements; look-ups, stores, removals, ranges. No condition beyond those stated. -/
namespace Go.Proofs.YtddjneafgddlcaaDoor
open Go Go.MapKept Go.ChangeMaps

variable {P : Program} {ro : Option Nat} {K : Nat → Prop} {w0 : World} {N : Nat} {Q : Post} {D : List Nat} {l l' : Tm} {H H' Hs L : List Chunk} {ops : Array Oper} {items : Its}
variable {tk : Bool} {o : Oper} {t : Nat} {v : Value} {x y z : Operand}

theorem nodup_of_map {α β : Type} (f : α → β) {l : List α} (h : (l.map f).Nodup) : l.Nodup := (List.pairwise_map.1 h).imp fun hne e => hne (congrArg f e)
theorem nodup_len {α : Type} : ∀ {l l' : List α}, l.Nodup → (∀ a ∈ l, a ∈ l') → l.length ≤ l'.length
  | [], _, _, _ => by simp
  | a :: r, l', hn, hs => by
    obtain ⟨h1, h2⟩ := List.nodup_cons.1 hn
    obtain ⟨p, q, rfl⟩ := List.append_of_mem (hs a (List.mem_cons_self ..))
    have := nodup_len (l' := p ++ q) h2 (fun b hb => by
      have hb' := hs b (List.mem_cons_of_mem _ hb)
      simp only [List.mem_append, List.mem_cons] at hb' ⊢
      rcases hb' with h | rfl | h
      · exact .inl h
      · exact absurd hb h1
      · exact .inr h)
    simp at this ⊢
    omega
section plain
variable {κ α : Type} [DecidableEq κ]
/-! ### Plain maps: no key twice -/
def mget (m : List (κ × α)) (k : κ) : Option α := (m.find? fun p => decide (p.1 = k)).map (·.2)
def mdel (m : List (κ × α)) (k : κ) : List (κ × α) := m.filter fun p => decide (p.1 ≠ k)
def mput (m : List (κ × α)) (k : κ) (a : α) : List (κ × α) := (k, a) :: mdel m k
theorem mget_none {m : List (κ × α)} {k : κ} (h : ∀ p ∈ m, p.1 ≠ k) : mget m k = none := by
  unfold mget
  rw [List.find?_eq_none.2 (fun p hp => by simpa using h p hp)]
  rfl
theorem mget_some {m : List (κ × α)} (hn : (m.map (·.1)).Nodup) {p : κ × α} (hp : p ∈ m) : mget m p.1 = some p.2 := by
  induction m with
  | nil => cases hp
  | cons q r ih =>
    simp only [List.map_cons, List.nodup_cons] at hn
    unfold mget
    rcases List.mem_cons.1 hp with rfl | hp
    · simp
    · have hne : q.1 ≠ p.1 := fun e => hn.1 (by rw [e]; exact List.mem_map_of_mem hp)
      rw [List.find?_cons_of_neg (by simpa using hne)]
      exact ih hn.2 hp
theorem mdel_all {m : List (κ × α)} {k : κ} (h : ∀ p ∈ m, p.1 ≠ k) : mdel m k = m := List.filter_eq_self.2 (fun p hp => by simpa using h p hp)
theorem mdel_split {m : List (κ × α)} (hn : (m.map (·.1)).Nodup) {p : κ × α} (hp : p ∈ m) : m.Perm (p :: mdel m p.1) := by
  induction m with
  | nil => cases hp
  | cons q r ih =>
    simp only [List.map_cons, List.nodup_cons] at hn
    rcases List.mem_cons.1 hp with rfl | hp
    · have h1 : mdel (p :: r) p.1 = r := by
        unfold mdel
        rw [List.filter_cons_of_neg (by simp)]
        exact mdel_all fun q hq e => hn.1 (by rw [← e]; exact List.mem_map_of_mem hq)
      rw [h1]
    · have hne : q.1 ≠ p.1 := fun e => hn.1 (by rw [e]; exact List.mem_map_of_mem hp)
      have h1 : mdel (q :: r) p.1 = q :: mdel r p.1 := by
        unfold mdel
        rw [List.filter_cons_of_pos (by simpa using hne)]
      rw [h1]
      exact ((ih hn.2 hp).cons q).trans (List.Perm.swap _ _ _)
theorem mdel_nodup {m : List (κ × α)} {k : κ} (hn : (m.map (·.1)).Nodup) : ((mdel m k).map (·.1)).Nodup := hn.sublist (List.Sublist.map _ (List.filter_sublist ..))
theorem mput_nodup {m : List (κ × α)} {k : κ} {a : α} (hn : (m.map (·.1)).Nodup) : ((mput m k a).map (·.1)).Nodup := by
  simp only [mput, List.map_cons, List.nodup_cons]
  refine ⟨fun h => ?_, mdel_nodup hn⟩
  obtain ⟨q, hq, e⟩ := List.mem_map.1 h
  have := (List.mem_filter.1 hq).2
  simp [e] at this
theorem mget_put {m : List (κ × α)} {k j : κ} {a : α} : mget (mput m k a) j = if k = j then some a else mget m j := by
  unfold mput mget
  by_cases h : k = j
  · rw [if_pos h, List.find?_cons_of_pos (by simpa using h)]; rfl
  · rw [if_neg h, List.find?_cons_of_neg (by simpa using h)]
    congr 1
    unfold mdel
    rw [List.find?_filter]
    congr 1
    funext p
    by_cases hj : p.1 = j
    · simp [hj, Ne.symm h]
    · simp [hj]
theorem mget_del {m : List (κ × α)} {k j : κ} : mget (mdel m k) j = if k = j then none else mget m j := by
  by_cases h : k = j
  · subst h
    rw [if_pos rfl]
    exact mget_none fun p hp => by simpa using (List.mem_filter.1 hp).2
  · rw [if_neg h]
    unfold mget mdel
    congr 1
    rw [List.find?_filter]
    congr 1
    funext p
    by_cases hj : p.1 = j
    · simp [hj, Ne.symm h]
    · simp [hj]
end plain

/-- how keys and elements lie in a map of key type k -/
structure MapE (P : Program) (k : TypeId) {κ α : Type} (ek : κ → Value) (ev : α → Value) : Prop where
  keyed : Go.Maps.Keyed P k
  lit : ∀ x, ∃ l, keyOf P k (ek x) = some l
  dk : ∃ f : Value → Option κ, ∀ x, f (ek x) = some x
  dv : ∃ f : Value → Option α, ∀ x, f (ev x) = some x
theorem MapE.inj {k : TypeId} {κ α : Type} {ek : κ → Value} {ev : α → Value} (E : MapE P k ek ev) {x y : κ} (h : ek x = ek y) : x = y := by
  obtain ⟨f, hf⟩ := E.dk
  have := hf x
  rw [h, hf y] at this
  exact (Option.some.inj this).symm
theorem u32_key {k : TypeId} (hk : P.underlying k = some (.int .u32)) (a : UInt32) : ∃ l, keyOf P k (vU32 a) = some l :=
  ⟨_, Maps.keyOf_int_mk hk (by have := a.toNat_lt; simp [Lit.wf, IntKind.min, IntKind.max, IntKind.signed, IntKind.bits]; omega)⟩
theorem MapE.u32S {k : TypeId} (hk : P.underlying k = some (.int .u32)) : MapE P k vU32 vS :=
  ⟨Maps.int_keyed hk, u32_key hk, ⟨fun v => match v with | .int _ a => some (UInt32.ofNat a.toNat) | _ => none, fun x => by simp⟩, ⟨fun v => match v with | .string b => some b.data.toList | _ => none, fun x => rfl⟩⟩
theorem MapE.u32B {k : TypeId} (hk : P.underlying k = some (.int .u32)) : MapE P k vU32 vB :=
  ⟨Maps.int_keyed hk, u32_key hk, ⟨fun v => match v with | .int _ a => some (UInt32.ofNat a.toNat) | _ => none, fun x => by simp⟩, ⟨fun v => match v with | .bool b => some b | _ => none, fun x => rfl⟩⟩

section maps
variable {κ α : Type} {ek : κ → Value} {ev : α → Value} {m : List (κ × α)} {k : TypeId} {b : Nat}
def MapRep (ek : κ → Value) (ev : α → Value) (m : List (κ × α)) (es : Array MapEntry) (clock : Nat) : Prop :=
  Stamped es clock ∧ es.size ≤ maxLen ∧ (es.toList.map fun e => (e.key, e.val)).Perm (m.map fun p => (ek p.1, ev p.2))
/-- a map of the call's own -/
def mapC (b : Nat) (ek : κ → Value) (ev : α → Value) (m : List (κ × α)) : Chunk :=
  ⟨(· = b), fun w => ∃ es clock, w.heap[b]? = some (.map es clock) ∧ MapRep ek ev m es clock, fun w w' h ⟨es, c, h1, h2⟩ => ⟨es, c, by rw [h _ rfl]; exact h1, h2⟩⟩
theorem MapRep.mem {es : Array MapEntry} {clock : Nat} (h : MapRep ek ev m es clock) {e : MapEntry} (he : e ∈ es.toList) : ∃ p ∈ m, e.key = ek p.1 ∧ e.val = ev p.2 := by
  have := h.2.2.mem_iff.1 (List.mem_map_of_mem (f := fun e : MapEntry => (e.key, e.val)) he)
  obtain ⟨p, hp, e1⟩ := List.mem_map.1 this
  simp only [Prod.mk.injEq] at e1
  exact ⟨p, hp, e1.1.symm, e1.2.symm⟩
theorem MapRep.nodup {es : Array MapEntry} {clock : Nat} (h : MapRep ek ev m es clock) : (m.map (·.1)).Nodup := by
  have h1 : (es.toList.map (·.key)).Nodup := h.1.2.2
  have h2 : (es.toList.map (·.key)).Perm (m.map fun p => ek p.1) := by
    have := h.2.2.map (·.1)
    simpa [List.map_map, Function.comp_def] using this
  have h3 : (m.map fun p => ek p.1).Nodup := h2.nodup_iff.1 h1
  have h4 : (m.map fun p => ek p.1) = (m.map (·.1)).map ek := by simp
  rw [h4] at h3
  exact nodup_of_map _ h3
theorem MapRep.keys {es : Array MapEntry} {clock : Nat} (E : MapE P k ek ev) (h : MapRep ek ev m es clock) : ∀ e ∈ es.toList, ∃ l, keyOf P k e.key = some l := fun e he => by
  obtain ⟨p, _, e1, _⟩ := h.mem he
  rw [e1]
  exact E.lit _
theorem MapRep.size_eq {es : Array MapEntry} {clock : Nat} (h : MapRep ek ev m es clock) : es.size = m.length := by
  have := h.2.2.length_eq
  simpa using this
variable [DecidableEq κ]
theorem MapRep.look {es : Array MapEntry} {clock : Nat} {w : World} (E : MapE P k ek ev) (h : MapRep ek ev m es clock) (hb : w.heap[b]? = some (.map es clock)) {ty e : TypeId} (ht : P.underlying ty = some (.map k e)) {zv : α} (hz : zer P e = some (ev zv)) (key : κ) (c : Bool) :
    (Instr.lookup ty (.map (some b)) (ek key) c).run P w = .ok (if c then .tuple #[ev ((mget m key).getD zv), .bool (mget m key).isSome] else ev ((mget m key).getD zv)) w := by
  obtain ⟨lx, hl⟩ := E.lit key
  rcases E.keyed.find w hl es.toList (h.keys E) with ⟨h1, h2⟩ | ⟨j, e0, h1, h2, h3⟩
  · have hg : mget m key = none := mget_none fun p hp e => by
      have := h.2.2.mem_iff.2 (List.mem_map_of_mem (f := fun p : κ × α => (ek p.1, ev p.2)) hp)
      obtain ⟨e', he', e1⟩ := List.mem_map.1 this
      simp only [Prod.mk.injEq] at e1
      exact h2 e' he' (by rw [e1.1, e])
    simp [Instr.lookup, run_underlying ht, MapKept.run_getObj_map hb, E.keyed.check w _ hl, h1, run_zero hz, Result.andThen, hg]
  · obtain ⟨p, hp, e1, e2⟩ := h.mem (List.mem_of_getElem? h2)
    have hk : p.1 = key := E.inj (by rw [← e1, h3])
    have hg := mget_some h.nodup hp
    rw [hk] at hg
    simp [Instr.lookup, run_underlying ht, MapKept.run_getObj_map hb, E.keyed.check w _ hl, h1, Result.andThen, hg, ← e2]
theorem MapRep.upd {es : Array MapEntry} {clock : Nat} {w : World} (E : MapE P k ek ev) (h : MapRep ek ev m es clock) (hb : w.heap[b]? = some (.map es clock)) {ty e : TypeId} (ht : P.underlying ty = some (.map k e)) (key : κ) (a : α) (hroom : m.length < 9223372036854775807) :
    ∃ es' clock', (Instr.mapUpdate ty (.map (some b)) (ek key) (ev a)).run P w = .ok () (setBlock w b (.map es' clock')) ∧ MapRep ek ev (mput m key a) es' clock' := by
  obtain ⟨lx, hl⟩ := E.lit key
  have hsz := h.size_eq
  rcases E.keyed.find w hl es.toList (h.keys E) with ⟨h1, h2⟩ | ⟨j, e0, h1, h2, h3⟩
  · have hno : ∀ p ∈ m, p.1 ≠ key := fun p hp e => by
      have := h.2.2.mem_iff.2 (List.mem_map_of_mem (f := fun p : κ × α => (ek p.1, ev p.2)) hp)
      obtain ⟨e', he', e1⟩ := List.mem_map.1 this
      simp only [Prod.mk.injEq] at e1
      exact h2 e' he' (by rw [e1.1, e])
    refine ⟨es.push ⟨ek key, ev a, clock⟩, clock + 1, ?_, stamped_push h.1 h2, by simp only [maxLen, Array.size_push]; omega, ?_⟩
    · simp [Instr.mapUpdate, run_underlying ht, MapKept.run_getObj_map hb, E.keyed.check w false hl, h1, MapKept.run_setObj_map _ hb, Result.andThen, setBlock]
    · unfold mput
      rw [mdel_all hno, Array.toList_push, List.map_append, List.map_cons]
      exact (List.perm_append_singleton _ _).trans (h.2.2.cons _)
  · have hj : es[j]? = some e0 := by simpa using h2
    have hjl : j < es.toList.length := (List.getElem?_eq_some_iff.1 h2).1
    obtain ⟨p, hp, e1, e2⟩ := h.mem (List.mem_of_getElem? h2)
    have hk : p.1 = key := E.inj (by rw [← e1, h3])
    have hkeyf : ∀ e', es[j]? = some e' → ({ e' with key := ek key, val := ev a } : MapEntry).key = e'.key := fun e' he' => by rw [hj] at he'; cases he'; exact h3.symm
    have hlist : (es.modify j (fun e' => { e' with key := ek key, val := ev a })).toList = es.toList.set j { e0 with key := ek key, val := ev a } := by rw [Array.toList_modify, modify_eq_set _ _ _ _ h2]
    refine ⟨es.modify j (fun e' => { e' with key := ek key, val := ev a }), clock, ?_, stamped_modify h.1 _ _ (fun _ _ => rfl) (fun e' _ he' => hkeyf e' he'), by simpa using h.2.1, ?_⟩
    · simp [Instr.mapUpdate, run_underlying ht, MapKept.run_getObj_map hb, E.keyed.check w false hl, h1, hj, h3, E.keyed.stays w hl, MapKept.run_setObj_map _ hb, Result.andThen, setBlock]
    · rw [hlist]
      unfold mput
      have hspl := mdel_split h.nodup hp
      rw [hk] at hspl
      have p1 : es.toList = es.toList.take j ++ e0 :: es.toList.drop (j + 1) := (take_split h2).1
      have p2 : es.toList.set j { e0 with key := ek key, val := ev a } = es.toList.take j ++ { e0 with key := ek key, val := ev a } :: es.toList.drop (j + 1) := by
        rw [List.set_eq_take_append_cons_drop, if_pos hjl]
      rw [p2]
      have q1 : ((es.toList.take j ++ es.toList.drop (j + 1)).map fun e => (e.key, e.val)).Perm ((mdel m key).map fun p => (ek p.1, ev p.2)) := by
        have h5 := h.2.2
        rw [p1] at h5
        have h6 := (List.perm_middle (l₁ := es.toList.take j) (a := e0) (l₂ := es.toList.drop (j + 1))).symm.map (fun e : MapEntry => (e.key, e.val))
        have h7 := (h6.trans h5).trans (hspl.map fun p => (ek p.1, ev p.2))
        simp only [List.map_cons, e1, e2] at h7
        exact h7.cons_inv
      have h8 := (List.perm_middle (l₁ := es.toList.take j) (a := ({ e0 with key := ek key, val := ev a } : MapEntry)) (l₂ := es.toList.drop (j + 1))).map (fun e : MapEntry => (e.key, e.val))
      exact h8.trans (q1.cons _)
theorem MapRep.drop {es : Array MapEntry} {clock : Nat} {w : World} (E : MapE P k ek ev) (h : MapRep ek ev m es clock) (hb : w.heap[b]? = some (.map es clock)) {t2 e rt : TypeId} (ht : P.underlying t2 = some (.map k e)) (key : κ) :
    ∃ es', (Builtin.delete_ #[t2, k] rt #[.map (some b), ek key]).run P w = .ok (.tuple #[]) (setBlock w b (.map es' clock)) ∧ MapRep ek ev (mdel m key) es' clock := by
  obtain ⟨lx, hl⟩ := E.lit key
  rcases E.keyed.find w hl es.toList (h.keys E) with ⟨h1, h2⟩ | ⟨j, e0, h1, h2, h3⟩
  · have hno : ∀ p ∈ m, p.1 ≠ key := fun p hp e => by
      have := h.2.2.mem_iff.2 (List.mem_map_of_mem (f := fun p : κ × α => (ek p.1, ev p.2)) hp)
      obtain ⟨e', he', e1⟩ := List.mem_map.1 this
      simp only [Prod.mk.injEq] at e1
      exact h2 e' he' (by rw [e1.1, e])
    refine ⟨es, ?_, by rw [mdel_all hno]; exact h⟩
    simp [Builtin.delete_, run_underlying ht, MapKept.run_getObj_map hb, E.keyed.check w _ hl, h1, MapKept.run_setObj_map _ hb, Result.andThen, setBlock]
  · have hjl : j < es.toList.length := (List.getElem?_eq_some_iff.1 h2).1
    have hjs : j < es.size := by simpa using hjl
    obtain ⟨p, hp, e1, e2⟩ := h.mem (List.mem_of_getElem? h2)
    have hk : p.1 = key := E.inj (by rw [← e1, h3])
    have hsub : (es.eraseIdxIfInBounds j).toList = es.toList.eraseIdx j := by
      unfold Array.eraseIdxIfInBounds
      rw [dif_pos hjs]
      simp
    refine ⟨es.eraseIdxIfInBounds j, ?_, stamped_erase h.1 j, Nat.le_trans (MapFrom.size_erase es j) h.2.1, ?_⟩
    · simp [Builtin.delete_, run_underlying ht, MapKept.run_getObj_map hb, E.keyed.check w _ hl, h1, MapKept.run_setObj_map _ hb, Result.andThen, setBlock]
    · rw [hsub, List.eraseIdx_eq_take_drop_succ]
      have hspl := mdel_split h.nodup hp
      rw [hk] at hspl
      have p1 : es.toList = es.toList.take j ++ e0 :: es.toList.drop (j + 1) := (take_split h2).1
      have h5 := h.2.2
      rw [p1] at h5
      have h6 := (List.perm_middle (l₁ := es.toList.take j) (a := e0) (l₂ := es.toList.drop (j + 1))).symm.map (fun e : MapEntry => (e.key, e.val))
      have h7 := (h6.trans h5).trans (hspl.map fun p => (ek p.1, ev p.2))
      simp only [List.map_cons, e1, e2] at h7
      exact h7.cons_inv
omit [DecidableEq κ]
/-! ### At the operation -/
theorem setBlock_put (w : World) (b : Nat) (o : Obj) : setBlock w b o = w.putObj b o := rfl
theorem SL.mkM {ty : TypeId} (ek : κ → Value) (ev : α → Value) (ho : At ops N l o t (.makeMap ty none)) (hs : ∀ b, SubI Hs (mapC b ek ev [] :: H))
    (h : ∀ b, SL P ro K w0 N ops Hs items Q D ((t, .map (some b)) :: l) (mapC b ek ev [] :: H)) : SL P ro K w0 N ops Hs (.cons (false, o) items) Q D l H :=
  SL.step (fun b => .map (some b)) (fun b => mapC b ek ev [] :: H) ho rfl (fun a w ha hw => by
    refine ⟨w.heap.size, w.alloc (.map #[] 0), ?_, ?_⟩
    · simp [execOp, ho.op, Instr.makeMap]
    · have h2 := hw.alloc (.map #[] 0)
      refine h2.turn rfl rfl rfl (Nat.le_refl _) (fun _ _ _ => rfl) ⟨#[], 0, h2.holds _ (List.mem_cons_self ..), stamped_empty 0, by simp, by simp⟩ (fun j hj => ?_)
      exact ⟨.inl hj, (h2.foot _ (List.mem_cons_self ..) j hj).1⟩) hs h
variable [DecidableEq κ]
theorem SL.lkp {ty e : TypeId} {key : κ} {zv : α} (i : Nat) (E : MapE P k ek ev) (ho : At ops N l o t (.lookup ty x y false)) (ht : P.underlying ty = some (.map k e)) (hz : zer P e = some (ev zv)) (hx : evl l x = some (.map (some b))) (hy : evl l y = some (ek key))
    (hi : (bif tk then Hs else H)[i]? = some (mapC b ek ev m)) (h : SL P ro K w0 N ops Hs items Q D ((t, ev ((mget m key).getD zv)) :: l) H) : SL P ro K w0 N ops Hs (.cons (tk, o) items) Q D l H :=
  SL.val ho rfl (fun a w ha hsw => by
    obtain ⟨es, clock, hb, hr⟩ := hsw.holds _ (List.mem_of_getElem? hi)
    have := hr.look E hb ht hz key false
    simp [execOp, ho.op, ha.eval hx, ha.eval hy, this]) h
theorem SL.lkpOk {ty e : TypeId} {key : κ} {zv : α} (i : Nat) (E : MapE P k ek ev) (ho : At ops N l o t (.lookup ty x y true)) (ht : P.underlying ty = some (.map k e)) (hz : zer P e = some (ev zv)) (hx : evl l x = some (.map (some b))) (hy : evl l y = some (ek key))
    (hi : (bif tk then Hs else H)[i]? = some (mapC b ek ev m)) (h : SL P ro K w0 N ops Hs items Q D ((t, .tuple #[ev ((mget m key).getD zv), .bool (mget m key).isSome]) :: l) H) : SL P ro K w0 N ops Hs (.cons (tk, o) items) Q D l H :=
  SL.val ho rfl (fun a w ha hsw => by
    obtain ⟨es, clock, hb, hr⟩ := hsw.holds _ (List.mem_of_getElem? hi)
    have := hr.look E hb ht hz key true
    simp [execOp, ho.op, ha.eval hx, ha.eval hy, this]) h
theorem SL.mup {ty e : TypeId} {key : κ} {a : α} {z : Operand} (i : Nat) (E : MapE P k ek ev) (ho : At0 ops l o (.mapUpdate ty x y z)) (ht : P.underlying ty = some (.map k e)) (hx : evl l x = some (.map (some b))) (hy : evl l y = some (ek key)) (hz : evl l z = some (ev a))
    (hi : H[i]? = some (mapC b ek ev m)) (hroom : m.length < 9223372036854775807) (hs : SubI Hs (H.set i (mapC b ek ev (mput m key a)))) (h : SL P ro K w0 N ops Hs items Q D l (H.set i (mapC b ek ev (mput m key a)))) : SL P ro K w0 N ops Hs (.cons (false, o) items) Q D l H :=
  SL.step0 ho rfl (fun a' w ha hw => by
    obtain ⟨es, clock, hb, hr⟩ := hw.holds _ (List.mem_append_left _ (List.mem_of_getElem? hi))
    obtain ⟨es', clock', hrun, hr'⟩ := hr.upd E hb ht key a hroom
    obtain ⟨hlt, _⟩ := Array.getElem?_eq_some_iff.1 hb
    refine ⟨_, by simp [execOp, ho.op, ha.eval hx, ha.eval hy, ha.eval hz, hrun]; rfl, ?_⟩
    refine hw.turnAt (c := mapC b ek ev m) i hi rfl rfl rfl (by simp [setBlock_put]) (fun j hj hne => World.putObj_heap_other (fun e => hne (by rw [e]; rfl))) ⟨es', clock', World.putObj_heap_same hlt, hr'⟩ (fun j hj => ⟨.inl hj, ?_⟩)
    obtain rfl : j = b := hj
    simpa [setBlock_put] using hlt) hs h
theorem SL.mdl {ty k' e : TypeId} {key : κ} (i : Nat) (E : MapE P k ek ev) (hd : o.dst = none) (hop : o.op = .call { callee := .builtin .delete, args := #[x, y], argTypes := #[ty, k'] }) (hwt : wtd ops l o = some true) (hk : k' = k) (ht : P.underlying ty = some (.map k e)) (hx : evl l x = some (.map (some b))) (hy : evl l y = some (ek key))
    (hi : H[i]? = some (mapC b ek ev m)) (hs : SubI Hs (H.set i (mapC b ek ev (mdel m key)))) (h : SL P ro K w0 N ops Hs items Q D l (H.set i (mapC b ek ev (mdel m key)))) : SL P ro K w0 N ops Hs (.cons (false, o) items) Q D l H := by
  subst hk
  intro a w ha hw hs0
  have hw1 := wtd_wanted hwt ha.vals
  simp only [PL, hw1, if_true]
  obtain ⟨es, clock, hb, hr⟩ := hw.holds _ (List.mem_append_left _ (List.mem_of_getElem? hi))
  obtain ⟨es', hrun, hr'⟩ := hr.drop (rt := o.type) E hb ht key
  obtain ⟨hlt, _⟩ := Array.getElem?_eq_some_iff.1 hb
  have hw' : HpOk K w0 (H.set i (mapC b ek ev (mdel m key)) ++ [marks D]) (setBlock w b (.map es' clock)) := by
    refine hw.turnAt (c := mapC b ek ev m) i hi rfl rfl rfl (by simp [setBlock_put]) (fun j hj hne => World.putObj_heap_other (fun e => hne (by rw [e]; rfl))) ⟨es', clock, World.putObj_heap_same hlt, hr'⟩ (fun j hj => ⟨.inl hj, ?_⟩)
    obtain rfl : j = b := hj
    simpa [setBlock_put] using hlt
  refine ow_value (by rw [hop]; exact isDefer_ne rfl) (v := .tuple #[]) (w' := setBlock w b (.map es' clock)) ?_ ⟨hs.hs hw', ?_⟩
  · unfold execOp
    simp only [hop, resolve, invoke, builtin, Sem.run_bind, Sem.run_pure, Result.andThen_ok, List.map_toArray, List.map_cons, List.map_nil, ha.vals.eval hx, ha.vals.eval hy, hrun]
  · rw [hd]
    exact h _ _ ha hw' (hs.hs hw')
omit [DecidableEq κ]
theorem SL.mcl {ty e : TypeId} (i : Nat) (hd : o.dst = none) (hop : o.op = .call { callee := .builtin .clear, args := #[x], argTypes := #[ty] }) (hwt : wtd ops l o = some true) (ht : P.underlying ty = some (.map k e)) (hx : evl l x = some (.map (some b)))
    (hi : H[i]? = some (mapC b ek ev m)) (hs : SubI Hs (H.set i (mapC b ek ev []))) (h : SL P ro K w0 N ops Hs items Q D l (H.set i (mapC b ek ev []))) : SL P ro K w0 N ops Hs (.cons (false, o) items) Q D l H := by
  intro a w ha hw hs0
  have hw1 := wtd_wanted hwt ha.vals
  simp only [PL, hw1, if_true]
  obtain ⟨es, clock, hb, hr⟩ := hw.holds _ (List.mem_append_left _ (List.mem_of_getElem? hi))
  obtain ⟨hlt, _⟩ := Array.getElem?_eq_some_iff.1 hb
  have hw' : HpOk K w0 (H.set i (mapC b ek ev []) ++ [marks D]) (setBlock w b (.map #[] clock)) := by
    refine hw.turnAt (c := mapC b ek ev m) i hi rfl rfl rfl (by simp [setBlock_put]) (fun j hj hne => World.putObj_heap_other (fun e => hne (by rw [e]; rfl))) ⟨#[], clock, World.putObj_heap_same hlt, stamped_empty clock, by simp, by simp⟩ (fun j hj => ⟨.inl hj, ?_⟩)
    obtain rfl : j = b := hj
    simpa [setBlock_put] using hlt
  refine ow_value (by rw [hop]; exact isDefer_ne rfl) (v := .tuple #[]) (w' := setBlock w b (.map #[] clock)) ?_ ⟨hs.hs hw', ?_⟩
  · unfold execOp
    simp only [hop, resolve, invoke, builtin, Sem.run_bind, Sem.run_pure, Result.andThen_ok, List.map_toArray, List.map_cons, List.map_nil, ha.vals.eval hx]
    simp [Builtin.clear_, run_underlying ht, MapKept.run_getObj_map hb, MapKept.run_setObj_map _ hb, Result.andThen, setBlock]
  · rw [hd]
    exact h _ _ ha hw' (hs.hs hw')
theorem SL.lenM {ty e : TypeId} (i : Nat) (ho : At ops N l o t (.call { callee := .builtin .len, args := #[x], argTypes := #[ty] })) (ht : P.underlying ty = some (.map k e)) (hx : evl l x = some (.map (some b)))
    (hi : (bif tk then Hs else H)[i]? = some (mapC b ek ev m)) (h : SL P ro K w0 N ops Hs items Q D ((t, vI m.length) :: l) H) : SL P ro K w0 N ops Hs (.cons (tk, o) items) Q D l H :=
  SL.val ho rfl (fun a w ha hsw => by
    obtain ⟨es, clock, hb, hr⟩ := hsw.holds _ (List.mem_of_getElem? hi)
    have hsz := hr.size_eq
    simp only [execOp, ho.op, resolve, invoke, builtin, Builtin.len_]
    simp [ha.eval hx, run_underlying ht, MapKept.run_getObj_map hb, goInt, hsz]) h

/-! ### Ranges -/
/-- a range over a map that is under way: what has come out -/
def mapIt (b it : Nat) (ek : κ → Value) (ev : α → Value) (m done : List (κ × α)) : Chunk :=
  ⟨fun j => j = b ∨ j = it, fun w => ∃ es clock seen, w.heap[b]? = some (.map es clock) ∧ MapRep ek ev m es clock ∧ w.heap[it]? = some (.mapIter (some b) clock seen clock) ∧
    ∃ ord : List MapEntry, seen.toList = ord.map MapEntry.born ∧ (∀ e ∈ ord, e ∈ es.toList) ∧ (ord.map MapEntry.born).Nodup ∧ (ord.map fun e => (e.key, e.val)) = done.map fun p => (ek p.1, ev p.2),
   fun w w' h ⟨es, c, s, h1, h2, h3, h4⟩ => ⟨es, c, s, by rw [h _ (.inl rfl)]; exact h1, h2, by rw [h _ (.inr rfl)]; exact h3, h4⟩⟩
theorem SL.mrg {ty e : TypeId} (i : Nat) (ho : At ops N l o t (.range ty x)) (ht : P.underlying ty = some (.map k e)) (hx : evl l x = some (.map (some b))) (hi : H[i]? = some (mapC b ek ev m))
    (hs : ∀ it, SubI Hs (H.set i (mapIt b it ek ev m []))) (h : ∀ it, SL P ro K w0 N ops Hs items Q D ((t, vP it 0) :: l) (H.set i (mapIt b it ek ev m []))) : SL P ro K w0 N ops Hs (.cons (false, o) items) Q D l H :=
  SL.step (fun it => vP it 0) (fun it => H.set i (mapIt b it ek ev m [])) ho rfl (fun a w ha hw => by
    obtain ⟨es, clock, hb, hr⟩ := hw.holds _ (List.mem_append_left _ (List.mem_of_getElem? hi))
    obtain ⟨hlt, _⟩ := Array.getElem?_eq_some_iff.1 hb
    refine ⟨w.heap.size, w.alloc (.mapIter (some b) clock #[] clock), ?_, ?_⟩
    · simp [execOp, ho.op, Instr.range, ha.eval hx, run_underlying ht, MapKept.run_getObj_map hb]
    · refine hw.turnAt (c := mapC b ek ev m) i hi rfl rfl rfl (by simp) (fun j hj _ => heap_push_lt w _ j hj) ⟨es, clock, #[], (heap_push_lt w _ b hlt).trans hb, hr, ?_, [], by simp, by simp, by simp, by simp⟩ (fun j hj => ?_)
      · show (w.heap.push _)[w.heap.size]? = _
        simp
      · rcases hj with rfl | rfl
        · exact ⟨.inl rfl, by simp; omega⟩
        · exact ⟨.inr (Nat.le_refl _), by simp⟩) hs h
theorem SL.mnx {it : Nat} {done : List (κ × α)} (i : Nat) (E : MapE P k ek ev) (ho : At ops N l o t (.next x false)) (hx : evl l x = some (vP it 0)) (hi : H[i]? = some (mapIt b it ek ev m done)) (hs0 : SubI Hs H)
    (hA : done.Perm m → SL P ro K w0 N ops Hs items Q D ((t, .tuple #[.bool false]) :: l) H)
    (hB : ∀ p, p ∈ m → done.length < m.length → SubI Hs (H.set i (mapIt b it ek ev m (done ++ [p]))) ∧ SL P ro K w0 N ops Hs items Q D ((t, .tuple #[.bool true, ek p.1, ev p.2]) :: l) (H.set i (mapIt b it ek ev m (done ++ [p])))) :
    SL P ro K w0 N ops Hs (.cons (false, o) items) Q D l H := by
  intro a w ha hw hsw
  have hw1 := wtd_wanted ho.wt ha.vals
  simp only [PL, hw1, if_true]
  obtain ⟨es, clock, seen, hb, hr, hit, ord, ho1, ho2, ho3, ho4⟩ := hw.holds _ (List.mem_append_left _ (List.mem_of_getElem? hi))
  obtain ⟨hlt, _⟩ := Array.getElem?_eq_some_iff.1 hb
  obtain ⟨hlt2, _⟩ := Array.getElem?_eq_some_iff.1 hit
  have hlen : ord.length = done.length := by simpa using congrArg List.length ho4
  have hsz := hr.size_eq
  have hnd : ord.Nodup := nodup_of_map _ ho3
  rcases run_next_at (P := P) w o.type it b clock clock seen es clock hit hb hr.1.1 (Nat.le_refl _) with ⟨h0, hrun⟩ | ⟨e, he, w1, hal, hrun⟩
  · -- nothing is left
    have hall : ∀ e ∈ es.toList, e ∈ ord := fun e he => by
      have : leftOf es seen = #[] := Array.eq_empty_of_size_eq_zero h0
      unfold leftOf at this
      have h1 := Array.filter_eq_empty_iff.1 this e (by simpa using he)
      have h2 : e.born ∈ seen.toList := by simpa using h1
      rw [ho1] at h2
      obtain ⟨e', he', eb⟩ := List.mem_map.1 h2
      have h3 := ho2 e' he'
      have : e' = e := by
        have hn := hr.1.2.1
        obtain ⟨p, hp, e1⟩ := List.getElem_of_mem h3
        obtain ⟨q, hq, e2⟩ := List.getElem_of_mem he
        have := (List.getElem_inj (h₀ := by simpa using hp) (h₁ := by simpa using hq) hn).1 (by simp [e1, e2, eb])
        subst this
        rw [← e1, ← e2]
      rw [← this]; exact he'
    have hperm : ord.Perm es.toList := by
      have hen : es.toList.Nodup := nodup_of_map _ hr.1.2.1
      exact (List.perm_ext_iff_of_nodup hnd hen).2 fun e => ⟨ho2 e, hall e⟩
    have hdm : done.Perm m := by
      have h1 : (done.map fun p => (ek p.1, ev p.2)).Perm (m.map fun p => (ek p.1, ev p.2)) := by
        rw [← ho4]
        exact (hperm.map _).trans hr.2.2
      obtain ⟨fk, hfk⟩ := E.dk
      obtain ⟨fv, hfv⟩ := E.dv
      have h2 := h1.filterMap fun q : Value × Value => (fk q.1).bind fun a => (fv q.2).map fun b => (a, b)
      have h3 : ∀ l : List (κ × α), (l.map fun p => (ek p.1, ev p.2)).filterMap (fun q : Value × Value => (fk q.1).bind fun a => (fv q.2).map fun b => (a, b)) = l := by
        intro l
        induction l with
        | nil => rfl
        | cons p r ih => simp [hfk, hfv, ih]
      rwa [h3, h3] at h2
    refine ow_value (by rw [ho.op]; exact isDefer_ne rfl) (v := .tuple #[.bool false]) (w' := w) ?_ ⟨hs0.hs hw, hA hdm _ w (by rw [ho.dst]; exact ha.put (blt_lt ho.lt) _) hw (hs0.hs hw)⟩
    simp [execOp, ho.op, ha.vals.eval hx, hrun]
  · -- one more
    have hel : e ∈ es.toList := by
      unfold leftOf at he
      simp at he ⊢
      exact he.1
    have hens : e.born ∉ ord.map (·.born) := by
      unfold leftOf at he
      rw [← ho1]
      simp at he ⊢
      exact he.2
    obtain ⟨p, hp, e1, e2⟩ := hr.mem hel
    have hlt3 : done.length < m.length := by
      have hnd2 : (ord ++ [e]).Nodup := by
        refine List.nodup_append.2 ⟨hnd, by simp, ?_⟩
        intro x hx y hy
        simp only [List.mem_singleton] at hy
        subst hy
        intro exy
        exact hens (by rw [← exy]; exact List.mem_map_of_mem hx)
      have hsub : (ord ++ [e]) ⊆ es.toList := by
        intro x hx
        rcases List.mem_append.1 hx with hx | hx
        · exact ho2 x hx
        · simp only [List.mem_singleton] at hx
          subst hx; exact hel
      have := nodup_len hnd2 (fun a ha => hsub ha)
      simp at this
      omega
    obtain ⟨hsub, hcont⟩ := hB p hp hlt3
    have hhw1 : w1.os = w.os ∧ w1.tape = w.tape ∧ w1.output = w.output ∧ w1.heap = w.heap := by rcases hal with rfl | rfl <;> exact ⟨rfl, rfl, rfl, rfl⟩
    have hne : it ≠ b := fun e => by rw [e, hb] at hit; cases hit
    have hw' : HpOk K w0 (H.set i (mapIt b it ek ev m (done ++ [p])) ++ [marks D]) (setBlock w1 it (.mapIter (some b) clock (seen.push e.born) clock)) := by
      refine hw.turnAt (c := mapIt b it ek ev m done) i hi hhw1.1 hhw1.2.1 hhw1.2.2.1 (by simp [setBlock_put, hhw1.2.2.2]) (fun j hj hnf => ?_) ⟨es, clock, seen.push e.born, ?_, hr, World.putObj_heap_same (by rw [hhw1.2.2.2]; exact hlt2), ord ++ [e], by simp [ho1], ?_, ?_, by simp [ho4, e1, e2]⟩ (fun j hj => ⟨.inl hj, ?_⟩)
      · exact (World.putObj_heap_other (fun e => hnf (.inr e))).trans (by rw [hhw1.2.2.2])
      · exact (World.putObj_heap_other (fun e => hne e.symm)).trans (by rw [hhw1.2.2.2]; exact hb)
      · intro x hx
        rcases List.mem_append.1 hx with hx | hx
        · exact ho2 x hx
        · simp only [List.mem_singleton] at hx
          subst hx; exact hel
      · rw [List.map_append]
        refine List.nodup_append.2 ⟨ho3, by simp, ?_⟩
        intro x hx y hy
        simp only [List.map_cons, List.map_nil, List.mem_singleton] at hy
        subst hy
        intro exy
        exact hens (by rw [← exy]; exact hx)
      · rcases hj with rfl | rfl
        · simpa [setBlock_put, hhw1.2.2.2] using hlt
        · simpa [setBlock_put, hhw1.2.2.2] using hlt2
    refine ow_value (by rw [ho.op]; exact isDefer_ne rfl) (v := .tuple #[.bool true, ek p.1, ev p.2]) (w' := setBlock w1 it (.mapIter (some b) clock (seen.push e.born) clock)) ?_ ⟨hsub.hs hw', hcont _ _ (by rw [ho.dst]; exact ha.put (blt_lt ho.lt) _) hw' (hsub.hs hw')⟩
    simp [execOp, ho.op, ha.vals.eval hx, hrun, e1, e2]
theorem SL.mer {it : Nat} {done : List (κ × α)} {p : κ × α} (i : Nat) (ho : At ops N l o t (.entry x)) (hx : evl l x = some (vP it 0)) (hi : (bif tk then Hs else H)[i]? = some (mapIt b it ek ev m (done ++ [p])))
    (h : SL P ro K w0 N ops Hs items Q D ((t, .tuple #[ek p.1, ev p.2]) :: l) H) : SL P ro K w0 N ops Hs (.cons (tk, o) items) Q D l H :=
  SL.val ho rfl (fun a w ha hsw => by
    obtain ⟨es, clock, seen, hb, hr, hit, ord, ho1, ho2, ho3, ho4⟩ := hsw.holds _ (List.mem_of_getElem? hi)
    have hne : ord ≠ [] := fun e => by rw [e] at ho4; simp at ho4
    obtain ⟨ord', e, rfl⟩ : ∃ o' e, ord = o' ++ [e] := ⟨_, _, (List.dropLast_concat_getLast hne).symm⟩
    simp only [List.map_append, List.map_cons, List.map_nil] at ho4 ho1
    have h4 := List.append_inj' ho4 rfl
    simp only [List.cons.injEq, Prod.mk.injEq, and_true] at h4
    have hse : seen = (ord'.map (·.born)).toArray.push e.born := by
      apply Array.ext'
      simp [ho1]
    rw [hse] at hit
    have := run_entry_at (P := P) w it b clock _ es clock e hit hb (ho2 e (by simp)) hr.1.2.1
    simp [execOp, ho.op, ha.eval hx, this, h4.2.1, h4.2.2]) h
/-- a range that is over: the map alone -/
theorem HpOk.itOff {w : World} {M : List Chunk} {it : Nat} {done : List (κ × α)} (i : Nat) (h : HpOk K w0 (H ++ M) w) (hi : H[i]? = some (mapIt b it ek ev m done)) : HpOk K w0 (H.set i (mapC b ek ev m) ++ M) w := by
  obtain ⟨es, clock, seen, hb, hr, _⟩ := h.holds _ (List.mem_append_left _ (List.mem_of_getElem? hi))
  exact h.turnAt (c := mapIt b it ek ev m done) i hi rfl rfl rfl (Nat.le_refl _) (fun _ _ _ => rfl) ⟨es, clock, hb, hr⟩ (fun j hj => ⟨.inl (.inl hj), (h.foot _ (List.mem_append_left _ (List.mem_of_getElem? hi)) j (.inl hj)).1⟩)
theorem SX.itOff {c : Code} {it : Nat} {done : List (κ × α)} (i : Nat) (hi : H[i]? = some (mapIt b it ek ev m done)) (h : SX P ro K w0 N c Q D l (H.set i (mapC b ek ev m))) : SX P ro K w0 N c Q D l H :=
  fun a w ha hw => h a w ha (hw.itOff i hi)
end maps
end Go.Proofs.YtddjneafgddlcaaDoor

/- The engine: slices in cells, rows of any length made, stores into maps, in "= some" form; the devices' structures. No condition beyond those stated. -/
namespace Go.Proofs.YtddjneafgddlcaaDoor
open Go Go.MapKept Go.ChangeMaps

variable {P : Program} {ro : Option Nat} {K : Nat → Prop} {w0 : World} {N : Nat} {Q : Post} {D : List Nat} {l l' : Tm} {H H' Hs L : List Chunk} {ops : Array Oper} {items : Its}
variable {tk : Bool} {o : Oper} {t : Nat} {v : Value} {x y z : Operand}

theorem nthI_mem {α : Type} {l : List α} {i : Int} {a : α} (h : nthI l i = some a) : a ∈ l := List.mem_of_getElem? (nthI_some h).2.2
/-! ### Slices' values in cells -/
theorem SL.rowV {α : Type} {e : TypeId} {sz : Nat} {enc : α → List Value} {xs : List α} (i : Nat) (hi : H[i]? = some (rowT e sz v enc xs)) (h : v.cells = #[v] → v.oneCell' = true → SL P ro K w0 N ops Hs items Q D l H) : SL P ro K w0 N ops Hs items Q D l H := by
  intro a w ha hw hs
  have hrow : w.ownsRow 0 e sz v xs.length (xs.flatMap enc) := hw.holds _ (List.mem_append_left _ (List.mem_of_getElem? hi))
  rcases hrow.2 with ⟨rfl, _⟩ | ⟨g, cap, cur, rfl, _⟩
  · exact h rfl rfl a w ha hw hs
  · exact h rfl rfl a w ha hw hs
theorem SL.slV1 {α : Type} {sz : Nat} {enc : α → List Value} {xs : List α} (hk : SlOf K w0 enc sz v xs) (h : v.cells = #[v] → v.oneCell' = true → SL P ro K w0 N ops Hs items Q D l H) : SL P ro K w0 N ops Hs items Q D l H := by
  rcases hk.at_ with ⟨_, rfl, _⟩ | ⟨b, off, cap, rfl, _⟩
  · exact h rfl rfl
  · exact h rfl rfl
theorem SL.boxR {ty : TypeId} (hv : v.cells = #[v]) (ho : At ops N l o t (.box ty x)) (hx : evl l x = some v) (hs : ∀ b, SubI Hs (own b (.cells #[v] ty) :: H))
    (h : ∀ b, SL P ro K w0 N ops Hs items Q D ((t, vP b 0) :: l) (own b (.cells #[v] ty) :: H)) : SL P ro K w0 N ops Hs (.cons (false, o) items) Q D l H :=
  SL.box ho hx (by rw [hv]; exact hs) (by rw [hv]; exact h)
theorem SL.stR {b off : Nat} {c : Array Value} {e ty : TypeId} (i : Nat) (ho : At0 ops l o (.store ty x y)) (hx : evl l x = some (vP b off)) (hy : evl l y = some v) (hi : H[i]? = some (own b (.cells c e)))
    (hn : tsz P ty = some 1) (hv : v.cells = #[v]) (h1 : v.oneCell' = true) (hle : Nat.ble (off + 1) c.size = true)
    (hs : SubI Hs (H.set i (own b (.cells (setL c off [v]) e)))) (h : SL P ro K w0 N ops Hs items Q D l (H.set i (own b (.cells (setL c off [v]) e)))) : SL P ro K w0 N ops Hs (.cons (false, o) items) Q D l H :=
  SL.st i ho hx hy hi hn (by rw [hv]; rfl) (by rw [hv]; simp [h1]) hle (by rw [hv]; exact hs) (by rw [hv]; exact h)
/-! ### Makes of any length -/
def mkI {α : Type} (by_ : Nat) (n : Int) (a : α) : Option (List α) := if 0 ≤ n ∧ by_ * n.toNat ≤ 281474976710656 ∧ n ≤ 9223372036854775807 then some (List.replicate n.toNat a) else none
theorem mkI_some {α : Type} {by_ : Nat} {n : Int} {a : α} {xs : List α} (h : mkI by_ n a = some xs) : n = (n.toNat : Int) ∧ by_ * n.toNat ≤ 281474976710656 ∧ n.toNat ≤ 9223372036854775807 ∧ xs = List.replicate n.toNat a := by
  unfold mkI at h
  split at h
  · rename_i hc
    exact ⟨by omega, hc.2.1, by omega, (Option.some.inj h).symm⟩
  · cases h
theorem made_one {α : Type} {enc : α → List Value} {a : α} {zv : Value} (hz : zv.cells.toList = enc a) (h1 : (enc a).length = 1) (n : Nat) : (madeCells zv.cells (n * 1)).toList = (List.replicate n a).flatMap enc := by
  obtain ⟨u, hu⟩ := List.length_eq_one_iff.1 h1
  have hs : zv.cells = #[u] := by apply Array.ext'; rw [hz, hu]
  rw [hs]
  have hrep : (List.replicate n a).flatMap enc = List.replicate n u := by
    induction n with
    | zero => rfl
    | succ k ih => rw [List.replicate_succ, List.flatMap_cons, ih, hu, List.replicate_succ]; rfl
  rw [hrep]
  apply List.ext_getElem
  · simp [madeCells]
  · intro i h2 h3
    simp [madeCells, Nat.mod_one]
theorem SL.mkN {α : Type} {e ty : TypeId} {by_ : Nat} {zv : Value} {n : Int} {a : α} {xs : List α} (hn : mkI by_ n a = some xs) (enc : α → List Value) (ho : At ops N l o t (.makeSlice ty x x)) (hty : P.underlying ty = some (.slice e)) (hsz : tsz P e = some 1) (hby : byt P e = some by_) (hze : zer P e = some zv)
    (hx : evl l x = some (vI n)) (hza : zv.cells.toList = enc a) (h1 : (enc a).length = 1) (hzs : zv.cells.size = 1)
    (hs : ∀ v', SubI Hs (rowT e 1 v' enc xs :: H)) (h : ∀ v', SL P ro K w0 N ops Hs items Q D ((t, v') :: l) (rowT e 1 v' enc xs :: H)) : SL P ro K w0 N ops Hs (.cons (false, o) items) Q D l H := by
  obtain ⟨h0, hb, h63, rfl⟩ := mkI_some hn
  generalize n.toNat = m at h0 hb h63 hs h
  subst h0
  refine SL.step (fun b => .slice (some ⟨b, 0, none⟩) m m) (fun b => rowT e 1 (.slice (some ⟨b, 0, none⟩) m m) enc (List.replicate m a) :: H) ho rfl (fun a' w ha hw => ?_) (fun b => hs _) (fun b => h _)
  obtain ⟨ii, hii, e1, e2, e3⟩ := info_of hsz hby hze
  have hb' : (ii.bytes : Int) * (m : Int) ≤ 281474976710656 := by rw [e2, ← Int.natCast_mul]; omega
  have hr := run_make (P := P) w ty e ii zv hty hii e3 .i64 .i64 m m (by omega) (by omega) hb' (by omega)
  rw [e1] at hr
  simp only [Int.toNat_natCast] at hr
  refine ⟨w.heap.size, w.alloc (.cells (madeCells zv.cells (m * 1)) e), ?_, ?_⟩
  · unfold execOp
    simp only [ho.op, ha.eval hx, Sem.run_bind, hr, Result.andThen_ok, Sem.run_pure]
  · have h2 := hw.alloc (.cells (madeCells zv.cells (m * 1)) e)
    have hlen : ((List.replicate m a).flatMap enc).length = m * 1 := by simp [h1]
    refine h2.turn rfl rfl rfl (Nat.le_refl _) (fun _ _ _ => rfl) ⟨by simp [h1], .inr ⟨w.heap.size, m, _, by simp, Nat.zero_le _, h2.holds _ (List.mem_cons_self ..), by simp, by simp only [maxLen]; omega, ?_, ?_⟩⟩ (fun k hk => ?_)
    · simp [madeCells]
    · rw [made_one hza h1]
      rw [List.take_of_length_le (by simp [h1])]
    · have hkb : k = w.heap.size := by simp [rowT, Value.ownBlock] at hk; exact hk.symm
      subst hkb
      exact ⟨.inl rfl, (h2.foot _ (List.mem_cons_self ..) _ rfl).1⟩
/-! ### Stores into maps -/
def mputI {κ α : Type} [DecidableEq κ] (m : List (κ × α)) (k : κ) (a : α) : Option (List (κ × α)) := if m.length < 9223372036854775807 then some (mput m k a) else none
theorem mputI_some {κ α : Type} [DecidableEq κ] {m us : List (κ × α)} {k : κ} {a : α} (h : mputI m k a = some us) : m.length < 9223372036854775807 ∧ us = mput m k a := by
  unfold mputI at h
  split at h
  · exact ⟨by assumption, (Option.some.inj h).symm⟩
  · cases h
theorem SL.mupN {κ α : Type} [DecidableEq κ] {ek : κ → Value} {ev : α → Value} {m us : List (κ × α)} {k : TypeId} {b : Nat} {ty e : TypeId} {key : κ} {a : α} (i : Nat) (hn : mputI m key a = some us) (E : MapE P k ek ev) (ho : At0 ops l o (.mapUpdate ty x y z)) (ht : P.underlying ty = some (.map k e)) (hx : evl l x = some (.map (some b))) (hy : evl l y = some (ek key)) (hz : evl l z = some (ev a))
    (hi : H[i]? = some (mapC b ek ev m)) (hs : SubI Hs (H.set i (mapC b ek ev us))) (h : SL P ro K w0 N ops Hs items Q D l (H.set i (mapC b ek ev us))) : SL P ro K w0 N ops Hs (.cons (false, o) items) Q D l H := by
  obtain ⟨hr, rfl⟩ := mputI_some hn
  exact SL.mup i E ho ht hx hy hz hi hr hs h
/-! ### The devices -/
structure RegA where
  cnt : UInt64
  tag : List UInt8
  boots : UInt32
deriving DecidableEq
def encReg (r : RegA) : List Value := [vU64 r.cnt, vS r.tag, vU32 r.boots]
structure OpA where
  act : Int
  page : UInt32
  num : Int
  txt : List UInt8
  lv : Value
  fates : List Int
def encOp (x : OpA) : List Value := [vI x.act, vU32 x.page, vI x.num, vS x.txt, x.lv]
structure DevA where
  off : Bool
  isCut : Bool
  lasts : Int
  counts : Int
  blocks : List (List UInt8)
  pend : List (UInt32 × List UInt8)
  bad : List (UInt32 × Bool)
  rcnt : UInt64
  rtag : List UInt8
  rboots : UInt32
structure RDevA where
  blk : List (List UInt8)
  pnd : List (List UInt8)
  bads : List Bool
  rcnt : UInt64
  rtag : List UInt8
  rboots : UInt32
  left : Int
  off : Bool
end Go.Proofs.YtddjneafgddlcaaDoor

/- The engine: slices cut at their beginning, copy into a block of the call's own. No condition beyond those stated. -/
namespace Go.Proofs.YtddjneafgddlcaaDoor
open Go

variable {P : Program} {ro : Option Nat} {K : Nat → Prop} {w0 : World} {N : Nat} {Q : Post} {D : List Nat} {l l' : Tm} {H H' Hs L : List Chunk} {ops : Array Oper} {items : Its}
variable {tk : Bool} {o : Oper} {t : Nat} {v : Value} {x y z : Operand}

theorem SL.slLR {b off n c sz : Nat} {k : IntKind} {j : Int} {ty e : TypeId} (q : Nat) (ho : At ops N l o t (.slice ty x (some z) none none)) (hty : P.underlying ty = some (.slice e)) (hsz : tsz P e = some sz) (hx : evl l x = some (.slice (some ⟨b, off, none⟩) n c)) (hz : evl l z = some (.int k j))
    (hj : j = (q : Int)) (hq : q ≤ n) (hqc : q < c) (h : SL P ro K w0 N ops Hs items Q D ((t, .slice (some ⟨b, off + q * sz, none⟩) (n - q) (c - q)) :: l) H) : SL P ro K w0 N ops Hs (.cons (tk, o) items) Q D l H :=
  SL.val ho rfl (fun a w ha _ => by
    subst hj
    simp only [execOp, ho.op, Instr.sliceAt, Instr.slice, Option.map]
    simp [ha.eval hx, ha.eval hz, run_underlying hty, run_sizeOf hsz, Instr.sliceBounds, Instr.sliceBound, asIntOf, hq, Addr.add_mk]; omega) h
/-- copy into a block of the call's own -/
theorem SL.cpO {b off dl dc sl sc : Nat} {c : Array Value} {e ty ty' : TypeId} {ad : Addr} (i : Nat) (news : List Value) (ho : At ops N l o t (.call { callee := .builtin .copy, args := #[x, y], argTypes := #[ty, ty'] })) (hty : P.underlying ty = some (.slice e)) (hsz : tsz P e = some 1)
    (hx : evl l x = some (.slice (some ⟨b, off, none⟩) dl dc)) (hy : evl l y = some (.slice (some ad) sl sc)) (hi : H[i]? = some (own b (.cells c e)))
    (hn : news.length = Nat.min sl dl) (hnews : ∀ w, HpS K w0 H w → ∀ j u, news[j]? = some u → w.cell? (ad.add j) = some u) (h1 : ∀ u ∈ news, u.oneCell' = true) (hle : off + news.length ≤ c.size)
    (hs : SubI Hs (H.set i (own b (.cells (setL c off news) e)))) (h : SL P ro K w0 N ops Hs items Q D ((t, vI news.length) :: l) (H.set i (own b (.cells (setL c off news) e)))) : SL P ro K w0 N ops Hs (.cons (false, o) items) Q D l H :=
  SL.step (fun _ : Unit => vI news.length) (fun _ => H.set i (own b (.cells (setL c off news) e))) ho rfl (fun a w ha hw => by
    have hb : w.heap[b]? = some (.cells c e (0, 0)) := hw.holds _ (List.mem_append_left _ (List.mem_of_getElem? hi))
    obtain ⟨w', hrun, hw'⟩ := run_storeCells (P := P) news off 0 c w hb (by simpa using hle) h1
    have hl := run_loadCells_list (P := P) w ad news (hnews w hw.dropMarks.s)
    have hs1 := run_sizeOf (w := w) hsz
    refine ⟨(), w', ?_, ?_⟩
    · unfold execOp
      simp only [ho.op, resolve, Sem.run_bind, Sem.run_pure, Result.andThen_ok, invoke]
      simp only [List.map_toArray, List.map_cons, List.map_nil, ha.eval hx, ha.eval hy]
      simp [builtin, Builtin.copy_, run_underlying hty, Builtin.lenOf, Builtin.firstCells, hs1, ← hn, hl, hrun, goInt]
    · rw [hw']
      exact hw.putAt i hi) (fun _ => hs) (fun _ => h)
theorem SL.ownTn {α : Type} {b n : Nat} {c : Array Value} {e : TypeId} (enc : α → List Value) (sz : Nat) (xs : List α) (hn : xs.length = n) (hc : c.toList = xs.flatMap enc) (hl : ∀ x, (enc x).length = sz) (hm : n ≤ 1000000)
    (h : SL P ro K w0 N ops Hs items Q D l (rowT e sz (.slice (some ⟨b, 0, none⟩) n n) enc xs :: H)) : SL P ro K w0 N ops Hs items Q D l (own b (.cells c e) :: H) := by
  subst hn
  exact SL.ownT enc sz xs hc hl (Nat.ble_eq_true_of_le hm) h
end Go.Proofs.YtddjneafgddlcaaDoor

/- The engine: a range over a function that reads, ahead of its first round, chunks that the body turns. No condition beyond those stated. -/
namespace Go.Proofs.YtddjneafgddlcaaDoor
open Go

variable {P : Program} {ro : Option Nat} {K : Nat → Prop} {w0 : World} {N : Nat} {Q : Post} {D : List Nat} {l l' : Tm} {H H' Hs L : List Chunk} {ops : Array Oper} {items : Its}

/-- as 'Seq', but of chunks G0 that lie there when it begins -/
def SeqAt (P : Program) (K : Nat → Prop) (w0 : World) (f : FuncId) (cap : List Value) (Hit G0 : List Chunk) {α : Type} (enc : α → List Value) (xs : List α) : Prop :=
  ∀ (lp : Nat) (J : List α → List Chunk → Prop) (X : List Chunk → Prop) (T : List Chunk) (rc : Chunk),
    (∀ pre x suf, xs = pre ++ x :: suf → ∀ G, J pre G → ∀ M, Yld P K w0 lp (enc x) (G ++ M) fun b G' => ∃ G1, G' = G1 ++ M ∧ (if b then J (pre ++ [x]) G1 else X G1)) →
    J [] (rc :: G0) → Con P K w0 f (vY lp :: cap) (Hit ++ (rc :: G0)) T fun _ M => J xs M ∨ X M
/-- **for .. := range g { .. }**, outside every round -/
theorem SX.rangeAt {α : Type} {g : Operand} {ps : Array Tmp} {assign body : Code} {f : FuncId} {cap : List Value} {Hit : List Chunk} {enc : α → List Value} (xs : List α) {G0 : List Chunk}
    (J : List α → List Chunk → Prop) (X : Code → List Chunk → Prop)
    (hg : evl l g = some (.func (.func f) #[] cap.toArray)) (hf : callable P f = true) (hps : ps.toList.all (fun p => Nat.blt p N) = true) (hlen : ∀ x, (enc x).length = ps.size)
    (hseq : SeqAt P K w0 f cap Hit G0 enc xs) (hH : H = Hit ++ G0) (h0 : J [] G0)
    (hbody : ∀ pre x suf G, xs = pre ++ x :: suf → J pre G → ∀ r lp Rest, SX P (some lp) K w0 N assign (bgn P lp body (rnd K w0 J X pre x (Tl r lp Rest .busy))) [] (parTm ps.toList (enc x) l) (G ++ Tl r lp Rest .ready))
    (hdone : ∀ G D, J xs G → SQ K w0 N Q .normal D l G)
    (hstop : ∀ c G D, X c G → SX P none K w0 N c Q D l G) : SX P none K w0 N (.rangeFunc g ps assign body) Q D l H := by
  intro a w ha hw
  subst hH
  refine wpIn_rangeFunc fun fn _ => ?_
  let r : Loop := { state := .ready, pending := none, fn := fn, tmps := a.tmps, params := ps, assign := assign, body := body, defers := w.heap.size }
  refine ⟨w.heap.size + 1, [{ target := .collected w.heap.size, args := #[] }], (w.alloc (.deferred (some []))).alloc (.loop r), { target := .fn (.func f) cap.toArray, args := #[vY (w.heap.size + 1)] }, (w.alloc (.deferred (some []))).alloc (.loop r),
    f, (vY (w.heap.size + 1) :: cap).toArray, (w.alloc (.deferred (some []))).alloc (.loop r), ?_, ?_, fun _ _ => Fc_fn _ _, ?_, fun hd => by simp [Fc_depth] at hd, ?_⟩
  · rw [Fc_round]; exact run_enterLoop_outer fn a.tmps ps assign body
  · have hev := ha.vals.eval hg
    simp [resolve, hev, Deferred.ofValue]
    rfl
  · simp [invoke, run_callFunc hf]
  · -- the call
    generalize hlp : w.heap.size + 1 = lp
    have hw1 : HpOk K w0 ((Hit ++ (Tl r lp [] .ready ++ G0)) ++ [marks (w.heap.size :: D)]) ((w.alloc (.deferred (some []))).alloc (.loop r)) := by
      have h1 := (hw.alloc (.deferred (some []))).alloc (.loop r)
      rw [World.size_alloc, hlp] at h1
      -- own lp record :: own mark :: ((Hit ++ G0) ++ [marks D])
      have hm : HpOk K w0 (marks (w.heap.size :: D) :: own lp (.loop r) :: (Hit ++ G0)) ((w.alloc (.deferred (some []))).alloc (.loop r)) := by
        have hp : (own lp (.loop r) :: own w.heap.size (.deferred (some [])) :: (Hit ++ G0 ++ [marks D])).Perm (own w.heap.size (.deferred (some [])) :: marks D :: own lp (.loop r) :: (Hit ++ G0)) := by
          refine (List.Perm.swap _ _ _).trans (List.Perm.cons _ ?_)
          refine (List.Perm.cons _ (List.perm_append_comm (l₁ := Hit ++ G0) (l₂ := [marks D]))).trans ?_
          exact List.Perm.swap _ _ _
        have h2 := h1.perm hp
        have hpw := List.pairwise_cons.1 h2.disj
        have hpw2 := List.pairwise_cons.1 hpw.2
        have hmk := h2.holds (marks D) (by simp)
        have hnew := h2.holds (own w.heap.size (.deferred (some []))) (List.mem_cons_self ..)
        refine ⟨h2.os, h2.tape, h2.output, h2.size, h2.klt, h2.keep, ?_, ?_, ?_⟩
        · intro c hc
          rcases List.mem_cons.1 hc with rfl | hc
          · refine ⟨List.nodup_cons.2 ⟨fun hin => hpw.1 (marks D) (by simp) _ rfl hin, hmk.1⟩, fun b hb => ?_⟩
            rcases List.mem_cons.1 hb with rfl | hb
            · exact hnew
            · exact hmk.2 b hb
          · exact h2.holds c (by simp only [List.mem_cons] at hc ⊢; exact .inr (.inr hc))
        · intro c hc b hb
          rcases List.mem_cons.1 hc with rfl | hc
          · rcases List.mem_cons.1 hb with rfl | hb
            · exact h2.foot (own w.heap.size (.deferred (some []))) (List.mem_cons_self ..) _ rfl
            · exact h2.foot (marks D) (by simp) b hb
          · exact h2.foot c (by simp only [List.mem_cons] at hc ⊢; exact .inr (.inr hc)) b hb
        · refine List.pairwise_cons.2 ⟨fun c hc b hb hb' => ?_, hpw2.2⟩
          rcases List.mem_cons.1 hb with rfl | hb
          · exact hpw.1 c (List.mem_cons_of_mem _ hc) _ rfl hb'
          · exact hpw2.1 c hc b hb hb'
      refine hm.perm ?_
      have e : Tl r lp [] .ready = [own lp (.loop r)] := rfl
      rw [e]
      refine (List.perm_append_comm (l₁ := [marks (w.heap.size :: D)])).trans (List.Perm.append_right _ ?_)
      simpa using (List.perm_middle (l₁ := Hit) (a := own lp (.loop r)) (l₂ := G0)).symm
    have hN : ∀ p ∈ ps.toList, p < a.tmps.size := fun p hp => by
      rw [ha.size]
      exact blt_lt (List.all_eq_true.1 hps p hp)
    let D' := w.heap.size :: D
    have hcon := hseq lp (fun pre Gx => ∃ G, J pre G ∧ Gx = Tl r lp [] .ready ++ G) (fun Gx => ∃ c G, X c G ∧ Gx = own lp (.loop { r with state := .done, pending := some c }) :: G) [marks D'] (own lp (.loop { r with state := .ready, pending := none })) ?_ ⟨G0, h0, rfl⟩
    · refine Fc_calls none ((hcon _ hw1).mono ?_)
      rintro e w' ⟨v, M, rfl, hM, hw'⟩
      have hD : TmOk N D' l { tmps := a.tmps, defers := [{ target := .collected w.heap.size, args := #[] }] ++ a.defers } := ⟨ha.size, by simp [ha.defers, D', mark], ha.vals⟩
      rcases hM with ⟨G, hJ, rfl⟩ | ⟨c, G, hX, rfl⟩
      · have hl : w'.heap[lp]? = some (.loop { r with state := .ready, pending := none }) := hw'.holds (own lp _) (by simp [Tl])
        refine ⟨_, _, run_endLoop hl (by simp), ?_⟩
        refine hdone G D' hJ _ _ hD ?_
        have h3 := (show HpOk K w0 (own lp (.loop { r with state := .ready, pending := none }) :: (G ++ [marks D'])) w' from hw').put (o' := .loop { r with state := .exhausted, pending := none })
        exact h3.sublist (List.sublist_cons_self _ _)
      · have hl : w'.heap[lp]? = some (.loop { r with state := .done, pending := some c }) := hw'.holds (own lp _) (by simp)
        refine ⟨_, _, run_endLoop hl (by simp), ?_⟩
        refine hstop c G D' hX _ _ hD ?_
        have h3 := (show HpOk K w0 (own lp (.loop { r with state := .done, pending := some c }) :: (G ++ [marks D'])) w' from hw').put (o' := .loop { r with state := .exhausted, pending := some c })
        exact h3.sublist (List.sublist_cons_self _ _)
    · -- a round
      rintro pre x suf hxs Gx ⟨G, hJ, rfl⟩ M w₁ hw₁
      have hl : w₁.heap[lp]? = some (.loop { r with state := .ready, pending := none }) := hw₁.holds (own lp _) (by simp [Tl])
      refine ⟨_, _, _, _, run_yield hl (by simp [hlen]; rfl), ?_⟩
      refine roundIn_of_wpIn trivial ?_
      have hw₂ : HpOk K w0 ((G ++ Tl r lp M .ready) ++ [marks []]) w₁ := by
        refine HpOk.marks0 (hw₁.perm ?_)
        show (own lp _ :: (G ++ M)).Perm (G ++ own lp _ :: M)
        exact List.perm_middle.symm
      have hzip : ((ps.zip (enc x).toArray).foldl (fun tmps (t, a) => tmps.setIfInBounds t a) a.tmps) = ((ps.toList.zip (enc x)).foldl (fun tm (t, a) => tm.setIfInBounds t a) a.tmps) := by
        rw [← Array.foldl_toList, Array.toList_zip]
      have hb := hbody pre x suf G hxs hJ r lp M { tmps := (ps.zip (enc x).toArray).foldl (fun tmps (t, a) => tmps.setIfInBounds t a) a.tmps, defers := [] } w₁
        ⟨by rw [hzip, foldl_set_size]; exact ha.size, rfl, by rw [hzip]; exact parTm_ok ps.toList (enc x) l a.tmps hN ha.vals⟩ hw₂
      refine wpIn_mono hb ?_
      intro e a' w' q
      cases e with
      | normal =>
        obtain ⟨w₃, hbr, hbody'⟩ := q
        refine ⟨w₃, hbr, wpIn_mono hbody' ?_⟩
        have fin : ∀ (jump : Option Code) (G' : List Chunk) (w₄ : World), HpOk K w0 (G' ++ Tl r lp M .busy) w₄ →
            (Instr.endRound lp jump).run P w₄ = .ok (.bool jump.isNone) (w₄.putObj lp (.loop { r with state := if jump.isNone then .ready else .done, pending := jump })) ∧
            HpOk K w0 ((own lp (.loop { r with state := if jump.isNone then .ready else .done, pending := jump }) :: G') ++ M) (w₄.putObj lp (.loop { r with state := if jump.isNone then .ready else .done, pending := jump })) := by
          intro jump G' w₄ h4
          have hl4 : w₄.heap[lp]? = some (.loop { r with state := .busy, pending := none }) := h4.holds (own lp _) (by simp [Tl])
          refine ⟨run_endRound (r := { r with state := .busy, pending := none }) jump hl4, ?_⟩
          have h5 : HpOk K w0 (own lp (.loop { r with state := .busy, pending := none }) :: (G' ++ M)) w₄ := h4.perm List.perm_middle
          exact h5.put
        intro e₂ a₂ w₄ q₂
        cases e₂ with
        | normal =>
          obtain ⟨G', hJ', h4⟩ := q₂
          obtain ⟨hrun, h5⟩ := fin none G' w₄ h4
          exact ⟨_, _, hrun, _, _, rfl, ⟨_, rfl, by simp only [Option.isNone_none, if_true]; exact ⟨G', hJ', rfl⟩⟩, h5⟩
        | ret =>
          obtain ⟨G', hX', h4⟩ := q₂
          obtain ⟨hrun, h5⟩ := fin (some .ret) G' w₄ h4
          exact ⟨_, _, hrun, _, _, rfl, ⟨_, rfl, by simp only [Option.isNone_some, Bool.false_eq_true, if_false]; exact ⟨_, G', hX', rfl⟩⟩, h5⟩
        | exit id =>
          obtain ⟨G', hX', h4⟩ := q₂
          obtain ⟨hrun, h5⟩ := fin (some (.exit id)) G' w₄ h4
          exact ⟨_, _, hrun, _, _, rfl, ⟨_, rfl, by simp only [Option.isNone_some, Bool.false_eq_true, if_false]; exact ⟨_, G', hX', rfl⟩⟩, h5⟩
        | goto _ => exact q₂.elim
        | panic _ => exact q₂.elim
        | outgrown => exact q₂.elim
      | exit _ => exact q.elim
      | goto _ => exact q.elim
      | ret => exact q.elim
      | panic _ => exact q.elim
      | outgrown => exact q.elim
def rangeL {α σ R : Type} (body : (σ → Option R) → α → σ → Option R) (fin : σ → Option R) : List α → σ → Option R
  | [], s => fin s
  | x :: r, s => body (rangeL body fin r) x s
theorem suf_eq {α : Type} {xs pre suf suf' : List α} {x : α} (h : xs = pre ++ x :: suf) (h' : xs = (pre ++ [x]) ++ suf') : suf' = suf := by
  rw [h, List.append_assoc] at h'
  simpa using (List.append_cancel_left h').symm
end Go.Proofs.YtddjneafgddlcaaDoor

/- The engine: a row that is cut at its beginning; calls that yield nil; ranges that are left in their first round. No condition beyond those stated. -/
namespace Go.Proofs.YtddjneafgddlcaaDoor
open Go

variable {P : Program} {ro : Option Nat} {K : Nat → Prop} {w0 : World} {N : Nat} {Q : Post} {D : List Nat} {l l' : Tm} {H H' Hs L : List Chunk} {ops : Array Oper} {items : Its}
variable {tk : Bool} {o : Oper} {t : Nat} {v : Value} {x y z : Operand}

/-- a pointer that is nil -/
def nilO {α : Type} : Option α → Option Unit
  | none => some ()
  | some _ => none
theorem nilO_no {α : Type} {o : Option α} {d : α} {u : Unit} (h : nilO o = some u) (h' : o = some d) : False := by
  rw [h'] at h; cases h
theorem nilO_none {α : Type} {o : Option α} {u : Unit} (h : nilO o = some u) : o = none := by
  cases o with
  | none => rfl
  | some d => cases h
/-- a place ahead of a length -/
def ltI (j : Int) (n : Nat) : Option Unit := if j < (n : Int) then some () else none
theorem ltI_some {j : Int} {n : Nat} {u : Unit} (h : ltI j n = some u) : j < (n : Int) := by
  unfold ltI at h
  split at h
  · assumption
  · cases h
/-- what is left of a slice behind a cut is read where the slice is read -/
theorem SlOf.cutL {α : Type} {enc : α → List Value} {sz : Nat} {xs : List α} {b n cap q : Nat} (h : SlOf K w0 enc sz (.slice (some ⟨b, 0, none⟩) n cap) xs) (hn : n = xs.length) (hq : q ≤ xs.length) : SlOf K w0 enc sz (.slice (some ⟨b, 0 + q * sz, none⟩) (n - q) (cap - q)) (xs.drop q) := by
  refine ⟨h.len, ?_⟩
  rcases h.at_ with ⟨a, e, h0⟩ | ⟨b', off, cap', e, hc, hcell⟩
  · subst h0
    have : n = 0 := by simpa using hn
    subst this
    refine .inl ⟨some ⟨b, 0 + q * sz, none⟩, ?_, by simp⟩
    have : q = 0 := by simpa using hq
    subst this
    cases e
    rfl
  · cases e
    refine .inr ⟨b, 0 + q * sz, cap - q, by simp, by simp; omega, fun j u hu => ?_⟩
    have hpre : (xs.take q).flatMap enc ++ (xs.drop q).flatMap enc = xs.flatMap enc := by
      rw [← List.flatMap_append, List.take_append_drop]
    have hlen : ((xs.take q).flatMap enc).length = q * sz := by rw [flatMap_len h.len, List.length_take, Nat.min_eq_left hq]
    have hu' : (xs.flatMap enc)[q * sz + j]? = some u := by
      rw [← hpre, List.getElem?_append_right (by omega), hlen, Nat.add_sub_cancel_left]
      exact hu
    have := hcell (q * sz + j) u hu'
    rw [Nat.zero_add] at this ⊢
    exact this
theorem SL.slRN {α : Type} {enc : α → List Value} {sz : Nat} {xs us : List α} {k : IntKind} {j : Int} {ty e e' : TypeId} (i : Nat) (hk : H[i]? = some (rowT e' sz v enc xs)) (hn : slcI xs j (xs.length : Int) = some us) (ho : At ops N l o t (.slice ty x (some z) none none)) (hty : P.underlying ty = some (.slice e)) (hsz : tsz P e = some sz) (hx : evl l x = some v) (hz : evl l z = some (.int k j)) (hlt : j < (xs.length : Int))
    (h : ∀ v', (∀ K' w', SlOf K' w' enc sz v xs → SlOf K' w' enc sz v' us) → SL P ro K w0 N ops Hs items Q D ((t, v') :: l) H) : SL P ro K w0 N ops Hs (.cons (tk, o) items) Q D l H := by
  obtain ⟨h1, h2, h3, h4, rfl⟩ := slcI_some hn
  intro a w ha hw hs
  have hrow : w.ownsRow 0 e' sz v xs.length (xs.flatMap enc) := hw.holds _ (List.mem_append_left _ (List.mem_of_getElem? hk))
  rcases hrow.2 with ⟨rfl, h0⟩ | ⟨g, cap, cur, rfl, _, hg, hc, _⟩
  · exfalso; omega
  · have hq : j.toNat < xs.length := by omega
    have e2 : (xs.drop j.toNat).take ((xs.length : Int).toNat - j.toNat) = xs.drop j.toNat := List.take_of_length_le (by simp)
    refine SL.slLR j.toNat ho hty hsz hx hz h1 (by omega) (by omega) (h _ fun K' w' hK => ?_) a w ha hw hs
    rw [e2]
    exact hK.cutL rfl (by omega)
/-- an empty slice's literal -/
theorem SL.bsl0 {ty e : TypeId} {sz : Nat} (ho : At ops N l o t (.buildSlice ty 0 #[])) (hty : P.underlying ty = some (.slice e)) (hsz : tsz P e = some sz) (hs : ∀ b, SubI Hs (own b (.cells #[] e) :: H))
    (h : ∀ b, SL P ro K w0 N ops Hs items Q D ((t, .slice (some ⟨b, 0, none⟩) 0 0) :: l) (own b (.cells #[] e) :: H)) : SL P ro K w0 N ops Hs (.cons (false, o) items) Q D l H :=
  SL.step (fun b => .slice (some ⟨b, 0, none⟩) 0 0) (fun b => own b (.cells #[] e) :: H) ho rfl (fun a w ha hw => by
    refine ⟨w.heap.size, w.alloc (.cells #[] e), ?_, by exact hw.alloc _⟩
    unfold execOp
    simp only [ho.op, Instr.buildSlice, Sem.run_bind, run_underlying hty, Result.andThen_ok, run_sizeOf hsz, Nat.zero_mul, if_neg (show ¬ (0 > 2 ^ 24) by omega), if_true, Sem.run_pure, show (Array.range 0) = (#[] : Array Nat) from rfl, List.map_toArray, List.map_nil, Array.map_empty, Instr.fill, newRow, run_newObj]
    rfl) hs h
/-- 'fillL' of parts' cells -/
def fillC (pl : List (Nat × Nat)) : Array Value → List (Nat × Array Value) → Option (Array Value)
  | c, [] => some c
  | c, (i, u) :: r =>
    match pl[i]? with
    | none => none
    | some (off, size) => bif Nat.beq u.size size && Nat.ble (off + u.size) c.size then fillC pl (setL c off u.toList) r else none
theorem fillL_C (pl : List (Nat × Nat)) : ∀ (is : List Nat) (vs : List Value) (c : Array Value), fillL pl c (is.zip vs) = fillC pl c (is.zip (vs.map Value.cells))
  | [], vs, c => by simp [fillL, fillC]
  | i :: is, [], c => by simp [fillL, fillC]
  | i :: is, v :: vs, c => by
    simp only [List.zip_cons_cons, List.map_cons, fillL, fillC]
    cases hi : pl[i]? with
    | none => rfl
    | some p =>
      obtain ⟨off, size⟩ := p
      simp only [fillL_C pl is vs]
theorem SL.bldC {ty : TypeId} {parts : Array (Nat × Operand)} {pl : List (Nat × Nat)} {zv : Value} {r : Array Value} (vs : List Value) (css : List (Array Value)) (hc : vs.map Value.cells = css) (ho : At ops N l o t (.build ty parts)) (hp : plc P ty = some pl) (hk : plk P ty = true) (hz : zer P ty = some zv)
    (hv : evs l (parts.toList.map (·.2)) vs) (hf : fillC pl zv.cells ((parts.toList.map (·.1)).zip css) = some r) (h : SL P ro K w0 N ops Hs items Q D ((t, .agg r) :: l) H) : SL P ro K w0 N ops Hs (.cons (tk, o) items) Q D l H :=
  SL.bld vs ho hp hk hz hv (by rw [fillL_C, hc]; exact hf) h
/-- as 'SeqAt', of a range that is left in its first round -/
def SeqAt1 (P : Program) (K : Nat → Prop) (w0 : World) (f : FuncId) (cap : List Value) (Hit G0 : List Chunk) {α : Type} (enc : α → List Value) (xs : List α) : Prop :=
  ∀ (lp : Nat) (J : List α → List Chunk → Prop) (X : List Chunk → Prop) (T : List Chunk) (rc : Chunk), (∀ pre G, J pre G → pre = []) →
    (∀ pre x suf, xs = pre ++ x :: suf → ∀ G, J pre G → ∀ M, Yld P K w0 lp (enc x) (G ++ M) fun b G' => ∃ G1, G' = G1 ++ M ∧ (if b then J (pre ++ [x]) G1 else X G1)) →
    J [] (rc :: G0) → Con P K w0 f (vY lp :: cap) (Hit ++ (rc :: G0)) T fun _ M => J xs M ∨ X M
/-- **for .. := range g { .. }**, outside every round, whose body is left in the first -/
theorem SX.rangeAt1 {α : Type} {g : Operand} {ps : Array Tmp} {assign body : Code} {f : FuncId} {cap : List Value} {Hit : List Chunk} {enc : α → List Value} (xs : List α) {G0 : List Chunk}
    (J : List α → List Chunk → Prop) (X : Code → List Chunk → Prop)
    (hg : evl l g = some (.func (.func f) #[] cap.toArray)) (hf : callable P f = true) (hps : ps.toList.all (fun p => Nat.blt p N) = true) (hlen : ∀ x, (enc x).length = ps.size)
    (hseq : SeqAt1 P K w0 f cap Hit G0 enc xs) (hH : H = Hit ++ G0) (h0 : J [] G0) (hJ1 : ∀ pre G, J pre G → pre = [])
    (hbody : ∀ pre x suf G, xs = pre ++ x :: suf → J pre G → ∀ r lp Rest, SX P (some lp) K w0 N assign (bgn P lp body (rnd K w0 J X pre x (Tl r lp Rest .busy))) [] (parTm ps.toList (enc x) l) (G ++ Tl r lp Rest .ready))
    (hdone : ∀ G D, J xs G → SQ K w0 N Q .normal D l G)
    (hstop : ∀ c G D, X c G → SX P none K w0 N c Q D l G) : SX P none K w0 N (.rangeFunc g ps assign body) Q D l H := by
  intro a w ha hw
  subst hH
  refine wpIn_rangeFunc fun fn _ => ?_
  let r : Loop := { state := .ready, pending := none, fn := fn, tmps := a.tmps, params := ps, assign := assign, body := body, defers := w.heap.size }
  refine ⟨w.heap.size + 1, [{ target := .collected w.heap.size, args := #[] }], (w.alloc (.deferred (some []))).alloc (.loop r), { target := .fn (.func f) cap.toArray, args := #[vY (w.heap.size + 1)] }, (w.alloc (.deferred (some []))).alloc (.loop r),
    f, (vY (w.heap.size + 1) :: cap).toArray, (w.alloc (.deferred (some []))).alloc (.loop r), ?_, ?_, fun _ _ => Fc_fn _ _, ?_, fun hd => by simp [Fc_depth] at hd, ?_⟩
  · rw [Fc_round]; exact run_enterLoop_outer fn a.tmps ps assign body
  · have hev := ha.vals.eval hg
    simp [resolve, hev, Deferred.ofValue]
    rfl
  · simp [invoke, run_callFunc hf]
  · -- the call
    generalize hlp : w.heap.size + 1 = lp
    have hw1 : HpOk K w0 ((Hit ++ (Tl r lp [] .ready ++ G0)) ++ [marks (w.heap.size :: D)]) ((w.alloc (.deferred (some []))).alloc (.loop r)) := by
      have h1 := (hw.alloc (.deferred (some []))).alloc (.loop r)
      rw [World.size_alloc, hlp] at h1
      -- own lp record :: own mark :: ((Hit ++ G0) ++ [marks D])
      have hm : HpOk K w0 (marks (w.heap.size :: D) :: own lp (.loop r) :: (Hit ++ G0)) ((w.alloc (.deferred (some []))).alloc (.loop r)) := by
        have hp : (own lp (.loop r) :: own w.heap.size (.deferred (some [])) :: (Hit ++ G0 ++ [marks D])).Perm (own w.heap.size (.deferred (some [])) :: marks D :: own lp (.loop r) :: (Hit ++ G0)) := by
          refine (List.Perm.swap _ _ _).trans (List.Perm.cons _ ?_)
          refine (List.Perm.cons _ (List.perm_append_comm (l₁ := Hit ++ G0) (l₂ := [marks D]))).trans ?_
          exact List.Perm.swap _ _ _
        have h2 := h1.perm hp
        have hpw := List.pairwise_cons.1 h2.disj
        have hpw2 := List.pairwise_cons.1 hpw.2
        have hmk := h2.holds (marks D) (by simp)
        have hnew := h2.holds (own w.heap.size (.deferred (some []))) (List.mem_cons_self ..)
        refine ⟨h2.os, h2.tape, h2.output, h2.size, h2.klt, h2.keep, ?_, ?_, ?_⟩
        · intro c hc
          rcases List.mem_cons.1 hc with rfl | hc
          · refine ⟨List.nodup_cons.2 ⟨fun hin => hpw.1 (marks D) (by simp) _ rfl hin, hmk.1⟩, fun b hb => ?_⟩
            rcases List.mem_cons.1 hb with rfl | hb
            · exact hnew
            · exact hmk.2 b hb
          · exact h2.holds c (by simp only [List.mem_cons] at hc ⊢; exact .inr (.inr hc))
        · intro c hc b hb
          rcases List.mem_cons.1 hc with rfl | hc
          · rcases List.mem_cons.1 hb with rfl | hb
            · exact h2.foot (own w.heap.size (.deferred (some []))) (List.mem_cons_self ..) _ rfl
            · exact h2.foot (marks D) (by simp) b hb
          · exact h2.foot c (by simp only [List.mem_cons] at hc ⊢; exact .inr (.inr hc)) b hb
        · refine List.pairwise_cons.2 ⟨fun c hc b hb hb' => ?_, hpw2.2⟩
          rcases List.mem_cons.1 hb with rfl | hb
          · exact hpw.1 c (List.mem_cons_of_mem _ hc) _ rfl hb'
          · exact hpw2.1 c hc b hb hb'
      refine hm.perm ?_
      have e : Tl r lp [] .ready = [own lp (.loop r)] := rfl
      rw [e]
      refine (List.perm_append_comm (l₁ := [marks (w.heap.size :: D)])).trans (List.Perm.append_right _ ?_)
      simpa using (List.perm_middle (l₁ := Hit) (a := own lp (.loop r)) (l₂ := G0)).symm
    have hN : ∀ p ∈ ps.toList, p < a.tmps.size := fun p hp => by
      rw [ha.size]
      exact blt_lt (List.all_eq_true.1 hps p hp)
    let D' := w.heap.size :: D
    have hcon := hseq lp (fun pre Gx => ∃ G, J pre G ∧ Gx = Tl r lp [] .ready ++ G) (fun Gx => ∃ c G, X c G ∧ Gx = own lp (.loop { r with state := .done, pending := some c }) :: G) [marks D'] (own lp (.loop { r with state := .ready, pending := none })) (fun pre _ h => hJ1 pre _ h.choose_spec.1) ?_ ⟨G0, h0, rfl⟩
    · refine Fc_calls none ((hcon _ hw1).mono ?_)
      rintro e w' ⟨v, M, rfl, hM, hw'⟩
      have hD : TmOk N D' l { tmps := a.tmps, defers := [{ target := .collected w.heap.size, args := #[] }] ++ a.defers } := ⟨ha.size, by simp [ha.defers, D', mark], ha.vals⟩
      rcases hM with ⟨G, hJ, rfl⟩ | ⟨c, G, hX, rfl⟩
      · have hl : w'.heap[lp]? = some (.loop { r with state := .ready, pending := none }) := hw'.holds (own lp _) (by simp [Tl])
        refine ⟨_, _, run_endLoop hl (by simp), ?_⟩
        refine hdone G D' hJ _ _ hD ?_
        have h3 := (show HpOk K w0 (own lp (.loop { r with state := .ready, pending := none }) :: (G ++ [marks D'])) w' from hw').put (o' := .loop { r with state := .exhausted, pending := none })
        exact h3.sublist (List.sublist_cons_self _ _)
      · have hl : w'.heap[lp]? = some (.loop { r with state := .done, pending := some c }) := hw'.holds (own lp _) (by simp)
        refine ⟨_, _, run_endLoop hl (by simp), ?_⟩
        refine hstop c G D' hX _ _ hD ?_
        have h3 := (show HpOk K w0 (own lp (.loop { r with state := .done, pending := some c }) :: (G ++ [marks D'])) w' from hw').put (o' := .loop { r with state := .exhausted, pending := some c })
        exact h3.sublist (List.sublist_cons_self _ _)
    · -- a round
      rintro pre x suf hxs Gx ⟨G, hJ, rfl⟩ M w₁ hw₁
      have hl : w₁.heap[lp]? = some (.loop { r with state := .ready, pending := none }) := hw₁.holds (own lp _) (by simp [Tl])
      refine ⟨_, _, _, _, run_yield hl (by simp [hlen]; rfl), ?_⟩
      refine roundIn_of_wpIn trivial ?_
      have hw₂ : HpOk K w0 ((G ++ Tl r lp M .ready) ++ [marks []]) w₁ := by
        refine HpOk.marks0 (hw₁.perm ?_)
        show (own lp _ :: (G ++ M)).Perm (G ++ own lp _ :: M)
        exact List.perm_middle.symm
      have hzip : ((ps.zip (enc x).toArray).foldl (fun tmps (t, a) => tmps.setIfInBounds t a) a.tmps) = ((ps.toList.zip (enc x)).foldl (fun tm (t, a) => tm.setIfInBounds t a) a.tmps) := by
        rw [← Array.foldl_toList, Array.toList_zip]
      have hb := hbody pre x suf G hxs hJ r lp M { tmps := (ps.zip (enc x).toArray).foldl (fun tmps (t, a) => tmps.setIfInBounds t a) a.tmps, defers := [] } w₁
        ⟨by rw [hzip, foldl_set_size]; exact ha.size, rfl, by rw [hzip]; exact parTm_ok ps.toList (enc x) l a.tmps hN ha.vals⟩ hw₂
      refine wpIn_mono hb ?_
      intro e a' w' q
      cases e with
      | normal =>
        obtain ⟨w₃, hbr, hbody'⟩ := q
        refine ⟨w₃, hbr, wpIn_mono hbody' ?_⟩
        have fin : ∀ (jump : Option Code) (G' : List Chunk) (w₄ : World), HpOk K w0 (G' ++ Tl r lp M .busy) w₄ →
            (Instr.endRound lp jump).run P w₄ = .ok (.bool jump.isNone) (w₄.putObj lp (.loop { r with state := if jump.isNone then .ready else .done, pending := jump })) ∧
            HpOk K w0 ((own lp (.loop { r with state := if jump.isNone then .ready else .done, pending := jump }) :: G') ++ M) (w₄.putObj lp (.loop { r with state := if jump.isNone then .ready else .done, pending := jump })) := by
          intro jump G' w₄ h4
          have hl4 : w₄.heap[lp]? = some (.loop { r with state := .busy, pending := none }) := h4.holds (own lp _) (by simp [Tl])
          refine ⟨run_endRound (r := { r with state := .busy, pending := none }) jump hl4, ?_⟩
          have h5 : HpOk K w0 (own lp (.loop { r with state := .busy, pending := none }) :: (G' ++ M)) w₄ := h4.perm List.perm_middle
          exact h5.put
        intro e₂ a₂ w₄ q₂
        cases e₂ with
        | normal =>
          obtain ⟨G', hJ', h4⟩ := q₂
          obtain ⟨hrun, h5⟩ := fin none G' w₄ h4
          exact ⟨_, _, hrun, _, _, rfl, ⟨_, rfl, by simp only [Option.isNone_none, if_true]; exact ⟨G', hJ', rfl⟩⟩, h5⟩
        | ret =>
          obtain ⟨G', hX', h4⟩ := q₂
          obtain ⟨hrun, h5⟩ := fin (some .ret) G' w₄ h4
          exact ⟨_, _, hrun, _, _, rfl, ⟨_, rfl, by simp only [Option.isNone_some, Bool.false_eq_true, if_false]; exact ⟨_, G', hX', rfl⟩⟩, h5⟩
        | exit id =>
          obtain ⟨G', hX', h4⟩ := q₂
          obtain ⟨hrun, h5⟩ := fin (some (.exit id)) G' w₄ h4
          exact ⟨_, _, hrun, _, _, rfl, ⟨_, rfl, by simp only [Option.isNone_some, Bool.false_eq_true, if_false]; exact ⟨_, G', hX', rfl⟩⟩, h5⟩
        | goto _ => exact q₂.elim
        | panic _ => exact q₂.elim
        | outgrown => exact q₂.elim
      | exit _ => exact q.elim
      | goto _ => exact q.elim
      | ret => exact q.elim
      | panic _ => exact q.elim
      | outgrown => exact q.elim
theorem res4 {fn : Func} {t u s r : Nat} {v v' v'' v4 : Value} (hr : fn.results = #[.tmp t, .tmp u, .tmp s, .tmp r]) (hv : look l t = some v) (hv' : look l u = some v') (hv'' : look l s = some v'') (h4 : look l r = some v4) : ∀ a w, Vals l a → HpS K w0 H w → (results fn a.tmps).run P w = .ok (.tuple #[v, v', v'', v4]) w := by
  intro a w ha _
  have h1 := vals_getD ha hv
  have h2 := vals_getD ha hv'
  have h3 := vals_getD ha hv''
  have h4 := vals_getD ha h4
  simp [results, hr, ← h1, ← h2, ← h3, ← h4]
end Go.Proofs.YtddjneafgddlcaaDoor

/- The vaults' structures. No condition. -/
namespace Go.Proofs.YtddjneafgddlcaaDoor
open Go

/-! ### Structures -/
structure RefA where
  page : UInt32
  tag : List UInt8
deriving DecidableEq
def encRef (r : RefA) : List Value := [vU32 r.page, vS r.tag]
structure VltA where
  ring : List KeyA
  gen : UInt32
  boot : UInt32
  seals : UInt64
  taken : List (UInt32 × Bool)
structure RVltA where
  ring : List KeyA
  gen : UInt32
  boot : UInt32
  num : UInt64
  taken : List Bool
end Go.Proofs.YtddjneafgddlcaaDoor

/- Arguments that are slices of numbers, of texts; refs. No condition beyond those stated. -/
namespace Go.Proofs.YtddjneafgddlcaaDoor
open Go Go.ChangeShapes Go.WideShapes Go.ChangeAt Go.RowKit Go.Deep Go.Lib Go.Joins

section
variable {G : Type} {enc : TypeId × Value → G} {P : Program} {W : World}
theorem slOf_cells {α : Type} {ef : α → List Value} {b off len cap : Nat} {l : List α} {V : Nat → Value} (h1 : ∀ x, (ef x).length = 1) (hl : l.length = len) (hlk : ∀ i (hi : i < l.length), ef l[i] = [V i]) (hc : len ≤ cap)
    (hall : ∀ i, i < len → W.cell? (Addr.add ⟨b, off, none⟩ i) = some (V i)) : SlOf (· < W.heap.size) W ef 1 (.slice (some ⟨b, off, none⟩) len cap) l := by
  refine ⟨h1, .inr ⟨b, off, cap, by rw [hl], by omega, fun j u hu => ?_⟩⟩
  have hj : j < l.length := by
    have := (List.getElem?_eq_some_iff.1 hu).1
    rw [List.length_flatMap] at this
    have e : (l.map fun a => (ef a).length) = List.replicate l.length 1 := by
      apply List.ext_getElem
      · simp
      · intro i _ _; simp [h1]
    rw [e] at this
    simpa using this
  have hu' : u = V j := by
    have hx := flatMap_get h1 l j l[j] 0 (V j) (List.getElem?_eq_getElem hj) (by rw [hlk j hj]; rfl)
    rw [Nat.mul_one, Nat.add_zero, hu] at hx
    exact Option.some.inj hx
  have h0 := hall j (by omega)
  rw [Addr.add_mk] at h0
  refine ⟨?_, by rw [hu']; exact h0⟩
  rcases Nat.lt_or_ge b W.heap.size with h | h
  · exact h
  · have : W.heap[b]? = none := by simp [h]
    simp [World.cell?, this] at h0
/-- an argument that is a slice of numbers -/
theorem open_nums {t e : TypeId} {base : Nat} {v : Value} {d : DataW G} {p : List MemPlace} (ht : P.underlying t = some (.slice e)) (he : P.underlying e = some (.int .i64)) (ce : P.cellsOf e = 1)
    (hval : Value.okWide P W .any base t v) (h : DataW.Trod enc P W 0 (fun _ => true) true t v d p) : ∃ l : List Int, SlOf (· < W.heap.size) W eI 1 v l := by
  obtain ⟨a', len', cap', rfl⟩ := okWide_slice ht hval
  obtain ⟨n, hn⟩ := h
  have hok : Cell.ok P W .any base t (.slice a' len' cap') := by
    simpa [Value.okWide, ht, Cell.okWide] using hval
  rcases open_ints ht he ce hn with ⟨hc, _⟩ | ⟨a, len, cap, zs, hc, _, hl, hm, hz, _, hcell, _⟩
  · simp [Value.cells] at hc
    obtain ⟨rfl, rfl, rfl⟩ := hc
    exact ⟨[], ⟨fun _ => rfl, .inl ⟨_, rfl, rfl⟩⟩⟩
  · simp [Value.cells] at hc
    obtain ⟨rfl, rfl, rfl⟩ := hc
    simp only [Cell.ok, ht] at hok
    obtain ⟨b, off, spot⟩ := a
    obtain rfl : spot = none := hok.2.2.2.1
    simp only [if_true] at hz
    refine ⟨zs.take len', slOf_cells (V := fun i => .int .i64 (zs.getD i 0)) (fun _ => rfl) (by rw [List.length_take]; omega) (fun i hi => ?_) hl (fun i hi => hcell i (by omega))⟩
    rw [List.length_take] at hi
    simp only [List.getElem_take]
    rw [getD_lt _ (by omega)]
/-- an argument that is a slice of texts -/
theorem open_texts {t e : TypeId} {base : Nat} {v : Value} {d : DataW G} {p : List MemPlace} (ht : P.underlying t = some (.slice e)) (he : P.underlying e = some .string) (ce : P.cellsOf e = 1)
    (hval : Value.okWide P W .any base t v) (h : DataW.Trod enc P W 0 (fun _ => true) true t v d p) : ∃ l : List (List UInt8), SlOf (· < W.heap.size) W eS 1 v l := by
  obtain ⟨a', len', cap', rfl⟩ := okWide_slice ht hval
  obtain ⟨n, hn⟩ := h
  have hok : Cell.ok P W .any base t (.slice a' len' cap') := by
    simpa [Value.okWide, ht, Cell.okWide] using hval
  rcases open_strings ht he ce hn with ⟨hc, _⟩ | ⟨a, len, cap, ss, hc, _, hl, hm, hz, _, hcell, _⟩
  · simp [Value.cells] at hc
    obtain ⟨rfl, rfl, rfl⟩ := hc
    exact ⟨[], ⟨fun _ => rfl, .inl ⟨_, rfl, rfl⟩⟩⟩
  · simp [Value.cells] at hc
    obtain ⟨rfl, rfl, rfl⟩ := hc
    simp only [Cell.ok, ht] at hok
    obtain ⟨b, off, spot⟩ := a
    obtain rfl : spot = none := hok.2.2.2.1
    simp only [if_true] at hz
    refine ⟨(ss.take len').map fun s => s.data.toList, slOf_cells (V := fun i => .string (ss.getD i ByteArray.empty)) (fun _ => rfl) (by rw [List.length_map, List.length_take]; omega) (fun i hi => ?_) hl (fun i hi => hcell i (by omega))⟩
    rw [List.length_map, List.length_take] at hi
    simp only [List.getElem_map, List.getElem_take]
    rw [getD_lt _ (by omega), str_of]
/-- an argument that is a ref -/
theorem open_ref {t : TypeId} {f0 f1 : Field} {base : Nat} {v : Value} {d : DataW G} {p : List MemPlace} (ht : P.underlying t = some (.struct #[f0, f1])) (ct : P.cellsOf t = 2)
    (o0 : f0.offset = 0) (o1 : f1.offset = 1) (c0 : P.cellsOf f0.type = 1) (c1 : P.cellsOf f1.type = 1)
    (u0 : P.underlying f0.type = some (.int .u32)) (u1 : P.underlying f1.type = some .string)
    (hval : Value.okWide P W .any base t v) (h : DataW.Trod enc P W 0 (fun _ => true) true t v d p) : ∃ r : RefA, v = .agg (encRef r).toArray := by
  obtain ⟨cs, rfl, hsz⟩ := okWide_struct ht hval
  obtain ⟨n, hn⟩ := h
  obtain ⟨xs, k, _, _, _, hxl, hf⟩ := DataW.trod_struct ht hn
  obtain ⟨cl⟩ := cs
  rw [ct] at hsz
  match xs, hxl, cl, hsz with
  | [y0, y1], _, [a, b], _ =>
    have g0 := hf 0 f0 rfl
    have g1 := hf 1 f1 rfl
    simp [Value.cells, o0, o1, c0, c1] at g0 g1
    obtain ⟨z0, e0, _, w0⟩ := DataW.trod_int u0 g0
    obtain ⟨s1, e1, _, _⟩ := DataW.trod_string u1 g1
    simp only [List.cons.injEq, and_true] at e0 e1
    subst e0 e1
    refine ⟨⟨UInt32.ofNat z0.toNat, s1.data.toList⟩, ?_⟩
    rw [u32_of w0, str_of]
    rfl
end
end Go.Proofs.YtddjneafgddlcaaDoor

/- BB1 is B1 here. No condition. -/

/- slices.Repeat of one text. Condition: 1 to 1000000 times. -/
namespace Go.Proofs.YtddjneafgddlcaaDoor
open Go
variable {K : Nat → Prop} {w0 : World} {H : List Chunk}

def rp (m k : Nat) (s : List UInt8) : Array Value := (List.replicate k (vS s) ++ List.replicate (m - k) (vS [])).toArray
theorem rp_next {m k : Nat} {s : List UInt8} (hk : k ≤ m) : setL (rp m k s) k (List.replicate (Nat.min k (m - k)) (vS s)) = rp m (k + Nat.min k (m - k)) s := by
  have hc : Nat.min k (m - k) ≤ m - k := Nat.min_le_right ..
  generalize Nat.min k (m - k) = c at hc
  apply Array.ext'
  rw [setL_toList _ _ _ (by simp [rp]; omega)]
  have h0 : (rp m k s).toList = List.replicate k (vS s) ++ List.replicate (m - k) (vS []) := rfl
  have h9 : (rp m (k + c) s).toList = List.replicate (k + c) (vS s) ++ List.replicate (m - (k + c)) (vS []) := rfl
  rw [h0, h9, List.take_append_of_le_length (by simp), List.take_of_length_le (by simp), List.drop_append, List.drop_of_length_le (by simp)]
  simp only [List.length_replicate, List.nil_append, List.drop_replicate, List.replicate_append_replicate]
  rw [show m - k - (k + c - k) = m - (k + c) by omega]
theorem rp_first {m : Nat} {s : List UInt8} (hm : 1 ≤ m) : setL (madeCells (Value.string ⟨⟨[]⟩⟩).cells (m * 1)) 0 [vS s] = rp m 1 s := by
  obtain ⟨k, rfl⟩ : ∃ k, m = k + 1 := ⟨m - 1, by omega⟩
  apply Array.ext'
  rw [setL_toList _ _ _ (by simp [madeCells])]
  have h1 : (madeCells (Value.string ⟨⟨[]⟩⟩).cells ((k + 1) * 1)).toList = List.replicate (k + 1) (vS []) := by
    apply List.ext_getElem
    · simp [madeCells]
    · intro i _ _
      simp [madeCells, Nat.mod_one, Value.cells]
  rw [h1]
  simp [rp, List.replicate_succ]

theorem c_sRepeat {v : Value} {s : List UInt8} (m : Nat) (hm : 1 ≤ m) (hM : m ≤ 1000000) (hs : SlOf K w0 eS 1 v [s]) : Con Tryd.prog K w0 27 [v, vI m] [] H (fun u M => ∃ v', u = v' ∧ M = [rowT 9 1 v' eS (List.replicate m s)]) := by
  obtain ⟨b0, off, cap, rfl, hcap, hcell⟩ : ∃ b off cap, v = .slice (some ⟨b, off, none⟩) 1 cap ∧ 1 ≤ cap ∧ ∀ j u, ([s].flatMap eS)[j]? = some u → K b ∧ w0.cell? ⟨b, off + j, none⟩ = some u := by
    rcases hs.at_ with ⟨_, _, h⟩ | h
    · cases h
    · simpa using h
  refine Con.enter Tryd.func27 rfl rfl ?_
  refine SX.sr ?_
  refine SL.asg ⟨rfl, rfl, rfl, rfl⟩ rfl ?_
  refine SL.nx ?_
  refine SX.seq ?_
  refine SX.sr ?_
  refine SL.mv ⟨rfl, rfl, rfl, rfl⟩ rfl ?_
  refine SL.bin ⟨rfl, rfl, rfl, rfl⟩ rfl rfl Bin.ltI ?_
  refine SL.nx ?_
  refine SX.cond rfl (fun hc1 => absurd hc1 (by simp)) (fun hc1 => ?_)
  refine SX.skip ?_
  refine SQ.thn ?_
  refine SX.sr ?_
  refine SL.mv ⟨rfl, rfl, rfl, rfl⟩ rfl ?_
  refine SL.lenL ⟨rfl, rfl, rfl, rfl⟩ ty49 rfl ?_
  refine SL.cv ⟨rfl, rfl, rfl, rfl⟩ rfl (Cv.i_64 ty3 ty90) ?_
  refine SL.mv ⟨rfl, rfl, rfl, rfl⟩ rfl ?_
  refine SL.cv ⟨rfl, rfl, rfl, rfl⟩ rfl (Cv.i_64 ty3 ty90) ?_
  have hy : (toU64 (m : Int)).toNat = m := by simp only [toU64, UInt64.toNat_ofNat']; omega
  refine SL.call (vs := [_, _]) (Hin := []) ⟨rfl, rfl, rfl, rfl⟩ rfl ⟨rfl, rfl, trivial⟩ cal39 rfl rfl (c_Mul (toU64 m) (by rw [hy]; omega)) ?_
  rintro _ _ ⟨rfl, rfl⟩
  refine ⟨trivial, ?_⟩
  refine SL.mv ⟨rfl, rfl, rfl, rfl⟩ rfl ?_
  refine SL.ext ⟨rfl, rfl, rfl, rfl⟩ rfl rfl ?_
  refine SL.ext ⟨rfl, rfl, rfl, rfl⟩ rfl rfl ?_
  refine SL.asg ⟨rfl, rfl, rfl, rfl⟩ rfl ?_
  refine SL.asg ⟨rfl, rfl, rfl, rfl⟩ rfl ?_
  refine SL.nx ?_
  refine SX.seq ?_
  refine SX.sr ?_
  refine SL.mv ⟨rfl, rfl, rfl, rfl⟩ rfl ?_
  refine SL.bin ⟨rfl, rfl, rfl, rfl⟩ rfl rfl (Bin.gt64 (a := 0) (b := 0)) ?_
  refine SL.mv ⟨rfl, rfl, rfl, rfl⟩ rfl ?_
  refine SL.or (c := decide ((9223372036854775807 : UInt64) < toU64 m)) 23 3 26 rfl (fun hb k => ?_) (fun hb k => ?_) ?_
  · skip
    refine SL.pass rfl rfl rfl ?_
    refine SL.pass rfl rfl rfl ?_
    refine SL.pk ⟨rfl, rfl, rfl, rfl⟩ rfl rfl ?_
    exact k.mono (by repeat' (first | exact trivial | refine And.intro rfl ?_))
  · skip
    refine SL.mv ⟨rfl, rfl, rfl, rfl⟩ rfl ?_
    refine SL.bin ⟨rfl, rfl, rfl, rfl⟩ rfl rfl (Bin.gt64 (b := 9223372036854775807)) ?_
    refine SL.pk ⟨rfl, rfl, rfl, rfl⟩ rfl rfl ?_
    exact k.mono (by repeat' (first | exact trivial | refine And.intro rfl ?_))
  refine SL.nx ?_
  refine SX.cond rfl (fun hc2 => absurd hc2 (by rw [big63 m (by omega)]; decide)) (fun hc2 => ?_)
  refine SX.skip ?_
  refine SQ.thn ?_
  refine SX.sr ?_
  refine SL.mv ⟨rfl, rfl, rfl, rfl⟩ rfl ?_
  have hto : ((toU64 (m : Int)).toNat : Int) = m := by rw [hy]
  refine SL.cv ⟨rfl, rfl, rfl, rfl⟩ rfl (Cv.i_I (n := ((toU64 (m : Int)).toNat : Int)) ty90 ty3 (by omega) (by omega)) ?_
  rw [hto]
  refine SL.mkS (n := m) (c := m) ⟨rfl, rfl, rfl, rfl⟩ ty49 sz9 by9 ze9 rfl rfl (Nat.le_refl _) (by omega) (by omega) (fun b => trivial) fun b => ?_
  refine SL.asg ⟨rfl, rfl, rfl, rfl⟩ rfl ?_
  refine SL.nx ?_
  refine SX.sr ?_
  refine SL.mv ⟨rfl, rfl, rfl, rfl⟩ rfl ?_
  refine SL.mv ⟨rfl, rfl, rfl, rfl⟩ rfl ?_
  refine SL.cpO 0 [vS s] ⟨rfl, rfl, rfl, rfl⟩ ty49 sz9 rfl rfl rfl (by show 1 = min 1 m; omega) (fun w hw j u hu => ?_) (by simp [Value.oneCell']) (by simp [madeCells]; omega) trivial ?_
  · rw [Addr.add_mk]
    obtain ⟨h1, h2⟩ := hcell j u (by simpa using hu)
    have h3 := hw.keep _ h1
    simp only [World.cell?, h3] at h2 ⊢
    exact h2
  refine SL.asg ⟨rfl, rfl, rfl, rfl⟩ rfl ?_
  refine SL.nx ?_
  show SX _ _ _ _ _ _ _ _ _ (own b (.cells (setL (madeCells (Value.string ⟨⟨[]⟩⟩).cells (m * 1)) 0 [vS s]) 9) :: H)
  rw [rp_first hm]
  refine SX.seq ?_
  refine SX.block ?_
  refine SX.mono (SX.loop (α := Nat) (fun i => 1 ≤ i ∧ i ≤ m) (fun i => [(4, .slice none 0 0), (7, .slice (some ⟨b, 0, none⟩) m m), (8, vI i)]) (fun i => own b (.cells (rp m i s) 9) :: H) (fun i => m - i) (fun i D hp => ?_) 1 ⟨Nat.le_refl _, hm⟩) (by repeat' (first | exact trivial | refine And.intro rfl ?_))
  refine SX.seq ?_
  refine SX.sr ?_
  refine SL.mv ⟨rfl, rfl, rfl, rfl⟩ rfl ?_
  refine SL.mv ⟨rfl, rfl, rfl, rfl⟩ rfl ?_
  refine SL.lenL ⟨rfl, rfl, rfl, rfl⟩ ty49 rfl ?_
  refine SL.bin ⟨rfl, rfl, rfl, rfl⟩ rfl rfl Bin.ltI ?_
  refine SL.nx ?_
  refine SX.cond rfl (fun hc3 => ?_) (fun hc3 => ?_)
  · skip
    have hlt : i < m := by simpa using hc3
    have hmin : Nat.min i (m - i) ≤ m - i := Nat.min_le_right ..
    refine SX.skip ?_
    refine SQ.thn ?_
    refine SX.block ?_
    refine SX.drawI mix [] (Pl.of [(true, 0), (true, 1), (true, 2), (true, 3), (true, 4), (true, 5), (true, 6), (false, 7), (true, 8), (true, 9)]) (by kernel_rfl) ?_
    refine SL.mv ⟨rfl, rfl, rfl, rfl⟩ rfl ?_
    refine SL.mv ⟨rfl, rfl, rfl, rfl⟩ rfl ?_
    refine SL.mv ⟨rfl, rfl, rfl, rfl⟩ rfl ?_
    refine SL.slLR i ⟨rfl, rfl, rfl, rfl⟩ ty49 sz9 rfl rfl rfl (by omega) hlt ?_
    refine SL.mv ⟨rfl, rfl, rfl, rfl⟩ rfl ?_
    refine SL.mv ⟨rfl, rfl, rfl, rfl⟩ rfl ?_
    refine SL.slHR i ⟨rfl, rfl, rfl, rfl⟩ ty49 sz9 rfl rfl rfl (by omega) ?_
    refine SL.cpO 0 (List.replicate (Nat.min i (m - i)) (vS s)) ⟨rfl, rfl, rfl, rfl⟩ ty49 sz9 rfl rfl rfl (by simp) (fun w hw j u hu => ?_) (fun u hu => by rw [List.eq_of_mem_replicate hu]; rfl) (by have := hmin; simp [rp]; omega) trivial ?_
    · have hj : j < i := by
        have := (List.getElem?_eq_some_iff.1 hu).1
        have h2 : Nat.min i (m - i) ≤ i := Nat.min_le_left ..
        simp only [List.length_replicate] at this; omega
      have hu' : u = vS s := by
        have := List.mem_of_getElem? hu
        exact List.eq_of_mem_replicate this
      subst hu'
      exact cells_own (cs := List.replicate i (vS s)) 0 rfl (fun j u hj => by
        have hj' : j < i := by have := (List.getElem?_eq_some_iff.1 hj).1; simpa using this
        rw [Nat.zero_add, ← Array.getElem?_toList]
        show (List.replicate i (vS s) ++ _)[j]? = some u
        rw [List.getElem?_append_left (by simpa using hj')]
        exact hj) w hw j _ (by simp [hj])
    refine SL.bin ⟨rfl, rfl, rfl, rfl⟩ rfl rfl (Bin.addI (by omega) (by simp only [List.length_replicate]; omega)) ?_
    refine SL.asg ⟨rfl, rfl, rfl, rfl⟩ rfl ?_
    refine SL.nil ?_
    refine SQ.blk ?_
    have e1 : setL (rp m i s) (0 + i * 1) (List.replicate (Nat.min i (m - i)) (vS s)) = rp m (i + Nat.min i (m - i)) s := by rw [Nat.zero_add, Nat.mul_one]; exact rp_next hp.2
    simp only [List.set_cons_zero, e1, List.length_replicate]
    have h1 : 0 < Nat.min i (m - i) := by
      show 0 < min i (m - i)
      have := hp.1
      omega
    exact SQ.again (i + Nat.min i (m - i)) ⟨by omega, by omega⟩ (by omega) (by repeat' (first | exact trivial | refine And.intro rfl ?_)) (fun _ h => h)
  · skip
    have hlt : i = m := by have := hp.2; simp at hc3; omega
    subst hlt
    refine SX.exit ?_
    refine SQ.thnE ?_
    refine SQ.lpE ?_
    refine SQ.blkE ?_
    refine SQ.thn ?_
    refine SX.sr ?_
    refine SL.ownTn eS 1 (List.replicate i s) (by simp) (by simp [rp, List.flatMap_replicate]) (fun _ => rfl) hM ?_
    refine SL.mv ⟨rfl, rfl, rfl, rfl⟩ rfl ?_
    refine SL.asg ⟨rfl, rfl, rfl, rfl⟩ rfl ?_
    refine SL.nx ?_
    refine SX.ret ?_
    exact SQ.fret (res1 rfl rfl) (ret_of (M := [_]) ⟨_, rfl, rfl⟩ fun _ h => h.skip [])
end Go.Proofs.YtddjneafgddlcaaDoor

/- Wrappers of strings.Repeat and slices.Repeat as the printed walks want them. Condition: they yield. -/
namespace Go.Proofs.YtddjneafgddlcaaDoor
open Go
variable {K : Nat → Prop} {w0 : World} {H : List Chunk}
def rep0O (s : List UInt8) (n : Int) : Option (List UInt8) := if s = [0] ∧ 0 ≤ n ∧ n ≤ 8192 then some (List.replicate n.toNat 0) else none
theorem w_rep0 {p0 : List UInt8} {p1 : Int} {r : List UInt8} (h : rep0O p0 p1 = some r) : Con Tryd.prog K w0 26 [vS p0, vI p1] [] H (fun u M => u = vS r ∧ M = []) := by
  unfold rep0O at h
  split at h
  · rename_i hc
    obtain ⟨rfl, h0, h1⟩ := hc
    obtain rfl := Option.some.inj h
    have := c_Repeat0 (K := K) (w0 := w0) (H := H) p1.toNat (by omega)
    rwa [show ((p1.toNat : Nat) : Int) = p1 by omega] at this
  · cases h
def srepO (l : List (List UInt8)) (n : Int) : Option (List (List UInt8)) :=
  match l with
  | [s] => if 1 ≤ n ∧ n ≤ 1000000 then some (List.replicate n.toNat s) else none
  | _ => none
theorem w_srep {v0_ : Value} {p0 : List (List UInt8)} {p1 : Int} {r : List (List UInt8)} (h : srepO p0 p1 = some r) (hs0_ : SlOf K w0 eS 1 v0_ p0) : Con Tryd.prog K w0 27 [v0_, vI p1] [] H (fun u M => ∃ v0 : Value, u = v0 ∧ M = [rowT 9 1 v0 eS r]) := by
  unfold srepO at h
  split at h
  · split at h
    · rename_i hc
      obtain rfl := Option.some.inj h
      have := c_sRepeat (K := K) (w0 := w0) (H := H) p1.toNat (by omega) (by omega) hs0_
      rwa [show ((p1.toNat : Nat) : Int) = p1 by omega] at this
    · cases h
  · cases h
end Go.Proofs.YtddjneafgddlcaaDoor

/- The contracts of keys, seal in the printed functions' words, for the vault. Condition: the plain function yields. -/
namespace Go.Proofs.YtddjneafgddlcaaDoor
open Go
variable {K : Nat → Prop} {w0 : World} {H : List Chunk}

def tagO (s : List UInt8) : Option (List UInt8) := if s.length ≤ 9223372036854775807 then some (s.drop (s.length - 32)) else none
theorem w_tag {s r : List UInt8} (h : tagO s = some r) : Con Tryd.prog K w0 52 [vS s] [] H (fun u M => u = vS r ∧ M = []) := by
  unfold tagO at h
  split at h
  · rename_i hl
    obtain rfl := Option.some.inj h
    exact c_seal_Tag s hl
  · cases h
def sealO (T : List UInt32) (l : List KeyA) (h : HeadA) (s : List UInt8) : Option (List UInt8 × Int) := if l.length ≤ 1099511627776 ∧ s.length ≤ 9223372036854775807 then some (sealA T l h s) else none
theorem w_seal {T : List UInt32} {v : Value} {l : List KeyA} {x : HeadA} {s : List UInt8} {r : List UInt8 × Int} (h : sealO T l x s = some r) (hS : ShaT K w0 T) (hk : SlOf K w0 encKey 2 v l) : Con Tryd.prog K w0 50 [v, .agg (encHead x).toArray, vS s] [] H (fun u M => u = .tuple #[vS r.1, vI r.2] ∧ M = []) := by
  unfold sealO at h
  split at h
  · rename_i hl
    obtain rfl := Option.some.inj h
    exact c_seal_Seal T v l x s hS hk hk.cells1 hl.1 hl.2
  · cases h
def openO (T : List UInt32) (l : List KeyA) (s : List UInt8) : Option (HeadA × List UInt8 × Int) := if l.length ≤ 1099511627776 ∧ s.length ≤ 9223372036854775807 then some (openA T l s) else none
theorem w_open {T : List UInt32} {v : Value} {l : List KeyA} {s : List UInt8} {r : HeadA × List UInt8 × Int} (h : openO T l s = some r) (hS : ShaT K w0 T) (hk : SlOf K w0 encKey 2 v l) : Con Tryd.prog K w0 53 [v, vS s] [] H (fun u M => u = .tuple #[.agg (encHead r.1).toArray, vS r.2.1, vI r.2.2] ∧ M = []) := by
  unfold openO at h
  split at h
  · rename_i hl
    obtain rfl := Option.some.inj h
    exact c_seal_Open T v l s hS hk hk.cells1 hl.1 hl.2
  · cases h
def findO (l : List KeyA) (g : UInt32) : Option (KeyA × Int) := if l.length ≤ 1099511627776 then some (findA l g) else none
theorem w_find {v : Value} {l : List KeyA} {g : UInt32} {r : KeyA × Int} (h : findO l g = some r) (hk : SlOf K w0 encKey 2 v l) : Con Tryd.prog K w0 28 [v, vU32 g] [] H (fun u M => u = .tuple #[.agg (encKey r.1).toArray, vI r.2] ∧ M = []) := by
  unfold findO at h
  split at h
  · rename_i hl
    obtain rfl := Option.some.inj h
    exact c_keys_Find v l g hk hk.cells1 hl
  · cases h
end Go.Proofs.YtddjneafgddlcaaDoor
