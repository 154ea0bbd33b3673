/- The texts S12, S13, X0, V0, S14, S15, S16, S17, RD0, T0, RD1, BB0, BB1, W3, W4, one behind the other: each bears its own sentence. Conditions: as each says. -/
import Derived.Test.YtddjneafgddlcaaDA1
import Derived.Laws.StructEq
import Derived.Maps.Range
import Derived.Test.YtddjneafgddlcaaRows
import Derived.WalkKit
import Derived.ProofKit
import Derived.OpenShut
import Derived.Carry
import Derived.JoinedOf
import Derived.SliceStrings
import Derived.Deep.Slices
import Derived.HandedShaped
import Derived.Test.YtddjneafgddlcaaChecked

/- The engine's arrays and a few more operators. Each under its own bounds. -/
namespace Go.Proofs.Ytddjneafgddlcaa
open Go

variable {P : Program} {ro : Option Nat} {K : Nat → Prop} {w0 : World} {N : Nat} {Q : Post} {D : List Nat} {l l' : Tm} {H H' Hs L : List Chunk} {ops : Array Oper} {items : Its}
variable {tk : Bool} {o : Oper} {t : Nat} {v : Value} {x y z : Operand}

theorem SL.negI {a : Int} {ty : TypeId} (ho : At ops N l o t (.unOp .neg ty x)) (hx : evl l x = some (vI a)) (h1 : -9223372036854775807 ≤ a) (h2 : a ≤ 9223372036854775807) (h : SL P ro K w0 N ops Hs items Q D ((t, vI (-a)) :: l) H) : SL P ro K w0 N ops Hs (.cons (tk, o) items) Q D l H :=
  SL.val ho rfl (fun a' w ha _ => by
    have hw : IntKind.i64.wrap (0 - a) = -a := by
      rw [wrap_of (k := .i64) (by show (-9223372036854775808 : Int) ≤ _; omega) (by show _ ≤ (9223372036854775807 : Int); omega)]
      omega
    simp only [execOp, ho.op, ha.eval hx, Op.unary, Op.intArith, hw, Sem.run_bind, Sem.run_pure, Result.andThen_ok]) h
theorem SL.not32 {a : UInt32} {ty : TypeId} (ho : At ops N l o t (.unOp .xor ty x)) (hx : evl l x = some (vU32 a)) (h : SL P ro K w0 N ops Hs items Q D ((t, vU32 (4294967295 ^^^ a)) :: l) H) : SL P ro K w0 N ops Hs (.cons (tk, o) items) Q D l H :=
  SL.val ho rfl (fun a' w ha _ => by
    have h1 := (Bin.xor32 (a := 4294967295) (b := a) P w 0 (.tmp 0) (.tmp 0)).2
    simp only [binOp] at h1
    have hm : (if IntKind.u32.signed = true then (-1 : Int) else IntKind.u32.max) = ((4294967295 : UInt32).toNat : Int) := by decide
    simp only [execOp, ho.op, ha.eval hx, Op.unary, Sem.run_bind, hm]
    simp only [ne_eq, not_true_eq_false, if_false] at h1
    rw [h1]
    rfl) h

/-! ### Arrays of one-cell elements -/
def arr {α : Type} (f : α → Value) (xs : List α) : Array Value := (xs.map f).toArray
theorem arr_get {α : Type} {f : α → Value} {xs : List α} {i : Nat} {a : α} (h : xs[i]? = some a) : (arr f xs)[i]? = some (f a) := by simp [arr, h]
theorem arr_size {α : Type} (f : α → Value) (xs : List α) : (arr f xs).size = xs.length := by simp [arr]
theorem arr_set {α : Type} (f : α → Value) (xs : List α) (i : Nat) (a : α) : setL (arr f xs) i [f a] = arr f (xs.set i a) := by
  simp only [setL, arr]
  apply Array.ext'
  simp [List.map_set]
theorem arr_toList {α : Type} (f : α → Value) (xs : List α) : (arr f xs).toList = xs.map f := by simp [arr]
/-- an element of an array in a register -/
theorem SL.ixA {n i : Nat} {k : IntKind} {j : Int} {ty e : TypeId} {cs : Array Value} (ho : At ops N l o t (.index ty x y)) (hty : P.underlying ty = some (.array n e)) (hs : scl P e = true) (hx : evl l x = some (.agg cs)) (hy : evl l y = some (.int k j))
    (hj : j = (i : Int)) (hlt : i < n) (hc : cs[i]? = some v) (h : SL P ro K w0 N ops Hs items Q D ((t, v) :: l) H) : SL P ro K w0 N ops Hs (.cons (tk, o) items) Q D l H :=
  SL.val ho rfl (fun a w ha _ => by
    subst hj
    obtain ⟨h1, h2⟩ := scl_spec hs w
    have h3 : (isAgg e).run P w = .ok false w := h1
    simp only [execOp, ho.op, Instr.index, Sem.run_bind, ha.eval hx, ha.eval hy, asIntOf, Sem.run_pure, Result.andThen_ok, run_underlying hty]
    have h4 : (0 : Int) ≤ (i : Int) ∧ (i : Int) < (n : Int) := by omega
    simp only [if_pos h4, Sem.run_bind, run_sizeOf h2, Result.andThen_ok, Int.toNat_natCast, Nat.mul_one]
    simp [part, h3, hc]) h
theorem arr_app {α : Type} {f : α → Value} {xs ys : List α} {j : Nat} (d : α) (h : j < xs.length) : (arr f (xs ++ ys))[j]? = some (f (xs.getD j d)) := by
  refine arr_get ?_
  rw [List.getElem?_append_left h, List.getD_eq_getElem?_getD, List.getElem?_eq_getElem h]
  rfl
theorem fill_set {α : Type} (xs : List α) (z x : α) (n i : Nat) (h : xs.length = i) (hn : i < n) : (xs ++ List.replicate (n - i) z).set i x = (xs ++ [x]) ++ List.replicate (n - (i + 1)) z := by
  subst h
  rw [List.set_append_right _ _ (Nat.le_refl _), Nat.sub_self]
  have e : n - xs.length = (n - (xs.length + 1)) + 1 := by omega
  rw [e, List.replicate_succ, List.set_cons_zero, List.append_assoc]
  rfl
/-- an element's address, where the elements have one cell -/
theorem SL.iaAp {b n m : Nat} {k : IntKind} {i : Int} {ty e : TypeId} (ho : At ops N l o t (.indexAddr ty x y)) (hty : P.underlying ty = some (.array m e)) (hsz : tsz P e = some 1) (hx : evl l x = some (vP b 0)) (hy : evl l y = some (.int k i))
    (hi : i = (n : Int)) (hlt : n < m) (h : SL P ro K w0 N ops Hs items Q D ((t, vP b n) :: l) H) : SL P ro K w0 N ops Hs (.cons (tk, o) items) Q D l H :=
  SL.iaA ho hty hsz hx hy hi hlt (by rw [Nat.zero_add, Nat.mul_one]; exact h)
theorem SL.iap {b n len cap : Nat} {k : IntKind} {i : Int} {ty e : TypeId} (ho : At ops N l o t (.indexAddr ty x y)) (hty : P.underlying ty = some (.slice e)) (hsz : tsz P e = some 1) (hx : evl l x = some (.slice (some ⟨b, 0, none⟩) len cap)) (hy : evl l y = some (.int k i))
    (hi : i = (n : Int)) (hlt : n < len) (h : SL P ro K w0 N ops Hs items Q D ((t, vP b n) :: l) H) : SL P ro K w0 N ops Hs (.cons (tk, o) items) Q D l H :=
  SL.ia ho hty hsz hx hy hi hlt (by rw [Nat.zero_add, Nat.mul_one]; exact h)
/-- a store into an array of one-cell elements -/
theorem SL.stA {α : Type} {f : α → Value} {a : α} {xs : List α} {b k : Nat} {e ty : TypeId} (i : Nat) (ho : At0 ops l o (.store ty x y)) (hx : evl l x = some (vP b k)) (hy : evl l y = some (f a)) (hi : H[i]? = some (own b (.cells (arr f xs) e)))
    (hn : tsz P ty = some 1) (hc : (f a).cells = #[f a]) (h1 : (f a).oneCell' = true) (hk : k < xs.length)
    (hs : SubI Hs (H.set i (own b (.cells (arr f (xs.set k a)) e)))) (h : SL P ro K w0 N ops Hs items Q D l (H.set i (own b (.cells (arr f (xs.set k a)) e)))) : SL P ro K w0 N ops Hs (.cons (false, o) items) Q D l H := by
  have e1 : setL (arr f xs) k (f a).cells.toList = arr f (xs.set k a) := by rw [hc]; exact arr_set f xs k a
  refine SL.stP i ho hx hy hi hn (by rw [hc]; rfl) (by rw [hc]; simp [h1]) (by rw [arr_size]; omega) ?_ ?_
  · rw [e1]; exact hs
  · rw [e1]; exact h
theorem setL_full {c : Array Value} {vs : List Value} (h : c.size = vs.length) : setL c 0 vs = vs.toArray := by
  apply Array.ext'
  rw [setL_toList _ _ _ (by omega)]
  have : c.toList.drop (0 + vs.length) = [] := List.drop_eq_nil_of_le (by simp; omega)
  rw [this]
  simp
/-- a store of a whole array or struct -/
theorem SL.stF {b n : Nat} {c c' : Array Value} {e ty : TypeId} (i : Nat) (ho : At0 ops l o (.store ty x y)) (hx : evl l x = some (vP b 0)) (hy : evl l y = some (.agg c')) (hi : H[i]? = some (own b (.cells c e)))
    (hn : tsz P ty = some n) (hv : c'.size = n) (hc : c.size = n) (h1 : ∀ u ∈ c'.toList, u.oneCell' = true)
    (hs : SubI Hs (H.set i (own b (.cells c' e)))) (h : SL P ro K w0 N ops Hs items Q D l (H.set i (own b (.cells c' e)))) : SL P ro K w0 N ops Hs (.cons (false, o) items) Q D l H := by
  have e1 : setL c 0 (Value.agg c').cells.toList = c' := by
    have := setL_full (c := c) (vs := c'.toList) (by simp; omega)
    exact this
  refine SL.stP i ho hx hy hi hn hv (List.all_eq_true.2 h1) (by omega) ?_ ?_
  · rw [e1]; exact hs
  · rw [e1]; exact h
theorem arr_one {α : Type} {f : α → Value} (hf : ∀ a, (f a).oneCell' = true) (xs : List α) : ∀ u ∈ (arr f xs).toList, u.oneCell' = true := by
  intro u hu
  rw [arr_toList] at hu
  obtain ⟨a, _, rfl⟩ := List.mem_map.1 hu
  exact hf a

/-! ### .. with other cells behind them -/
def arrT {α : Type} (f : α → Value) (xs : List α) (tl : List Value) : Array Value := (xs.map f ++ tl).toArray
theorem arrT_app {α : Type} {f : α → Value} {xs : List α} {tl : List Value} {j : Nat} (d : α) (h : j < xs.length) : (arrT f xs tl)[j]? = some (f (xs.getD j d)) := by
  simp only [arrT, List.getElem?_toArray]
  rw [List.getElem?_append_left (by simpa using h), List.getElem?_map, List.getD_eq_getElem?_getD, List.getElem?_eq_getElem h]
  rfl
theorem arrT_set {α : Type} (f : α → Value) (xs : List α) (tl : List Value) (i : Nat) (a : α) (h : i < xs.length) : setL (arrT f xs tl) i [f a] = arrT f (xs.set i a) tl := by
  simp only [setL, arrT]
  apply Array.ext'
  simp only [Array.toList_setIfInBounds]
  rw [List.set_append_left _ _ (by simpa using h), List.map_set]
theorem SL.stT {α : Type} {f : α → Value} {a : α} {xs : List α} {tl : List Value} {b k : Nat} {e ty : TypeId} (i : Nat) (ho : At0 ops l o (.store ty x y)) (hx : evl l x = some (vP b k)) (hy : evl l y = some (f a)) (hi : H[i]? = some (own b (.cells (arrT f xs tl) e)))
    (hn : tsz P ty = some 1) (hc : (f a).cells = #[f a]) (h1 : (f a).oneCell' = true) (hk : k < xs.length)
    (hs : SubI Hs (H.set i (own b (.cells (arrT f (xs.set k a) tl) e)))) (h : SL P ro K w0 N ops Hs items Q D l (H.set i (own b (.cells (arrT f (xs.set k a) tl) e)))) : SL P ro K w0 N ops Hs (.cons (false, o) items) Q D l H := by
  have e1 : setL (arrT f xs tl) k (f a).cells.toList = arrT f (xs.set k a) tl := by rw [hc]; exact arrT_set f xs tl k a hk
  refine SL.stP i ho hx hy hi hn (by rw [hc]; rfl) (by rw [hc]; simp [h1]) (by simp [arrT]; omega) ?_ ?_
  · rw [e1]; exact hs
  · rw [e1]; exact h
/-- a table of the program's, in the memory that is kept -/
structure Tab (K : Nat → Prop) (w0 : World) (g : Nat) (T : List UInt32) : Prop where
  keep : K g
  cell : ∀ i x, T[i]? = some x → w0.cell? ⟨g, i, none⟩ = some (vU32 x)
theorem Tab.keeps {g : Nat} {T : List UInt32} {K' : Nat → Prop} {w1 : World} (h : Tab K w0 g T) (hk : Keeps K w0 K' w1) : Tab K' w1 g T :=
  ⟨(hk g h.keep).1, fun i x hx => by rw [World.cell?_of_block (w := w0) (hk g h.keep).2]; exact h.cell i x hx⟩
theorem Tab.load {g n : Nat} {T : List UInt32} (h : Tab K w0 g T) (hn : n < T.length) : ∀ w, HpS K w0 L w → w.cell? ⟨g, n, none⟩ = some (vU32 (T.getD n 0)) :=
  cell_base (ad := ⟨g, n, none⟩) h.keep (h.cell n _ (by rw [List.getD_eq_getElem?_getD, List.getElem?_eq_getElem hn]; rfl))
/-- an array's literal, all of whose one-cell elements are given -/
theorem SL.bldU {ty e : TypeId} {n : Nat} {parts : Array (Nat × Operand)} {zv : Value} (vs : List Value) (ho : At ops N l o t (.build ty parts)) (hty : P.underlying ty = some (.array n e)) (hsz : tsz P e = some 1) (hz : zer P ty = some zv) (hzs : zv.cells.size = n)
    (hv : evs l (parts.toList.map (·.2)) vs) (hi : parts.toList.map (·.1) = List.range' 0 n) (hlen : vs.length = n) (h1 : ∀ v ∈ vs, v.cells = #[v]) (h : SL P ro K w0 N ops Hs items Q D ((t, .agg vs.toArray) :: l) H) : SL P ro K w0 N ops Hs (.cons (tk, o) items) Q D l H :=
  SL.val ho rfl (fun a w ha _ => by
    have hev := evs.eval ha hv
    have hp : (parts.map fun (i, x) => (i, a.eval x)).toList = (List.range' 0 vs.length).zip vs := by
      rw [Array.toList_map, zip_parts, hev, hi, hlen]
    have hfm : (vs.flatMap fun v => v.cells.toList) = vs := by
      clear hlen hv hev hp h
      induction vs with
      | nil => rfl
      | cons u us ih => rw [List.flatMap_cons, ih (fun v hv => h1 v (List.mem_cons_of_mem _ hv)), h1 u (List.mem_cons_self ..)]; rfl
    have hf := fill_full 1 vs 0 zv.cells (fun v hv => by rw [h1 v hv]; rfl) (by omega)
    rw [hfm, Nat.zero_mul, setL_full (by omega)] at hf
    simp only [execOp, ho.op, Sem.run_bind, Instr.build, run_zero hz, Result.andThen_ok, run_underlying hty, run_sizeOf hsz, hp, hf, Sem.run_pure]) h

/-! ### Signed shifts and unions -/
theorem Bin.shlI {a : Int} {k : IntKind} {n : Nat} (h0 : -9223372036854775808 ≤ a * 2 ^ (min n 64)) (h1 : a * 2 ^ (min n 64) ≤ 9223372036854775807) : Bin .shl (vI a) (.int k (n : Int)) (vI (a * 2 ^ (min n 64))) := fun P w ty x y => ⟨eqGuard_int .., by
  have hn : ¬ ((n : Int) < 0) := by omega
  have h := wrap_of (k := .i64) h0 h1
  simp [binOp, Op.shift, hn, IntKind.bits, h]⟩
theorem Bin.orI {a b : Nat} (ha : a < 9223372036854775808) (hb : b < 9223372036854775808) : Bin .or (vI a) (vI b) (vI (a ||| b : Nat)) := fun P w ty x y => ⟨eqGuard_int .., by
  have e1 : (BitVec.ofInt IntKind.i64.bits ((a : Nat) : Int)).toNat = a := by rw [ofInt_nat]; simp [IntKind.bits]; omega
  have e2 : (BitVec.ofInt IntKind.i64.bits ((b : Nat) : Int)).toNat = b := by rw [ofInt_nat]; simp [IntKind.bits]; omega
  have hlt : a ||| b < 2 ^ 63 := Nat.or_lt_two_pow ha hb
  have h : IntKind.i64.wrap (((BitVec.ofInt IntKind.i64.bits (a : Int) ||| BitVec.ofInt IntKind.i64.bits (b : Int)).toNat : Nat) : Int) = ((a ||| b : Nat) : Int) := by
    rw [BitVec.toNat_or, e1, e2]
    exact wrap_of (k := .i64) (by show (-9223372036854775808 : Int) ≤ _; omega) (by show _ ≤ (9223372036854775807 : Int); omega)
  simp only [binOp, Op.intBits, ne_eq, not_true_eq_false, if_false]
  exact congrArg (fun z => Result.ok (Value.int .i64 z) w) h⟩
/-- an element of an array of arrays (or structs) in a register -/
theorem SL.ixAA {n i sz : Nat} {k : IntKind} {j : Int} {ty e : TypeId} {cs c' : Array Value} (ho : At ops N l o t (.index ty x y)) (hty : P.underlying ty = some (.array n e)) (hs : agz P e = some sz) (hx : evl l x = some (.agg cs)) (hy : evl l y = some (.int k j))
    (hj : j = (i : Int)) (hlt : i < n) (hc : cs.extract (i * sz) (i * sz + sz) = c') (h : SL P ro K w0 N ops Hs items Q D ((t, .agg c') :: l) H) : SL P ro K w0 N ops Hs (.cons (tk, o) items) Q D l H :=
  SL.val ho rfl (fun a w ha _ => by
    subst hj
    obtain ⟨h1, h2⟩ := agz_spec hs w
    have h3 : (isAgg e).run P w = .ok true w := h1
    simp only [execOp, ho.op, Instr.index, Sem.run_bind, ha.eval hx, ha.eval hy, asIntOf, Sem.run_pure, Result.andThen_ok, run_underlying hty]
    have h4 : (0 : Int) ≤ (i : Int) ∧ (i : Int) < (n : Int) := by omega
    simp only [if_pos h4, Sem.run_bind, run_sizeOf h2, Result.andThen_ok, Int.toNat_natCast]
    simp [part, h3, run_sizeOf h2, hc]) h
theorem get_getD {α : Type} {xs : List α} {n : Nat} (d : α) (h : n < xs.length) : xs[n]? = some (xs.getD n d) := by
  rw [List.getD_eq_getElem?_getD, List.getElem?_eq_getElem h]; rfl
/-- a slice of a whole array -/
theorem SL.slA {b n sz : Nat} {ty e : TypeId} (ho : At ops N l o t (.slice ty x none none none)) (hty : P.underlying ty = some (.array n e)) (hsz : tsz P e = some sz) (hx : evl l x = some (vP b 0)) (_h0 : n ≠ 0)
    (h : SL P ro K w0 N ops Hs items Q D ((t, .slice (some ⟨b, 0, none⟩) n n) :: l) H) : SL P ro K w0 N ops Hs (.cons (tk, o) items) Q D l H :=
  SL.val ho rfl (fun a w ha _ => by
    simp only [execOp, ho.op, Instr.sliceAt, Option.map]
    simp [ha.eval hx, run_underlying hty, run_sizeOf hsz, Instr.sliceBounds, Instr.sureAddr, Addr.add_mk]) h
/-- a copy of one array of words over another -/
theorem SL.cpA {α : Type} {f : α → Value} {xs ys : List α} {b b' n : Nat} {ty e e' : TypeId} {cc cc' : Nat} (i i' : Nat) (ho : At ops N l o t (.call { callee := .builtin .copy, args := #[x, y], argTypes := #[ty, ty] })) (hty : P.underlying ty = some (.slice e)) (hsz : tsz P e = some 1)
    (hx : evl l x = some (.slice (some ⟨b, 0, none⟩) n cc)) (hy : evl l y = some (.slice (some ⟨b', 0, none⟩) n cc')) (hi : H[i]? = some (own b (.cells (arr f xs) e'))) (hi' : H[i']? = some (own b' (.cells (arr f ys) e'))) (hxs : xs.length = n) (hys : ys.length = n) (h1 : ∀ a, (f a).oneCell' = true)
    (hs : SubI Hs (H.set i (own b (.cells (arr f ys) e')))) (h : SL P ro K w0 N ops Hs items Q D ((t, vI n) :: l) (H.set i (own b (.cells (arr f ys) e')))) : SL P ro K w0 N ops Hs (.cons (false, o) items) Q D l H :=
  SL.step (fun _ : Unit => vI n) (fun _ => H.set i (own b (.cells (arr f ys) e'))) ho rfl (fun a w ha hw => by
    have hg : w.heap[b]? = some (.cells (arr f xs) e' (0, 0)) := hw.holds _ (List.mem_append_left _ (List.mem_of_getElem? hi))
    have hg' : w.heap[b']? = some (.cells (arr f ys) e' (0, 0)) := hw.holds _ (List.mem_append_left _ (List.mem_of_getElem? hi'))
    have hr := run_copy_row (P := P) w ty ty o.type e b 0 n cc ⟨b', 0, none⟩ n cc' (arr f xs) e' (ys.map f) hty hsz hg (by simp [hys]) (fun j v hj => by
      rw [Addr.add_mk]
      simp only [World.cell?, hg', Nat.zero_add, arr]
      simpa using hj) (by simp [arr, hxs, hys]) (fun v hv => by obtain ⟨z, _, rfl⟩ := List.mem_map.1 hv; exact h1 z)
    have hset := hw.putAt (o' := .cells (arr f ys) e') i hi
    have e4 : w.setRow b ((arr f xs).toList.take 0 ++ ys.map f ++ (arr f xs).toList.drop (0 + (ys.map f).length)).toArray = w.putObj b (.cells (arr f ys) e') := by
      have e5 : ((arr f xs).toList.take 0 ++ ys.map f ++ (arr f xs).toList.drop (0 + (ys.map f).length)).toArray = arr f ys := by
        apply Array.ext'
        simp [arr, hxs, hys]
      rw [e5]
      unfold World.setRow World.putObj
      congr 1
      obtain ⟨hlt, hget⟩ := Array.getElem?_eq_some_iff.1 hg
      apply Array.ext_getElem?
      intro k
      rw [Array.getElem?_modify, Array.getElem?_setIfInBounds]
      by_cases hk : b = k
      · subst hk
        simp [hlt, hget]
      · simp [hk]
    rw [e4] at hr
    refine ⟨(), w.putObj b (.cells (arr f ys) e'), ?_, hset⟩
    unfold execOp
    simp only [ho.op, resolve, invoke, builtin, Sem.run_bind, Sem.run_pure, Result.andThen_ok, List.map_toArray, List.map_cons, List.map_nil, ha.eval hx, ha.eval hy, hr]
    simp [goInt, hys]) (fun _ => hs) (fun _ => h)
theorem Con.mono {f : FuncId} {args : List Value} {Hin : List Chunk} {post post' : Value → List Chunk → Prop} (h : Con P K w0 f args Hin H post) (hp : ∀ v M, post v M → post' v M) : Con P K w0 f args Hin H post' := by
  intro w hw
  refine (h w hw).mono ?_
  rintro e w' ⟨v, M, rfl, hq, hw'⟩
  exact ⟨v, M, rfl, hp v M hq, hw'⟩
end Go.Proofs.Ytddjneafgddlcaa

/- The engine's comparison of flat structs. No condition beyond those stated. -/
namespace Go.Proofs.Ytddjneafgddlcaa
open Go

variable {P : Program} {ro : Option Nat} {K : Nat → Prop} {w0 : World} {N : Nat} {Q : Post} {D : List Nat} {l l' : Tm} {H H' Hs L : List Chunk} {ops : Array Oper} {items : Its}
variable {tk : Bool} {o : Oper} {t : Nat} {v : Value} {x y z : Operand}

/-- a field's place and kind, where it is a number, a text or a bool -/
def fltF (P : Program) (f : Field) : Option (Nat × TypeDesc) :=
  if f.name = "_" then none
  else match P.underlying f.type with
    | some (.int k) => some (f.offset, .int k)
    | some .string => some (f.offset, .string)
    | some .bool => some (f.offset, .bool)
    | _ => none
def fltL (P : Program) : List Field → Option (List (Nat × TypeDesc))
  | [] => some []
  | f :: r => match fltF P f, fltL P r with
    | some a, some b => some (a :: b)
    | _, _ => none
/-- a flat struct's fields -/
def flt (P : Program) (t : TypeId) : Option (List (Nat × TypeDesc)) :=
  match P.underlying t with
  | some (.struct fs) => if P.stoodInHeld t || P.eqGuardType P.depth t then none else fltL P fs.toList
  | _ => none
def eqV : TypeDesc → Value → Value → Option Bool
  | .int _, .int k a, .int k' b => if k = k' then some (a == b) else none
  | .string, .string a, .string b => some (a.toList == b.toList)
  | .bool, .bool a, .bool b => some (a == b)
  | _, _, _ => none
def flatE : List (Nat × TypeDesc) → Array Value → Array Value → Option Bool
  | [], _, _ => some true
  | (i, d) :: r, xs, ys =>
    match xs[i]?, ys[i]? with
    | some a, some b => match eqV d a b, flatE r xs ys with
      | some p, some q => some (p && q)
      | _, _ => none
    | _, _ => none
theorem run_eqFields (d : Nat) (xs ys : Array Value) (w : World) : ∀ (fs : List Field) (fl : List (Nat × TypeDesc)) (b : Bool), fltL P fs = some fl → flatE fl xs ys = some b → (Op.eqFields (d + 1) xs ys fs).run P w = .ok b w
  | [], fl, b, h1, h2 => by
    simp only [fltL, Option.some.injEq] at h1
    subst h1
    simp only [flatE, Option.some.injEq] at h2
    subst h2
    simp [Op.eqFields]
  | f :: r, fl, b, h1, h2 => by
    simp only [fltL] at h1
    split at h1
    · rename_i a rl hf hr
      simp only [Option.some.injEq] at h1
      subst h1
      obtain ⟨i, ds⟩ := a
      simp only [flatE] at h2
      split at h2
      · rename_i va vb hva hvb
        split at h2
        · rename_i p q hp hq
          simp only [Option.some.injEq] at h2
          subst h2
          have ih := run_eqFields d xs ys w r rl q hr hq
          unfold fltF at hf
          split at hf
          · cases hf
          · rename_i hname
            have key : ∀ (hof : f.offset = i) (hag : (isAgg f.type).run P w = .ok false w) (he : (Op.equalIn (d + 1) f.type va vb).run P w = .ok p w), (Op.eqFields (d + 1) xs ys (f :: r)).run P w = .ok (p && q) w := by
              intro hof hag he
              simp only [Op.eqFields, ne_eq, hname, not_false_eq_true, if_true, Sem.run_bind]
              have h3 : (part f.type xs f.offset).run P w = .ok va w := by simp [part, hag, hof, hva]
              have h4 : (part f.type ys f.offset).run P w = .ok vb w := by simp [part, hag, hof, hvb]
              simp only [h3, h4, he, Result.andThen_ok]
              cases p with
              | true => simpa using ih
              | false => simp
            split at hf
            · rename_i k hu
              simp only [Option.some.injEq, Prod.mk.injEq] at hf
              obtain ⟨hof, rfl⟩ := hf
              refine key hof (by simp [isAgg, run_underlying hu]) ?_
              unfold eqV at hp
              split at hp
              · rename_i a' b' c' d' e'
                split at hp
                · rename_i hkk
                  simp only [Option.some.injEq] at hp
                  subst hp; subst hkk
                  exact run_equalIn_int w d f.type _ k _ _ hu
                · cases hp
              · rename_i hh; cases hh
              · rename_i hh; cases hh
              · cases hp
            · rename_i hu
              simp only [Option.some.injEq, Prod.mk.injEq] at hf
              obtain ⟨hof, rfl⟩ := hf
              refine key hof (by simp [isAgg, run_underlying hu]) ?_
              unfold eqV at hp
              split at hp
              · rename_i hh; cases hh
              · simp only [Option.some.injEq] at hp
                subst hp
                exact run_equalIn_string w d f.type _ _ hu
              · rename_i hh; cases hh
              · cases hp
            · rename_i hu
              simp only [Option.some.injEq, Prod.mk.injEq] at hf
              obtain ⟨hof, rfl⟩ := hf
              refine key hof (by simp [isAgg, run_underlying hu]) ?_
              unfold eqV at hp
              split at hp
              · rename_i hh; cases hh
              · rename_i hh; cases hh
              · simp only [Option.some.injEq] at hp
                subst hp
                exact run_equalIn_bool' w d f.type _ _ hu
              · cases hp
            · cases hf
        · cases h2
      · cases h2
    · cases h1
theorem flt_run {ty : TypeId} {fl : List (Nat × TypeDesc)} {xs ys : Array Value} {b : Bool} (hf : flt P ty = some fl) (he : flatE fl xs ys = some b) (w : World) :
    (∀ op x y, (eqGuard op ty x y (.agg xs) (.agg ys)).run P w = .ok () w) ∧ (Op.equalIn 10000 ty (.agg xs) (.agg ys)).run P w = .ok b w := by
  unfold flt at hf
  split at hf
  · rename_i fs hu
    split at hf
    · cases hf
    · rename_i hg
      simp only [Bool.not_eq_true, Bool.or_eq_false_iff] at hg
      have hfo : P.fieldsOf ty = fs := by simp [Program.fieldsOf, hu]
      refine ⟨fun op x y => run_eqGuard_agg w op ty x y xs ys hg.2, ?_⟩
      rw [run_equalIn_agg w 9999 ty xs ys (by rw [hfo]; exact hu) hg.1, hfo]
      exact run_eqFields 9998 xs ys w fs.toList fl b hf he
  · cases hf
theorem SL.eqAgg {ty uy : TypeId} {fl : List (Nat × TypeDesc)} {xs ys : Array Value} {b : Bool} (ho : At ops N l o t (.binOp .eql ty x y uy)) (hf : flt P ty = some fl) (hx : evl l x = some (.agg xs)) (hy : evl l y = some (.agg ys)) (he : flatE fl xs ys = some b)
    (h : SL P ro K w0 N ops Hs items Q D ((t, .bool b) :: l) H) : SL P ro K w0 N ops Hs (.cons (tk, o) items) Q D l H :=
  SL.val ho rfl (fun a w ha _ => by
    obtain ⟨h1, h2⟩ := flt_run hf he w
    simp [execOp, ho.op, ha.eval hx, ha.eval hy, h1, run_eql_struct, h2]) h
theorem SL.neAgg {ty uy : TypeId} {fl : List (Nat × TypeDesc)} {xs ys : Array Value} {b : Bool} (ho : At ops N l o t (.binOp .neq ty x y uy)) (hf : flt P ty = some fl) (hx : evl l x = some (.agg xs)) (hy : evl l y = some (.agg ys)) (he : flatE fl xs ys = some b)
    (h : SL P ro K w0 N ops Hs items Q D ((t, .bool (!b)) :: l) H) : SL P ro K w0 N ops Hs (.cons (tk, o) items) Q D l H :=
  SL.val ho rfl (fun a w ha _ => by
    obtain ⟨h1, h2⟩ := flt_run hf he w
    simp [execOp, ho.op, ha.eval hx, ha.eval hy, h1, run_neq_struct, h2]) h
/-- texts that are the same -/
theorem Bin.sameS {s : List UInt8} : Bin .eql (vS s) (vS s) (.bool true) := fun P w ty x y => by
  have := Bin.eqS (s := s) (t := s) P w ty x y
  simpa using this
end Go.Proofs.Ytddjneafgddlcaa

/- The engine's rules for printed walks: each partial operation under the equation that says what it gives; rows of a call's own, typed. No condition beyond those stated. -/
namespace Go.Proofs.Ytddjneafgddlcaa
open Go

variable {P : Program} {ro : Option Nat} {K : Nat → Prop} {w0 : World} {N : Nat} {Q : Post} {D : List Nat} {l l' : Tm} {H H' Hs L : List Chunk} {ops : Array Oper} {items : Its}
variable {tk : Bool} {o : Oper} {t : Nat} {v : Value} {x y z : Operand}

/-! ### Plain words of printed functions -/
def wI (x : Int) : Int := IntKind.i64.wrap x
theorem wI_eq {x : Int} (h1 : -9223372036854775808 ≤ x) (h2 : x ≤ 9223372036854775807) : wI x = x := wrap_of (k := .i64) h1 h2
def nthI {α : Type} (l : List α) (i : Int) : Option α := if 0 ≤ i then l[i.toNat]? else none
def slcI {α : Type} (l : List α) (i j : Int) : Option (List α) := if 0 ≤ i ∧ i ≤ j ∧ j ≤ l.length then some ((l.drop i.toNat).take (j.toNat - i.toNat)) else none
def setI {α : Type} (l : List α) (i : Int) (a : α) : Option (List α) := if 0 ≤ i ∧ i < l.length then some (l.set i.toNat a) else none
def catS (s t : List UInt8) : Option (List UInt8) := if s.length + t.length ≤ 9223372036854775807 then some (s ++ t) else none
def appL {α : Type} (by_ : Nat) (s t : List α) : Option (List α) := if (s.length + t.length) * by_ ≤ 140737488355328 ∧ s.length + t.length ≤ 9223372036854775807 then some (s ++ t) else none
def shN (i : Int) : Option Nat := if 0 ≤ i then some i.toNat else none
def quoI (a b : Int) : Option Int := if b = 0 then none else some (wI (a.tdiv b))
def remI (a b : Int) : Option Int := if b = 0 then none else some (a.tmod b)
def quo64 (a b : UInt64) : Option UInt64 := if b = 0 then none else some (a / b)
def rem64 (a b : UInt64) : Option UInt64 := if b = 0 then none else some (a % b)
def andO (b : Bool) (c : Option Bool) : Option Bool := cond b c (some false)
def orO (b : Bool) (c : Option Bool) : Option Bool := cond b (some true) c
/-- a loop's rounds, at most so many -/
def loopN {α β : Type} (F : (α → Option β) → α → Option β) : Nat → α → Option β
  | 0, _ => none
  | m + 1, a => F (loopN F m) a
def ret {α β : Type} (e : α) (k : α → β) : β := k e
theorem bnd {α β : Type} {a : Option α} {f : α → Option β} {r : β} (h : a.bind f = some r) : ∃ x, a = some x ∧ f x = some r := Option.bind_eq_some_iff.1 h
theorem retE {α β : Type} {e : α} {k : α → Option β} {r : β} (h : ret e k = some r) : ∃ x, e = x ∧ k x = some r := ⟨e, rfl, h⟩
theorem cT {α : Type} {b : Bool} {x y : Option α} {r : α} (hb : b = true) (h : cond b x y = some r) : x = some r := by subst hb; exact h
theorem cF {α : Type} {b : Bool} {x y : Option α} {r : α} (hb : b = false) (h : cond b x y = some r) : y = some r := by subst hb; exact h
theorem nthI_some {α : Type} {l : List α} {i : Int} {a : α} (h : nthI l i = some a) : i = (i.toNat : Int) ∧ i.toNat < l.length ∧ l[i.toNat]? = some a := by
  unfold nthI at h
  split at h
  · rename_i h0
    obtain ⟨hlt, _⟩ := List.getElem?_eq_some_iff.1 h
    exact ⟨by omega, hlt, h⟩
  · cases h
theorem slcI_some {α : Type} {l u : List α} {i j : Int} (h : slcI l i j = some u) : i = (i.toNat : Int) ∧ j = (j.toNat : Int) ∧ i.toNat ≤ j.toNat ∧ j.toNat ≤ l.length ∧ u = (l.drop i.toNat).take (j.toNat - i.toNat) := by
  unfold slcI at h
  split at h
  · rename_i h0
    exact ⟨by omega, by omega, by omega, by omega, (Option.some.inj h).symm⟩
  · cases h

abbrev eI (x : Int) : List Value := [vI x]
abbrev eU8 (x : UInt8) : List Value := [vU8 x]
abbrev eU32 (x : UInt32) : List Value := [vU32 x]
abbrev eU64 (x : UInt64) : List Value := [vU64 x]
abbrev eS (x : List UInt8) : List Value := [vS x]
abbrev eB (x : Bool) : List Value := [vB x]

/-! ### Operators -/
theorem Bin.addW {a b : Int} : Bin .add (vI a) (vI b) (vI (wI (a + b))) := fun P w ty x y => ⟨eqGuard_int .., by simp [binOp, Op.intArith, wI]⟩
theorem Bin.subW {a b : Int} : Bin .sub (vI a) (vI b) (vI (wI (a - b))) := fun P w ty x y => ⟨eqGuard_int .., by simp [binOp, Op.intArith, wI]⟩
theorem Bin.mulW {a b : Int} : Bin .mul (vI a) (vI b) (vI (wI (a * b))) := fun P w ty x y => ⟨eqGuard_int .., by simp [binOp, Op.intArith, wI]⟩
theorem Bin.divO {a b c : Int} (h : quoI a b = some c) : Bin .quo (vI a) (vI b) (vI c) := fun P w ty x y => ⟨eqGuard_int .., by
  unfold quoI at h
  split at h
  · cases h
  · rename_i h0
    obtain rfl := Option.some.inj h
    simp [binOp, Op.intDiv, h0, wI]⟩
theorem Bin.modO {a b c : Int} (h : remI a b = some c) : Bin .rem (vI a) (vI b) (vI c) := fun P w ty x y => ⟨eqGuard_int .., by
  unfold remI at h
  split at h
  · cases h
  · rename_i h0
    obtain rfl := Option.some.inj h
    simp [binOp, Op.intDiv, h0]⟩
theorem SL.eqB {ty uy : TypeId} {a b : Bool} (ho : At ops N l o t (.binOp .eql ty x y uy)) (hty : P.underlying ty = some .bool) (hx : evl l x = some (vB a)) (hy : evl l y = some (vB b))
    (h : SL P ro K w0 N ops Hs items Q D ((t, .bool (a == b)) :: l) H) : SL P ro K w0 N ops Hs (.cons (tk, o) items) Q D l H :=
  SL.val ho rfl (fun a' w ha _ => by
    have h1 := run_eql_bool (P := P) (w := w) ty a b hty
    simp [execOp, ho.op, ha.eval hx, ha.eval hy, eqGuard, h1]) h
theorem SL.neB {ty uy : TypeId} {a b : Bool} (ho : At ops N l o t (.binOp .neq ty x y uy)) (hty : P.underlying ty = some .bool) (hx : evl l x = some (vB a)) (hy : evl l y = some (vB b))
    (h : SL P ro K w0 N ops Hs items Q D ((t, .bool (!(a == b))) :: l) H) : SL P ro K w0 N ops Hs (.cons (tk, o) items) Q D l H :=
  SL.val ho rfl (fun a' w ha _ => by
    have h1 := run_neq_bool (P := P) (w := w) ty a b hty
    simp [execOp, ho.op, ha.eval hx, ha.eval hy, eqGuard, h1]) h
theorem Bin.shl32O {a : UInt32} {k : IntKind} {i : Int} {n : Nat} (h : shN i = some n) : Bin .shl (vU32 a) (.int k i) (vU32 (Go.Proofs.Ytddjneafgddlcaa.shl32 a n)) := by
  unfold shN at h
  split at h
  · obtain rfl := Option.some.inj h
    have : i = (i.toNat : Int) := by omega
    rw [this]
    exact Bin.shl32
  · cases h
theorem Bin.shr32O {a : UInt32} {k : IntKind} {i : Int} {n : Nat} (h : shN i = some n) : Bin .shr (vU32 a) (.int k i) (vU32 (Go.Proofs.Ytddjneafgddlcaa.shr32 a n)) := by
  unfold shN at h
  split at h
  · obtain rfl := Option.some.inj h
    have : i = (i.toNat : Int) := by omega
    rw [this]
    exact Bin.shr32
  · cases h
theorem Bin.shr64O {a : UInt64} {k : IntKind} {i : Int} {n : Nat} (h : shN i = some n) : Bin .shr (vU64 a) (.int k i) (vU64 (Go.Proofs.Ytddjneafgddlcaa.shr64 a n)) := by
  unfold shN at h
  split at h
  · obtain rfl := Option.some.inj h
    have : i = (i.toNat : Int) := by omega
    rw [this]
    exact Bin.shr64
  · cases h
theorem Bin.shl64O {a : UInt64} {k : IntKind} {i : Int} {n : Nat} (h : shN i = some n) : Bin .shl (vU64 a) (.int k i) (vU64 (Go.Proofs.Ytddjneafgddlcaa.shl64 a n)) := by
  unfold shN at h
  split at h
  · obtain rfl := Option.some.inj h
    have : i = (i.toNat : Int) := by omega
    rw [this]
    exact Bin.shl64
  · cases h
theorem Bin.div64O {a b c : UInt64} (h : quo64 a b = some c) : Bin .quo (vU64 a) (vU64 b) (vU64 c) := fun P w ty x y => ⟨eqGuard_int .., by
  unfold quo64 at h
  split at h
  · cases h
  · rename_i hb
    obtain rfl := Option.some.inj h
    have h0 : ((b.toNat : Int)) ≠ 0 := by
      intro h
      have : b.toNat = 0 := by omega
      exact hb (UInt64.toNat_inj.1 this)
    have h1 : IntKind.u64.wrap (Int.tdiv (a.toNat : Int) (b.toNat : Int)) = ((a / b).toNat : Int) := by
      rw [wrap_u64, Int.tdiv_eq_ediv_of_nonneg (by omega), UInt64.toNat_div]
      have h2 : a.toNat / b.toNat ≤ a.toNat := Nat.div_le_self _ _
      have := a.toNat_lt
      rw [show ((a.toNat : Int) / (b.toNat : Int)) = ((a.toNat / b.toNat : Nat) : Int) from rfl]
      generalize a.toNat / b.toNat = q at h2 ⊢
      omega
    simp only [binOp, Op.intDiv, ne_eq, not_true_eq_false, if_false, h0, h1, Sem.run_pure]⟩
theorem Bin.mod64O {a b c : UInt64} (h : rem64 a b = some c) : Bin .rem (vU64 a) (vU64 b) (vU64 c) := by
  unfold rem64 at h
  split at h
  · cases h
  · rename_i hb
    obtain rfl := Option.some.inj h
    exact Bin.mod64 hb
theorem Bin.catO {s t u : List UInt8} (h : catS s t = some u) : Bin .add (vS s) (vS t) (vS u) := by
  unfold catS at h
  split at h
  · rename_i hl
    obtain rfl := Option.some.inj h
    exact Bin.cat hl
  · cases h

/-! ### Texts -/
theorem SL.ixN {s : List UInt8} {ty : TypeId} {k : IntKind} {i : Int} {c : UInt8} (hn : nthI s i = some c) (ho : At ops N l o t (.index ty x y)) (hty : P.underlying ty = some .string) (hx : evl l x = some (vS s)) (hy : evl l y = some (.int k i))
    (h : SL P ro K w0 N ops Hs items Q D ((t, vU8 c) :: l) H) : SL P ro K w0 N ops Hs (.cons (tk, o) items) Q D l H := by
  obtain ⟨h1, h2, h3⟩ := nthI_some hn
  refine SL.ixS i.toNat ho hty hx hy h1 h2 ?_
  have : s.getD i.toNat 0 = c := by simp [List.getD_eq_getElem?_getD, h3]
  rw [this]
  exact h
theorem SL.slN {s u : List UInt8} {ty : TypeId} {k k' : IntKind} {i j : Int} (hn : slcI s i j = some u) (ho : At ops N l o t (.slice ty x (some y) (some z) none)) (hty : P.underlying ty = some .string) (hx : evl l x = some (vS s)) (hy : evl l y = some (.int k i)) (hz : evl l z = some (.int k' j))
    (h : SL P ro K w0 N ops Hs items Q D ((t, vS u) :: l) H) : SL P ro K w0 N ops Hs (.cons (tk, o) items) Q D l H := by
  obtain ⟨h1, h2, h3, h4, rfl⟩ := slcI_some hn
  exact SL.slS i.toNat j.toNat ho hty hx hy hz h1 h2 h3 h4 h
theorem SL.slNl {s u : List UInt8} {ty : TypeId} {k : IntKind} {i : Int} (hn : slcI s i (s.length : Int) = some u) (ho : At ops N l o t (.slice ty x (some y) none none)) (hty : P.underlying ty = some .string) (hx : evl l x = some (vS s)) (hy : evl l y = some (.int k i))
    (h : SL P ro K w0 N ops Hs items Q D ((t, vS u) :: l) H) : SL P ro K w0 N ops Hs (.cons (tk, o) items) Q D l H := by
  obtain ⟨h1, h2, h3, h4, rfl⟩ := slcI_some hn
  refine SL.slSl i.toNat ho hty hx hy h1 (by omega) ?_
  rw [List.take_of_length_le (by simp)] at h
  exact h
theorem SL.slNh {s u : List UInt8} {ty : TypeId} {k : IntKind} {j : Int} (hn : slcI s 0 j = some u) (ho : At ops N l o t (.slice ty x none (some z) none)) (hty : P.underlying ty = some .string) (hx : evl l x = some (vS s)) (hz : evl l z = some (.int k j))
    (h : SL P ro K w0 N ops Hs items Q D ((t, vS u) :: l) H) : SL P ro K w0 N ops Hs (.cons (tk, o) items) Q D l H := by
  obtain ⟨h1, h2, h3, h4, rfl⟩ := slcI_some hn
  exact SL.slSh j.toNat ho hty hx hz h2 h4 (by simpa using h)

/-! ### Slices in kept memory -/
theorem SL.iaN {α : Type} {enc : α → List Value} {sz : Nat} {xs : List α} {k : IntKind} {i : Int} {ty e : TypeId} {x0 : α} (hn : nthI xs i = some x0) (hk : SlOf K w0 enc sz v xs) (ho : At ops N l o t (.indexAddr ty x y)) (hty : P.underlying ty = some (.slice e)) (hsz : tsz P e = some sz) (hx : evl l x = some v) (hy : evl l y = some (.int k i))
    (h : ∀ b off, (∀ L w, HpS K w0 L w → ∀ j u, (enc x0)[j]? = some u → w.cell? ⟨b, off + j, none⟩ = some u) → SL P ro K w0 N ops Hs items Q D ((t, vP b off) :: l) H) : SL P ro K w0 N ops Hs (.cons (tk, o) items) Q D l H := by
  obtain ⟨h1, h2, h3⟩ := nthI_some hn
  exact SL.iaV i.toNat x0 hk ho hty hsz hx hy h1 h3 h
theorem cell_kept {b off j : Nat} {u : Value} {cs : List Value} (hc : ∀ L w, HpS K w0 L w → ∀ j u, cs[j]? = some u → w.cell? ⟨b, off + j, none⟩ = some u) (hj : cs[j]? = some u) : ∀ w, HpS K w0 L w → w.cell? ⟨b, off + j, none⟩ = some u := fun w hw => hc L w hw j u hj
theorem cells_kept {b off : Nat} {cs : List Value} (hc : ∀ L w, HpS K w0 L w → ∀ j u, cs[j]? = some u → w.cell? ⟨b, off + j, none⟩ = some u) : ∀ w, HpS K w0 L w → ∀ j u, cs[j]? = some u → w.cell? (Addr.add ⟨b, off, none⟩ j) = some u :=
  fun w hw j u hu => by rw [Addr.add_mk]; exact hc L w hw j u hu
theorem SL.slVN {α : Type} {enc : α → List Value} {sz : Nat} {xs us : List α} {k : IntKind} {j : Int} {ty e : TypeId} (hn : slcI xs 0 j = some us) (hk : SlOf K w0 enc sz v xs) (ho : At ops N l o t (.slice ty x none (some z) none)) (hty : P.underlying ty = some (.slice e)) (hsz : tsz P e = some sz) (hx : evl l x = some v) (hz : evl l z = some (.int k j))
    (h : ∀ v', SlOf K w0 enc sz v' us → SL P ro K w0 N ops Hs items Q D ((t, v') :: l) H) : SL P ro K w0 N ops Hs (.cons (tk, o) items) Q D l H := by
  obtain ⟨h1, h2, h3, h4, rfl⟩ := slcI_some hn
  exact SL.slV j.toNat hk ho hty hsz hx hz h2 h4 (fun v' hv' => h v' (by simpa using hv'))

/-! ### Rows of a call's own, typed, never frozen -/
def rowT {α : Type} (e : TypeId) (sz : Nat) (v : Value) (enc : α → List Value) (xs : List α) : Chunk :=
  ⟨fun b => v.ownBlock = some b, fun w => w.ownsRow 0 e sz v xs.length (xs.flatMap enc), fun w w' h hw => by
    refine ⟨hw.1, ?_⟩
    rcases hw.2 with hn | ⟨g, cap, cur, rfl, hb, hgg, rest⟩
    · exact .inl hn
    · exact .inr ⟨g, cap, cur, rfl, hb, by rw [h g rfl]; exact hgg, rest⟩⟩
section rows
variable {α : Type} {enc : α → List Value} {sz : Nat} {xs us : List α} {e ty : TypeId}
theorem flatMap_len (hl : ∀ x, (enc x).length = sz) : ∀ ys : List α, (ys.flatMap enc).length = ys.length * sz
  | [] => by simp
  | y :: ys => by rw [List.flatMap_cons, List.length_append, flatMap_len hl ys, hl, List.length_cons, Nat.add_mul, Nat.one_mul, Nat.add_comm]
theorem HpOk.nilT {w : World} (e : TypeId) (sz : Nat) (enc : α → List Value) (h : HpOk K w0 H w) : HpOk K w0 (rowT e sz (.slice none 0 0) enc [] :: H) w := by
  refine h.cons (n := w.heap.size) (Nat.le_refl _) (fun d hd b hb => (h.foot d hd b hb).1) h.kltw (World.ownsRow_nil ..) ?_
  intro b hb
  simp [rowT, Value.ownBlock] at hb
theorem SL.nilT (e : TypeId) (sz : Nat) (enc : α → List Value) (h : SL P ro K w0 N ops Hs items Q D l (rowT e sz (.slice none 0 0) enc [] :: H)) : SL P ro K w0 N ops Hs items Q D l H :=
  fun a w ha hw hs => h a w ha (hw.nilT e sz enc) hs
theorem rowT_cells {w : World} {g n cap : Nat} {c : α} {i j : Nat} {u : Value} (hl : ∀ x, (enc x).length = sz) (h : (rowT e sz v enc xs).holds w) (hv : v = .slice (some ⟨g, 0, none⟩) n cap) (hi : xs[i]? = some c) (hj : (enc c)[j]? = some u) : w.cell? ⟨g, i * sz + j, none⟩ = some u := by
  have hrow : w.ownsRow 0 e sz v xs.length (xs.flatMap enc) := h
  have hF := World.ownsRowF_of hrow
  have := hF.cells (g := g) (by rw [hv]; rfl) (i * sz + j) u (flatMap_get hl xs i c j u hi hj)
  rw [Addr.add_mk] at this
  simpa using this
theorem cell_rowT {g n cap : Nat} {c : α} {i : Int} {u : Value} (k j : Nat) (hl : ∀ x, (enc x).length = sz) (hk : L[k]? = some (rowT e sz v enc xs)) (hv : v = .slice (some ⟨g, 0, none⟩) n cap) (hi : nthI xs i = some c) (hj : (enc c)[j]? = some u) : ∀ w, HpS K w0 L w → w.cell? ⟨g, i.toNat * sz + j, none⟩ = some u :=
  fun _w hw => rowT_cells hl (hw.holds _ (List.mem_of_getElem? hk)) hv (nthI_some hi).2.2 hj
theorem cells_rowT {g n cap : Nat} {c : α} {i : Int} (k : Nat) (hl : ∀ x, (enc x).length = sz) (hk : L[k]? = some (rowT e sz v enc xs)) (hv : v = .slice (some ⟨g, 0, none⟩) n cap) (hi : nthI xs i = some c) : ∀ w, HpS K w0 L w → ∀ j u, (enc c)[j]? = some u → w.cell? (Addr.add ⟨g, i.toNat * sz, none⟩ j) = some u :=
  fun w hw j u hu => by rw [Addr.add_mk]; exact cell_rowT k j hl hk hv hi hu w hw
theorem SL.lenT (k : Nat) (ho : At ops N l o t (.call { callee := .builtin .len, args := #[x], argTypes := #[ty] })) (hty : P.underlying ty = some (.slice e)) (hx : evl l x = some v)
    {e' : TypeId} (hk : (bif tk then Hs else H)[k]? = some (rowT e' sz v enc xs)) (h : SL P ro K w0 N ops Hs items Q D ((t, vI xs.length) :: l) H) : SL P ro K w0 N ops Hs (.cons (tk, o) items) Q D l H :=
  SL.val ho rfl (fun a w ha hsw => by
    have hrow : w.ownsRow 0 e' sz v xs.length (xs.flatMap enc) := hsw.holds _ (List.mem_of_getElem? hk)
    simp only [execOp, ho.op, resolve, invoke, builtin, Builtin.len_]
    rcases hrow.2 with ⟨rfl, hn⟩ | ⟨g, cap, cur, rfl, _⟩
    · simp [ha.eval hx, run_underlying hty, goInt, hn]
    · simp [ha.eval hx, run_underlying hty, goInt]) h
theorem SL.iaT (k : Nat) {kk : IntKind} {i : Int} {c : α} (hn : nthI xs i = some c) (ho : At ops N l o t (.indexAddr ty x y)) (hty : P.underlying ty = some (.slice e)) (hsz : tsz P e = some sz) (hx : evl l x = some v) (hy : evl l y = some (.int kk i))
    (hk : H[k]? = some (rowT e sz v enc xs))
    (h : ∀ g m cap, v = .slice (some ⟨g, 0, none⟩) m cap → SL P ro K w0 N ops Hs items Q D ((t, vP g (i.toNat * sz)) :: l) H) : SL P ro K w0 N ops Hs (.cons (tk, o) items) Q D l H := by
  intro a w ha hw hs
  have hrow : w.ownsRow 0 e sz v xs.length (xs.flatMap enc) := hw.holds _ (List.mem_append_left _ (List.mem_of_getElem? hk))
  obtain ⟨h1, h2, h3⟩ := nthI_some hn
  rcases hrow.2 with ⟨_, h0⟩ | ⟨g, cap, cur, hv, _⟩
  · omega
  · exact (SL.ia (n := i.toNat) ho hty hsz (hx.trans (by rw [hv])) hy h1 h2 (by simpa using h g xs.length cap hv)) a w ha hw hs
theorem flatMap_set (hl : ∀ x, (enc x).length = sz) : ∀ (xs : List α) (i : Nat) (a : α), i < xs.length → (xs.set i a).flatMap enc = (xs.flatMap enc).take (i * sz) ++ enc a ++ (xs.flatMap enc).drop (i * sz + sz)
  | [], i, a, h => by simp at h
  | b :: r, 0, a, _ => by
    have hb := hl b
    simp only [List.set_cons_zero, List.flatMap_cons, Nat.zero_mul, List.take_zero, List.nil_append, Nat.zero_add]
    rw [List.drop_append_of_le_length (by omega), List.drop_of_length_le (by omega), List.nil_append]
  | b :: r, i + 1, a, h => by
    have hb := hl b
    have ih := flatMap_set hl r i a (by simpa using h)
    simp only [List.set_cons_succ, List.flatMap_cons]
    rw [ih]
    have e1 : (i + 1) * sz = (enc b).length + i * sz := by rw [hb, Nat.add_mul]; omega
    have e2 : (i + 1) * sz + sz = (enc b).length + (i * sz + sz) := by rw [hb, Nat.add_mul]; omega
    rw [e2, e1, List.take_length_add_append, List.drop_length_add_append]
    simp
theorem SL.stTN (k : Nat) {g m cap : Nat} {i : Int} {u : Value} {a : α} (hn : setI xs i a = some us) (hl : ∀ x, (enc x).length = sz) (ho : At0 ops l o (.store ty x y)) (hx : evl l x = some (vP g (i.toNat * sz))) (hy : evl l y = some u) (hu : u.cells.toList = enc a) (hk : H[k]? = some (rowT e sz v enc xs)) (hv : v = .slice (some ⟨g, 0, none⟩) m cap)
    (hsz : tsz P ty = some sz) (h1 : ∀ c ∈ enc a, c.oneCell' = true) (hs : SubI Hs (H.set k (rowT e sz v enc us))) (h : SL P ro K w0 N ops Hs items Q D l (H.set k (rowT e sz v enc us))) : SL P ro K w0 N ops Hs (.cons (false, o) items) Q D l H := by
  unfold setI at hn
  split at hn
  · rename_i hi
    obtain rfl := Option.some.inj hn
    refine SL.step0 ho rfl (fun a' w ha hw => ?_) hs h
    have hrow : w.ownsRow 0 e sz v xs.length (xs.flatMap enc) := hw.holds _ (List.mem_append_left _ (List.mem_of_getElem? hk))
    have hlt : i.toNat < xs.length := by omega
    rcases hrow.2 with ⟨hv', h0⟩ | ⟨g', cap', cur, hv', hb, hg, hnc, hcm, hcs, htk⟩
    · rw [hv'] at hv; cases hv
    · obtain ⟨rfl, rfl, rfl⟩ : g' = g ∧ xs.length = m ∧ cap' = cap := by rw [hv'] at hv; simpa using hv
      have hucz : u.cells.size = sz := by rw [← Array.length_toList, hu, hl]
      have hle : i.toNat * sz + sz ≤ xs.length * sz := by
        have := Nat.mul_le_mul_right sz (show i.toNat + 1 ≤ xs.length by omega)
        rw [Nat.add_mul, Nat.one_mul] at this
        exact this
      have hle2 : xs.length * sz ≤ cap' * sz := Nat.mul_le_mul_right _ hnc
      obtain ⟨w', hrun, hw'⟩ := run_storeCells (P := P) u.cells.toList (i.toNat * sz) 0 cur w hg (by rw [Array.length_toList, hucz]; omega) (by rw [hu]; exact h1)
      refine ⟨w', ?_, ?_⟩
      · simp [execOp, ho.op, Instr.storeAt, Instr.sureAddr, ha.eval hx, ha.eval hy, storeVar, run_sizeOf hsz, hucz]
        rw [hrun]
        rfl
      · rw [hw']
        obtain ⟨hlt2, _⟩ := Array.getElem?_eq_some_iff.1 hg
        refine hw.turnAt (c := rowT e sz v enc xs) k hk rfl rfl rfl (by simp) (fun b hb hne => World.putObj_heap_other (fun e => hne (by subst e; rw [hv']; rfl))) ⟨flatMap_len hl _, .inr ⟨g', cap', _, by rw [hv', List.length_set], Nat.zero_le _, World.putObj_heap_same hlt2, by simpa using hnc, hcm, by rw [setL_size, hcs], ?_⟩⟩ (fun b hb => ⟨.inl hb, ?_⟩)
        · have hcl : (enc a).length = sz := hl a
          rw [setL_toList _ _ _ (by rw [hu, hcl]; omega), flatMap_set hl xs i.toNat a hlt, hu, hcl, ← htk, List.length_set, Nat.add_zero]
          have e1 : (cur.toList.take (i.toNat * sz)).length = i.toNat * sz := by simp; omega
          rw [List.take_take, Nat.min_eq_left (by omega)]
          have e2 : (cur.toList.take (i.toNat * sz) ++ enc a).length = i.toNat * sz + sz := by rw [List.length_append, e1, hcl]
          rw [List.take_append, e2, List.take_of_length_le (by omega)]
          congr 1
          rw [List.drop_take]
        · have : b = g' := by
            have hb' : v.ownBlock = some b := hb
            rw [hv'] at hb'
            simpa [Value.ownBlock] using hb'.symm
          subst this
          simpa using hlt2
  · cases hn
/-- append of a slice whose elements are known -/
theorem SL.appT {by_ m c : Nat} {zv : Value} {new : List α} {ad : Addr} (k : Nat) (hn : appL by_ xs new = some us) (hl : ∀ x, (enc x).length = sz) (ho : At ops N l o t (.call { callee := .builtin .append, args := #[x, y], argTypes := #[ty, ty] }))
    (hty : P.underlying ty = some (.slice e)) (hsz : tsz P e = some sz) (hby : byt P e = some by_) (hze : zer P e = some zv) (hzs : zv.cells.size = sz) (hsz0 : 0 < sz)
    (hx : evl l x = some v) (hy : evl l y = some (.slice (some ad) m c)) (hm : m = new.length) (hk : H[k]? = some (rowT e sz v enc xs))
    (hnews : ∀ w, HpS K w0 H w → ∀ j u, (new.flatMap enc)[j]? = some u → w.cell? (ad.add j) = some u) (h1 : ∀ a, ∀ u ∈ enc a, u.oneCell' = true)
    (hs : ∀ v', SubI Hs (H.set k (rowT e sz v' enc us)))
    (h : ∀ v', SL P ro K w0 N ops Hs items Q D ((t, v') :: l) (H.set k (rowT e sz v' enc us))) : SL P ro K w0 N ops Hs (.cons (false, o) items) Q D l H := by
  unfold appL at hn
  split at hn
  · rename_i hb
    obtain rfl := Option.some.inj hn
    subst hm
    have hfl := flatMap_len hl
    refine SL.step (fun v' => v') (fun v' => H.set k (rowT e sz v' enc (xs ++ new))) ho rfl (fun a w ha hw => ?_) hs h
    obtain ⟨ii, hii, e1, e2, e3⟩ := info_of hsz hby hze
    have hrow : w.ownsRow 0 e sz v xs.length (xs.flatMap enc) := hw.holds _ (List.mem_append_left _ (List.mem_of_getElem? hk))
    obtain ⟨v', w', hr, hr2, hr3, _, hr4⟩ := run_append_own_at (P := P) w 0 ty o.type e ii zv sz by_ hty hii e3 e1 e2 hzs hsz0 v xs.length _ hrow ad new.length c (new.flatMap enc) (hfl new) (hnews w hw.dropMarks.s) (fun u hu => by
      obtain ⟨a, _, ha⟩ := List.mem_flatMap.1 hu
      exact h1 a u ha) (by simp only [maxLen]; omega) hb.1 (Nat.zero_le _)
    refine ⟨v', w', ?_, hw.turnAt (c := rowT e sz v enc xs) k hk hr3.os hr3.tape hr3.output hr3.size (fun b hb hne => hr3.block b hb (fun e => hne e.symm)) (show w'.ownsRow 0 e sz v' (xs ++ new).length ((xs ++ new).flatMap enc) by rw [List.flatMap_append, List.length_append]; exact hr2) ?_⟩
    · unfold execOp
      simp only [ho.op, resolve, invoke, builtin, Sem.run_bind, Sem.run_pure, Result.andThen_ok, List.map_toArray, List.map_cons, List.map_nil, ha.eval hx, ha.eval hy, hr]
    · intro b hb
      refine ⟨?_, (hr2.lt b hb).2⟩
      have hb' : v'.ownBlock = some b := hb
      rcases hr4 with h4 | h4
      · exact .inl (by rw [h4] at hb'; exact hb')
      · rw [h4] at hb'
        right
        simp at hb'
        omega
  · cases hn
/-- an own block, full of elements, seen as a row -/
theorem HpOk.ownT {w : World} {b : Nat} {c : Array Value} (xs : List α) (h : HpOk K w0 (own b (.cells c e) :: H) w) (hc : c.toList = xs.flatMap enc) (hl : ∀ x, (enc x).length = sz) (hm : xs.length ≤ 9223372036854775807) : HpOk K w0 (rowT e sz (.slice (some ⟨b, 0, none⟩) xs.length xs.length) enc xs :: H) w := by
  have hfl := flatMap_len hl
  have hcs : c.size = xs.length * sz := by rw [← Array.length_toList, hc, hfl]
  refine h.turn rfl rfl rfl (Nat.le_refl _) (fun _ _ _ => rfl) ⟨hfl xs, .inr ⟨b, xs.length, c, rfl, Nat.zero_le _, h.holds _ (List.mem_cons_self ..), Nat.le_refl _, by simp only [maxLen]; omega, hcs, by rw [hc, ← hfl]; exact List.take_length⟩⟩ (fun k hk => ?_)
  have hkb : k = b := by simp [rowT, Value.ownBlock] at hk; exact hk.symm
  subst hkb
  exact ⟨.inl rfl, (h.foot _ (List.mem_cons_self ..) k rfl).1⟩
theorem SL.ownT {b : Nat} {c : Array Value} (enc : α → List Value) (sz : Nat) (xs : List α) (hc : c.toList = xs.flatMap enc) (hl : ∀ x, (enc x).length = sz) (hm : Nat.ble xs.length 1000000 = true)
    (h : SL P ro K w0 N ops Hs items Q D l (rowT e sz (.slice (some ⟨b, 0, none⟩) xs.length xs.length) enc xs :: H)) : SL P ro K w0 N ops Hs items Q D l (own b (.cells c e) :: H) :=
  fun a w ha hw hs => h a w ha (hw.ownT xs hc hl (by have := Nat.le_of_ble_eq_true hm; omega)) hs
/-- .. whose room is empty -/
theorem SL.mkT {by_ n : Nat} {zv : Value} {k k' : IntKind} (enc : α → List Value) (ho : At ops N l o t (.makeSlice ty x y)) (hty : P.underlying ty = some (.slice e)) (hsz : tsz P e = some sz) (hby : byt P e = some by_) (hze : zer P e = some zv) (_hzs : zv.cells.size = sz)
    (hx : evl l x = some (.int k 0)) (hy : evl l y = some (.int k' (n : Int))) (hb : Nat.ble (by_ * n) 281474976710656 = true) (h63 : Nat.ble n 9223372036854775807 = true)
    (hs : ∀ v', SubI Hs (rowT e sz v' enc [] :: H)) (h : ∀ v', SL P ro K w0 N ops Hs items Q D ((t, v') :: l) (rowT e sz v' enc [] :: H)) : SL P ro K w0 N ops Hs (.cons (false, o) items) Q D l H :=
  SL.step (fun b => .slice (some ⟨b, 0, none⟩) 0 n) (fun b => rowT e sz (.slice (some ⟨b, 0, none⟩) 0 n) enc [] :: H) ho rfl (fun a w ha hw => by
    obtain ⟨ii, hii, e1, e2, e3⟩ := info_of hsz hby hze
    have hbn := Nat.le_of_ble_eq_true hb
    have h63n := Nat.le_of_ble_eq_true h63
    have hb' : (ii.bytes : Int) * (n : Int) ≤ 281474976710656 := by rw [e2, ← Int.natCast_mul]; omega
    have hr := run_make (P := P) w ty e ii zv hty hii e3 k k' 0 n (by omega) (by omega) hb' (by omega)
    rw [e1] at hr
    simp only [Int.toNat_natCast] at hr
    refine ⟨w.heap.size, w.alloc (.cells (madeCells zv.cells (n * sz)) e), ?_, ?_⟩
    · unfold execOp
      simp only [ho.op, ha.eval hx, ha.eval hy, Sem.run_bind, hr, Result.andThen_ok, Sem.run_pure]
      rfl
    · have h2 := hw.alloc (.cells (madeCells zv.cells (n * sz)) e)
      refine h2.turn rfl rfl rfl (Nat.le_refl _) (fun _ _ _ => rfl) ⟨by simp, .inr ⟨w.heap.size, n, _, rfl, Nat.zero_le _, h2.holds _ (List.mem_cons_self ..), Nat.zero_le _, by simp only [maxLen]; omega, ?_, by simp⟩⟩ (fun k hk => ?_)
      · simp [madeCells]
      · have hkb : k = w.heap.size := by simp [rowT, Value.ownBlock] at hk; exact hk.symm
        subst hkb
        exact ⟨.inl rfl, (h2.foot _ (List.mem_cons_self ..) _ rfl).1⟩) (fun b => hs _) (fun b => h _)
theorem SlOf.lentT {K' : Nat → Prop} {w1 : World} (hl : ∀ x, (enc x).length = sz) (h : (rowT e sz v enc xs).holds w1 ∧ ∀ k, (rowT e sz v enc xs).foot k → K' k) : SlOf K' w1 enc sz v xs := by
  have hrow : w1.ownsRow 0 e sz v xs.length (xs.flatMap enc) := h.1
  refine ⟨hl, ?_⟩
  rcases hrow.2 with ⟨rfl, h0⟩ | ⟨g, cap, cur, rfl, _, hg, hc, _⟩
  · exact .inl ⟨_, rfl, List.length_eq_zero_iff.1 h0⟩
  · refine .inr ⟨g, 0, cap, rfl, hc, fun j u hu => ⟨h.2 g rfl, ?_⟩⟩
    have := (World.ownsRowF_of hrow).cells (g := g) rfl j u hu
    rw [Addr.add_mk] at this
    exact this
theorem fm8 : ∀ s : List UInt8, s.flatMap eU8 = s.map fun b => vU8 b
  | [] => rfl
  | b :: r => by rw [List.flatMap_cons, fm8 r]; rfl
/-- bytes of a row to a text -/
theorem SL.btsT {src dst : TypeId} {s : List UInt8} (k : Nat) (ho : At ops N l o t (.convert src dst x)) (hs : P.underlying src = some (.slice e)) (he : P.underlying e = some (.int .u8)) (hd : P.underlying dst = some .string) (hx : evl l x = some v)
    (hk : (bif tk then Hs else H)[k]? = some (rowT e 1 v eU8 s))
    (h : SL P ro K w0 N ops Hs items Q D ((t, vS s) :: l) H) : SL P ro K w0 N ops Hs (.cons (tk, o) items) Q D l H :=
  SL.val ho rfl (fun a w ha hsw => by
    have hrow : w.ownsRow 0 e 1 v s.length (s.flatMap eU8) := hsw.holds _ (List.mem_of_getElem? hk)
    rw [fm8] at hrow
    rcases hrow.2 with ⟨rfl, h0⟩ | ⟨g, cap, cur, rfl, _⟩
    · have : s = [] := List.length_eq_zero_iff.1 h0
      subst this
      have h0 : (convert src dst (.slice none 0 0)).run P w = .ok (vS []) w := by
        rw [run_convert_bytes_string w src dst e none 0 0 hs he hd]
        simp [Conv.bytesToString]
        rfl
      simp [execOp, ho.op, ha.eval hx, h0]
    · simp [execOp, ho.op, ha.eval hx, run_bts hs he hd rfl ((World.ownsRowF_of hrow).cells rfl)]) h
theorem cells_rowA {b n cap : Nat} (k : Nat) (_hl : ∀ x, (enc x).length = sz) (hk : L[k]? = some (rowT e sz (.slice (some ⟨b, 0, none⟩) n cap) enc xs)) : ∀ w, HpS K w0 L w → ∀ j u, (xs.flatMap enc)[j]? = some u → w.cell? (Addr.add ⟨b, 0, none⟩ j) = some u := by
  intro w hw j u hu
  have hrow : w.ownsRow 0 e sz (.slice (some ⟨b, 0, none⟩) n cap) xs.length (xs.flatMap enc) := hw.holds _ (List.mem_of_getElem? hk)
  exact (World.ownsRowF_of hrow).cells (g := b) rfl j u hu
/-- append of nothing -/
theorem run_append_of_none {w : World} (t ty e : TypeId) (i : TypeInfo) (ht : P.underlying t = some (.slice e)) (hi : P.info? e = some i)
    (v : Value) (n : Nat) (xs : List Value) (hown : w.ownsRow 0 e sz v n xs) : (Builtin.append_ #[t, t] ty #[v, .slice none 0 0]).run P w = .ok v w := by
  rcases hown.2 with ⟨rfl, rfl⟩ | ⟨g, cap, cur, rfl, _, _, hnc, _⟩
  · simp [Builtin.append_, run_underlying ht, sizeOf, typeInfo, hi, Builtin.lenOf, Builtin.firstCells]
  · simp [Builtin.append_, run_underlying ht, sizeOf, typeInfo, hi, Builtin.lenOf, Builtin.firstCells, hnc, storeCells]
theorem SL.app0 {by_ : Nat} {zv : Value} (k : Nat) (ho : At ops N l o t (.call { callee := .builtin .append, args := #[x, y], argTypes := #[ty, ty] }))
    (hty : P.underlying ty = some (.slice e)) (hsz : tsz P e = some sz) (hby : byt P e = some by_) (hze : zer P e = some zv)
    (hx : evl l x = some v) (hy : evl l y = some (.slice none 0 0)) (hk : H[k]? = some (rowT e sz v enc xs)) (hs : SubI Hs H)
    (h : SL P ro K w0 N ops Hs items Q D ((t, v) :: l) H) : SL P ro K w0 N ops Hs (.cons (false, o) items) Q D l H :=
  SL.step (fun _ : Unit => v) (fun _ => H) ho rfl (fun a w ha hw => by
    obtain ⟨ii, hii, e1, e2, e3⟩ := info_of hsz hby hze
    have hrow : w.ownsRow 0 e sz v xs.length (xs.flatMap enc) := hw.holds _ (List.mem_append_left _ (List.mem_of_getElem? hk))
    have hr := run_append_of_none (P := P) ty o.type e ii hty hii v xs.length _ hrow
    refine ⟨(), w, ?_, hw⟩
    unfold execOp
    simp only [ho.op, resolve, invoke, builtin, Sem.run_bind, Sem.run_pure, Result.andThen_ok, List.map_toArray, List.map_cons, List.map_nil, ha.eval hx, ha.eval hy, hr]) (fun _ => hs) (fun _ => h)
theorem set_self {c : Chunk} {k : Nat} (hk : H[k]? = some c) : H.set k c = H := by
  obtain ⟨hl, hg⟩ := List.getElem?_eq_some_iff.1 hk
  rw [← hg]; exact List.set_getElem_self hl
theorem appL_nil {by_ : Nat} (hn : appL by_ xs [] = some us) : us = xs := by
  unfold appL at hn
  split at hn
  · simpa using hn.symm
  · cases hn
/-- append of a slice that lies in kept memory -/
theorem SL.appV {by_ : Nat} {zv u : Value} {new : List α} (k : Nat) (hn : appL by_ xs new = some us) (hu : SlOf K w0 enc sz u new) (hl : ∀ x, (enc x).length = sz) (ho : At ops N l o t (.call { callee := .builtin .append, args := #[x, y], argTypes := #[ty, ty] }))
    (hty : P.underlying ty = some (.slice e)) (hsz : tsz P e = some sz) (hby : byt P e = some by_) (hze : zer P e = some zv) (hzs : zv.cells.size = sz) (hsz0 : 0 < sz)
    (hx : evl l x = some v) (hy : evl l y = some u) (hk : H[k]? = some (rowT e sz v enc xs)) (h1 : ∀ a, ∀ u ∈ enc a, u.oneCell' = true)
    (hs : ∀ v', SubI Hs (H.set k (rowT e sz v' enc us)))
    (h : ∀ v', SL P ro K w0 N ops Hs items Q D ((t, v') :: l) (H.set k (rowT e sz v' enc us))) : SL P ro K w0 N ops Hs (.cons (false, o) items) Q D l H := by
  rcases hu.at_ with ⟨a0, rfl, rfl⟩ | ⟨b, off, cap, rfl, _, hc⟩
  · cases a0 with
    | some ad => exact SL.appT k hn hl ho hty hsz hby hze hzs hsz0 hx hy rfl hk (fun w hw j u hj => by simp at hj) h1 hs h
    | none =>
      obtain rfl := appL_nil hn
      have h2 := hs v
      have h3 := h v
      rw [set_self hk] at h2 h3
      exact SL.app0 k ho hty hsz hby hze hx hy hk h2 h3
  · refine SL.appT k hn hl ho hty hsz hby hze hzs hsz0 hx hy rfl hk (fun w hw j u hj => ?_) h1 hs h
    obtain ⟨hb, hcell⟩ := hc j u hj
    rw [Addr.add_mk]
    exact cell_base (L := H) hb hcell w hw
/-- append of another row -/
theorem SL.appR {by_ : Nat} {zv u : Value} {new : List α} (k k2 : Nat) (hn : appL by_ xs new = some us) (hl : ∀ x, (enc x).length = sz) (ho : At ops N l o t (.call { callee := .builtin .append, args := #[x, y], argTypes := #[ty, ty] }))
    (hty : P.underlying ty = some (.slice e)) (hsz : tsz P e = some sz) (hby : byt P e = some by_) (hze : zer P e = some zv) (hzs : zv.cells.size = sz) (hsz0 : 0 < sz)
    (hx : evl l x = some v) (hy : evl l y = some u) (hk : H[k]? = some (rowT e sz v enc xs)) (hk2 : H[k2]? = some (rowT e sz u enc new)) (h1 : ∀ a, ∀ u ∈ enc a, u.oneCell' = true)
    (hs : ∀ v', SubI Hs (H.set k (rowT e sz v' enc us)))
    (h : ∀ v', SL P ro K w0 N ops Hs items Q D ((t, v') :: l) (H.set k (rowT e sz v' enc us))) : SL P ro K w0 N ops Hs (.cons (false, o) items) Q D l H := by
  intro a w ha hw hs0
  have hrow : w.ownsRow 0 e sz u new.length (new.flatMap enc) := hw.holds _ (List.mem_append_left _ (List.mem_of_getElem? hk2))
  rcases hrow.2 with ⟨rfl, h0⟩ | ⟨g, cap, cur, rfl, _⟩
  · have : new = [] := List.length_eq_zero_iff.1 h0
    subst this
    obtain rfl := appL_nil hn
    have h2 := hs v
    have h3 := h v
    rw [set_self hk] at h2 h3
    exact SL.app0 k ho hty hsz hby hze hx hy hk h2 h3 a w ha hw hs0
  · exact SL.appT k hn hl ho hty hsz hby hze hzs hsz0 hx hy rfl hk (cells_rowA k2 hl hk2) h1 hs h a w ha hw hs0
theorem SlOf.nil (hl : ∀ x, (enc x).length = sz) : SlOf K w0 enc sz (.slice none 0 0) [] := ⟨hl, .inl ⟨_, rfl, rfl⟩⟩
end rows
/-- an assignment, the value under a name of its own -/
theorem SL.asgX {u : Value} (ho : At ops N l o t (.assign x)) (hx : evl l x = some v) (hu : v = u) (h : SL P ro K w0 N ops Hs items Q D ((t, u) :: l) H) : SL P ro K w0 N ops Hs (.cons (tk, o) items) Q D l H :=
  SL.asg ho (by rw [hx, hu]) h
/-- the two descriptors in other words -/
theorem SX.re {c : Code} (l' : Tm) (H' : List Chunk) (h : SX P ro K w0 N c Q D l' H') (e1 : TmLe l' l) (e2 : H = H' := by rfl) : SX P ro K w0 N c Q D l H := by
  subst e2; exact h.mono e1
/-- a meeting point, whatever marks there are -/
def midD {α : Type} (K : Nat → Prop) (w0 : World) (N : Nat) (p : α → Prop) (I : α → Tm) (G : α → List Chunk) (Q : Post) : Post
  | .normal, a, w => ∃ x D, p x ∧ TmOk N D (I x) a ∧ HpOk K w0 (G x ++ [marks D]) w
  | e, a, w => Q e a w
theorem SX.meetD {α : Type} (p : α → Prop) (I : α → Tm) (G : α → List Chunk) {c y : Code} (h : SX P ro K w0 N c (midD K w0 N p I G Q) D l H) (h2 : ∀ x D, p x → SX P ro K w0 N y Q D (I x) (G x)) : SX P ro K w0 N (.seq c y) Q D l H := by
  intro a w ha hw
  refine wpIn_seq (wpIn_mono (h a w ha hw) ?_)
  intro e a w q
  cases e with
  | normal =>
    obtain ⟨x, D', hx, ha, hw⟩ := q
    exact h2 x D' hx a w ha hw
  | _ => exact q
theorem SQ.midD {α : Type} {p : α → Prop} {I : α → Tm} {G : α → List Chunk} (x : α) (hp : p x) (hl : TmLe (I x) l) (hH : ∀ w, HpOk K w0 (H ++ [marks D]) w → HpOk K w0 (G x ++ [marks D]) w) :
    SQ K w0 N (Go.Proofs.Ytddjneafgddlcaa.midD K w0 N p I G Q) .normal D l H := fun _a w ha hw => ⟨x, D, hp, ha.mono hl, hH w hw⟩
theorem SQ.midDE {α : Type} {p : α → Prop} {I : α → Tm} {G : α → List Chunk} {i : Nat} (h : SQ K w0 N Q (.exit i) D l H) : SQ K w0 N (Go.Proofs.Ytddjneafgddlcaa.midD K w0 N p I G Q) (.exit i) D l H := h
theorem SQ.midDR {α : Type} {p : α → Prop} {I : α → Tm} {G : α → List Chunk} (h : SQ K w0 N Q .ret D l H) : SQ K w0 N (Go.Proofs.Ytddjneafgddlcaa.midD K w0 N p I G Q) .ret D l H := h
/-- a && c, where c is what guarded operations say -/
theorem SL.andN (t n tt : Nat) {b y : Bool} {C : Option Bool} (hy : andO b C = some y) (hb : look l t = some (.bool b))
    (ht : b = true → C = some y → SL P ro K w0 N ops Hs (items.drop n) Q D ((tt, .bool y) :: (t, .bool true) :: del t l) H → SL P ro K w0 N ops Hs items Q D ((t, .bool true) :: l) H)
    (hf : b = false → SL P ro K w0 N ops Hs (items.drop n) Q D ((tt, .bool false) :: (t, .bool false) :: del t l) H → SL P ro K w0 N ops Hs items Q D ((t, .bool false) :: l) H)
    (h : SL P ro K w0 N ops Hs (items.drop n) Q D ((tt, .bool y) :: l) H) : SL P ro K w0 N ops Hs items Q D l H := by
  refine SL.split t hb (fun e => ?_) (fun e => ?_)
  · subst e; exact ht rfl hy (h.join hb)
  · subst e
    obtain rfl : false = y := Option.some.inj hy
    exact hf rfl (h.join hb)
theorem SL.orN (t n tt : Nat) {b y : Bool} {C : Option Bool} (hy : orO b C = some y) (hb : look l t = some (.bool b))
    (ht : b = true → SL P ro K w0 N ops Hs (items.drop n) Q D ((tt, .bool true) :: (t, .bool true) :: del t l) H → SL P ro K w0 N ops Hs items Q D ((t, .bool true) :: l) H)
    (hf : b = false → C = some y → SL P ro K w0 N ops Hs (items.drop n) Q D ((tt, .bool y) :: (t, .bool false) :: del t l) H → SL P ro K w0 N ops Hs items Q D ((t, .bool false) :: l) H)
    (h : SL P ro K w0 N ops Hs (items.drop n) Q D ((tt, .bool y) :: l) H) : SL P ro K w0 N ops Hs items Q D l H := by
  refine SL.split t hb (fun e => ?_) (fun e => ?_)
  · subst e
    obtain rfl : true = y := Option.some.inj hy
    exact ht rfl (h.join hb)
  · subst e; exact hf rfl hy (h.join hb)
/-! ### Flat structs, field by field -/
theorem flatE_nil {xs ys : Array Value} : flatE [] xs ys = some true := rfl
theorem flatE_cons {i : Nat} {d : TypeDesc} {r : List (Nat × TypeDesc)} {xs ys : Array Value} {u v : Value} {p q : Bool} (hx : xs[i]? = some u) (hy : ys[i]? = some v) (he : eqV d u v = some p) (hr : flatE r xs ys = some q) : flatE ((i, d) :: r) xs ys = some (p && q) := by
  simp [flatE, hx, hy, he, hr]
theorem eqV_I {k : IntKind} {a b : Int} : eqV (.int k) (.int k a) (.int k b) = some (decide (a = b)) := by
  simp only [eqV, if_true]
  congr 1
theorem eqV_8 {a b : UInt8} : eqV (.int .u8) (vU8 a) (vU8 b) = some (decide (a = b)) := by
  rw [eqV_I]; congr 1; rw [Bool.eq_iff_iff, decide_eq_true_eq, decide_eq_true_eq, ← UInt8.toNat_inj]; omega
theorem eqV_32 {a b : UInt32} : eqV (.int .u32) (vU32 a) (vU32 b) = some (decide (a = b)) := by
  rw [eqV_I]; congr 1; rw [Bool.eq_iff_iff, decide_eq_true_eq, decide_eq_true_eq, ← UInt32.toNat_inj]; omega
theorem eqV_64 {a b : UInt64} : eqV (.int .u64) (vU64 a) (vU64 b) = some (decide (a = b)) := by
  rw [eqV_I]; congr 1; rw [Bool.eq_iff_iff, decide_eq_true_eq, decide_eq_true_eq, ← UInt64.toNat_inj]; omega
theorem eqV_S {a b : List UInt8} : eqV .string (vS a) (vS b) = some (decide (a = b)) := by
  simp only [eqV, toList_mk]; congr 1; rw [Bool.eq_iff_iff]; simp
theorem eqV_B {a b : Bool} : eqV .bool (vB a) (vB b) = some (decide (a = b)) := by
  simp only [eqV]; congr 1
theorem Cv.I_I {src dst : TypeId} {d : TypeDesc} {k : IntKind} {n : Int} (hs : P.underlying src = some d) (hd : P.underlying dst = some (.int .i64)) : Cv P src dst (.int k n) (vI (wI n)) := Cv.int hs hd rfl
/-! ### Arrays and tables -/
theorem SL.ixAN {α : Type} {f : α → Value} {n : Nat} {xs : List α} {k : IntKind} {i : Int} {c : α} {ty e : TypeId} (hn : nthI xs i = some c) (ho : At ops N l o t (.index ty x y)) (hty : P.underlying ty = some (.array n e)) (hsc : scl P e = true) (hx : evl l x = some (.agg (arr f xs))) (hy : evl l y = some (.int k i)) (hln : xs.length = n)
    (h : SL P ro K w0 N ops Hs items Q D ((t, f c) :: l) H) : SL P ro K w0 N ops Hs (.cons (tk, o) items) Q D l H := by
  obtain ⟨h1, h2, h3⟩ := nthI_some hn
  exact SL.ixA ho hty hsc hx hy h1 (by omega) (arr_get h3) h
theorem SL.iaAN {α : Type} {b m : Nat} {xs : List α} {k : IntKind} {i : Int} {c : α} {ty e : TypeId} (hn : nthI xs i = some c) (ho : At ops N l o t (.indexAddr ty x y)) (hty : P.underlying ty = some (.array m e)) (hsz : tsz P e = some 1) (hx : evl l x = some (vP b 0)) (hy : evl l y = some (.int k i))
    (hln : xs.length = m) (h : SL P ro K w0 N ops Hs items Q D ((t, vP b i.toNat) :: l) H) : SL P ro K w0 N ops Hs (.cons (tk, o) items) Q D l H := by
  obtain ⟨h1, h2, h3⟩ := nthI_some hn
  exact SL.iaAp ho hty hsz hx hy h1 (by omega) h
structure TabN (K : Nat → Prop) (w0 : World) (g : Nat) (n : Nat) (T : List UInt32) : Prop where
  tab : Tab K w0 g T
  len : T.length = n
theorem TabN.keeps {g n : Nat} {T : List UInt32} {K' : Nat → Prop} {w1 : World} (h : TabN K w0 g n T) (hk : Keeps K w0 K' w1) : TabN K' w1 g n T := ⟨h.tab.keeps hk, h.len⟩
theorem tab_ld {g n : Nat} {T : List UInt32} {i : Int} {c : UInt32} (h : TabN K w0 g n T) (hn : nthI T i = some c) : ∀ w, HpS K w0 L w → w.cell? ⟨g, i.toNat, none⟩ = some (vU32 c) :=
  cell_base (ad := ⟨g, i.toNat, none⟩) h.tab.keep (h.tab.cell _ _ (nthI_some hn).2.2)
end Go.Proofs.Ytddjneafgddlcaa

/- Plain laws of the words that printed functions use. No program in sight. No condition beyond those stated. -/
namespace Go.Proofs.Ytddjneafgddlcaa
open Go

/-- a loop of N rounds -/
theorem loop_all {α β : Type} {F : (α → Option β) → α → Option β} (I : Nat → α) (N : Nat) {z : Option β} (hs : ∀ i, i < N → ∀ k, F k (I i) = k (I (i + 1))) (he : ∀ k, F k (I N) = z) {m : Nat} (hm : N < m) : loopN F m (I 0) = z := by
  have key : ∀ d i m, i + d = N → d < m → loopN F m (I i) = z := by
    intro d
    induction d with
    | zero =>
      intro i m hi hm
      obtain rfl : i = N := by omega
      obtain ⟨m, rfl⟩ : ∃ k, m = k + 1 := ⟨m - 1, by omega⟩
      exact he _
    | succ d ih =>
      intro i m hi hm
      obtain ⟨m, rfl⟩ : ∃ k, m = k + 1 := ⟨m - 1, by omega⟩
      show F (loopN F m) (I i) = z
      rw [hs i (by omega)]
      exact ih (i + 1) m (by omega) (by omega)
  exact key N 0 m (by omega) hm
/-- a loop, whatever its rounds say of what is left -/
theorem loop_ind {α β : Type} {F : (α → Option β) → α → Option β} (I : Nat → α) (Z : Nat → Option β) (N : Nat) (hs : ∀ i, i < N → ∀ k, k (I (i + 1)) = Z (i + 1) → F k (I i) = Z i) (he : ∀ k, F k (I N) = Z N) {m : Nat} (hm : N < m) : loopN F m (I 0) = Z 0 := by
  have key : ∀ d i m, i + d = N → d < m → loopN F m (I i) = Z i := by
    intro d
    induction d with
    | zero =>
      intro i m hi hm
      obtain rfl : i = N := by omega
      obtain ⟨m, rfl⟩ : ∃ k, m = k + 1 := ⟨m - 1, by omega⟩
      exact he _
    | succ d ih =>
      intro i m hi hm
      obtain ⟨m, rfl⟩ : ∃ k, m = k + 1 := ⟨m - 1, by omega⟩
      show F (loopN F m) (I i) = Z i
      exact hs i (by omega) _ (ih (i + 1) m (by omega) (by omega))
  exact key N 0 m (by omega) hm
/-- a loop whose answer is one and the same, whenever it ends -/
theorem loop_pre {α β : Type} {F : (α → Option β) → α → Option β} (I : Nat → α) (p : Nat → Prop) (N : Nat) {z : Option β} (hs : ∀ i, i < N → p i → ∀ k, (p (i + 1) → k (I (i + 1)) = z) → F k (I i) = z) (he : p N → ∀ k, F k (I N) = z) (h0 : p 0) {m : Nat} (hm : N < m) : loopN F m (I 0) = z := by
  have key : ∀ d i m, i + d = N → d < m → p i → loopN F m (I i) = z := by
    intro d
    induction d with
    | zero =>
      intro i m hi hm hp
      obtain rfl : i = N := by omega
      obtain ⟨m, rfl⟩ : ∃ k, m = k + 1 := ⟨m - 1, by omega⟩
      exact he hp _
    | succ d ih =>
      intro i m hi hm hp
      obtain ⟨m, rfl⟩ : ∃ k, m = k + 1 := ⟨m - 1, by omega⟩
      show F (loopN F m) (I i) = z
      exact hs i (by omega) hp _ (ih (i + 1) m (by omega) (by omega))
  exact key N 0 m (by omega) hm h0
theorem nthI_nat {α : Type} {l : List α} {i : Nat} : nthI l (i : Int) = l[i]? := by simp [nthI]
theorem nthI_of {α : Type} {l : List α} {i : Int} {k : Nat} (h : i = (k : Int)) : nthI l i = l[k]? := by rw [h, nthI_nat]
theorem nthI_getD {α : Type} {l : List α} {i : Int} {k : Nat} (d : α) (h : i = (k : Int)) (hk : k < l.length) : nthI l i = some (l.getD k d) := by rw [nthI_of h, get_getD d hk]
theorem setI_of {α : Type} {l : List α} {i : Int} {k : Nat} {a : α} (h : i = (k : Int)) (hk : k < l.length) : setI l i a = some (l.set k a) := by
  subst h
  unfold setI
  rw [if_pos (by omega)]
  simp
theorem slcI_of {α : Type} {l : List α} {i j : Int} {p q : Nat} (hi : i = (p : Int)) (hj : j = (q : Int)) (h1 : p ≤ q) (h2 : q ≤ l.length) : slcI l i j = some ((l.drop p).take (q - p)) := by
  subst hi; subst hj
  unfold slcI
  rw [if_pos (by omega)]
  simp
theorem appL_eq {α : Type} {b : Nat} {s t : List α} (h : (s.length + t.length) * b ≤ 140737488355328) (h2 : s.length + t.length ≤ 9223372036854775807) : appL b s t = some (s ++ t) := if_pos ⟨h, h2⟩
theorem catS_eq {s t : List UInt8} (h : s.length + t.length ≤ 9223372036854775807) : catS s t = some (s ++ t) := if_pos h
theorem shN_nat {i : Nat} : shN (i : Int) = some i := by simp [shN]
theorem remI_of {a b : Nat} (hb : b ≠ 0) : remI (a : Int) (b : Int) = some ((a % b : Nat) : Int) := by
  unfold remI
  rw [if_neg (by omega), Int.tmod_eq_emod_of_nonneg (by omega)]
  rfl
theorem quoI_of {a b : Nat} (hb : b ≠ 0) (ha : a ≤ 9223372036854775807) : quoI (a : Int) (b : Int) = some ((a / b : Nat) : Int) := by
  unfold quoI
  have h1 : a / b ≤ a := Nat.div_le_self _ _
  rw [if_neg (by omega), Int.tdiv_eq_ediv_of_nonneg (by omega), show ((a : Int) / (b : Int)) = ((a / b : Nat) : Int) from rfl]
  generalize a / b = q at h1 ⊢
  rw [wI_eq (by omega) (by omega)]
theorem some_bind {α β : Type} {a : α} {f : α → Option β} : (some a).bind f = f a := by simp
theorem ret_eq {α β : Type} {e : α} {k : α → β} : ret e k = k e := by simp [ret]
theorem loopN_succ {α β : Type} {F : (α → Option β) → α → Option β} {m : Nat} {a : α} : loopN F (m + 1) a = F (loopN F m) a := by rw [loopN]
theorem getD_lt {α : Type} {l : List α} {k : Nat} (d : α) (h : k < l.length) : l.getD k d = l[k] := by simp [List.getD, h]
end Go.Proofs.Ytddjneafgddlcaa

/- The engine's maps: a map of the call's own as a list of keys and elements; look-ups, stores, removals, ranges. No condition beyond those stated. -/
namespace Go.Proofs.Ytddjneafgddlcaa
open Go Go.MapKept Go.ChangeMaps

variable {P : Program} {ro : Option Nat} {K : Nat → Prop} {w0 : World} {N : Nat} {Q : Post} {D : List Nat} {l l' : Tm} {H H' Hs L : List Chunk} {ops : Array Oper} {items : Its}
variable {tk : Bool} {o : Oper} {t : Nat} {v : Value} {x y z : Operand}

theorem nodup_of_map {α β : Type} (f : α → β) {l : List α} (h : (l.map f).Nodup) : l.Nodup := (List.pairwise_map.1 h).imp fun hne e => hne (congrArg f e)
theorem nodup_len {α : Type} : ∀ {l l' : List α}, l.Nodup → (∀ a ∈ l, a ∈ l') → l.length ≤ l'.length
  | [], _, _, _ => by simp
  | a :: r, l', hn, hs => by
    obtain ⟨h1, h2⟩ := List.nodup_cons.1 hn
    obtain ⟨p, q, rfl⟩ := List.append_of_mem (hs a (List.mem_cons_self ..))
    have := nodup_len (l' := p ++ q) h2 (fun b hb => by
      have hb' := hs b (List.mem_cons_of_mem _ hb)
      simp only [List.mem_append, List.mem_cons] at hb' ⊢
      rcases hb' with h | rfl | h
      · exact .inl h
      · exact absurd hb h1
      · exact .inr h)
    simp at this ⊢
    omega
section plain
variable {κ α : Type} [DecidableEq κ]
/-! ### Plain maps: no key twice -/
def mget (m : List (κ × α)) (k : κ) : Option α := (m.find? fun p => decide (p.1 = k)).map (·.2)
def mdel (m : List (κ × α)) (k : κ) : List (κ × α) := m.filter fun p => decide (p.1 ≠ k)
def mput (m : List (κ × α)) (k : κ) (a : α) : List (κ × α) := (k, a) :: mdel m k
theorem mget_none {m : List (κ × α)} {k : κ} (h : ∀ p ∈ m, p.1 ≠ k) : mget m k = none := by
  unfold mget
  rw [List.find?_eq_none.2 (fun p hp => by simpa using h p hp)]
  rfl
theorem mget_some {m : List (κ × α)} (hn : (m.map (·.1)).Nodup) {p : κ × α} (hp : p ∈ m) : mget m p.1 = some p.2 := by
  induction m with
  | nil => cases hp
  | cons q r ih =>
    simp only [List.map_cons, List.nodup_cons] at hn
    unfold mget
    rcases List.mem_cons.1 hp with rfl | hp
    · simp
    · have hne : q.1 ≠ p.1 := fun e => hn.1 (by rw [e]; exact List.mem_map_of_mem hp)
      rw [List.find?_cons_of_neg (by simpa using hne)]
      exact ih hn.2 hp
theorem mdel_all {m : List (κ × α)} {k : κ} (h : ∀ p ∈ m, p.1 ≠ k) : mdel m k = m := List.filter_eq_self.2 (fun p hp => by simpa using h p hp)
theorem mdel_split {m : List (κ × α)} (hn : (m.map (·.1)).Nodup) {p : κ × α} (hp : p ∈ m) : m.Perm (p :: mdel m p.1) := by
  induction m with
  | nil => cases hp
  | cons q r ih =>
    simp only [List.map_cons, List.nodup_cons] at hn
    rcases List.mem_cons.1 hp with rfl | hp
    · have h1 : mdel (p :: r) p.1 = r := by
        unfold mdel
        rw [List.filter_cons_of_neg (by simp)]
        exact mdel_all fun q hq e => hn.1 (by rw [← e]; exact List.mem_map_of_mem hq)
      rw [h1]
    · have hne : q.1 ≠ p.1 := fun e => hn.1 (by rw [e]; exact List.mem_map_of_mem hp)
      have h1 : mdel (q :: r) p.1 = q :: mdel r p.1 := by
        unfold mdel
        rw [List.filter_cons_of_pos (by simpa using hne)]
      rw [h1]
      exact ((ih hn.2 hp).cons q).trans (List.Perm.swap _ _ _)
theorem mdel_nodup {m : List (κ × α)} {k : κ} (hn : (m.map (·.1)).Nodup) : ((mdel m k).map (·.1)).Nodup := hn.sublist (List.Sublist.map _ (List.filter_sublist ..))
theorem mput_nodup {m : List (κ × α)} {k : κ} {a : α} (hn : (m.map (·.1)).Nodup) : ((mput m k a).map (·.1)).Nodup := by
  simp only [mput, List.map_cons, List.nodup_cons]
  refine ⟨fun h => ?_, mdel_nodup hn⟩
  obtain ⟨q, hq, e⟩ := List.mem_map.1 h
  have := (List.mem_filter.1 hq).2
  simp [e] at this
theorem mget_put {m : List (κ × α)} {k j : κ} {a : α} : mget (mput m k a) j = if k = j then some a else mget m j := by
  unfold mput mget
  by_cases h : k = j
  · rw [if_pos h, List.find?_cons_of_pos (by simpa using h)]; rfl
  · rw [if_neg h, List.find?_cons_of_neg (by simpa using h)]
    congr 1
    unfold mdel
    rw [List.find?_filter]
    congr 1
    funext p
    by_cases hj : p.1 = j
    · simp [hj, Ne.symm h]
    · simp [hj]
theorem mget_del {m : List (κ × α)} {k j : κ} : mget (mdel m k) j = if k = j then none else mget m j := by
  by_cases h : k = j
  · subst h
    rw [if_pos rfl]
    exact mget_none fun p hp => by simpa using (List.mem_filter.1 hp).2
  · rw [if_neg h]
    unfold mget mdel
    congr 1
    rw [List.find?_filter]
    congr 1
    funext p
    by_cases hj : p.1 = j
    · simp [hj, Ne.symm h]
    · simp [hj]
end plain

/-- how keys and elements lie in a map of key type k -/
structure MapE (P : Program) (k : TypeId) {κ α : Type} (ek : κ → Value) (ev : α → Value) : Prop where
  keyed : Go.Maps.Keyed P k
  lit : ∀ x, ∃ l, keyOf P k (ek x) = some l
  dk : ∃ f : Value → Option κ, ∀ x, f (ek x) = some x
  dv : ∃ f : Value → Option α, ∀ x, f (ev x) = some x
theorem MapE.inj {k : TypeId} {κ α : Type} {ek : κ → Value} {ev : α → Value} (E : MapE P k ek ev) {x y : κ} (h : ek x = ek y) : x = y := by
  obtain ⟨f, hf⟩ := E.dk
  have := hf x
  rw [h, hf y] at this
  exact (Option.some.inj this).symm
theorem u32_key {k : TypeId} (hk : P.underlying k = some (.int .u32)) (a : UInt32) : ∃ l, keyOf P k (vU32 a) = some l :=
  ⟨_, Maps.keyOf_int_mk hk (by have := a.toNat_lt; simp [Lit.wf, IntKind.min, IntKind.max, IntKind.signed, IntKind.bits]; omega)⟩
theorem MapE.u32S {k : TypeId} (hk : P.underlying k = some (.int .u32)) : MapE P k vU32 vS :=
  ⟨Maps.int_keyed hk, u32_key hk, ⟨fun v => match v with | .int _ a => some (UInt32.ofNat a.toNat) | _ => none, fun x => by simp⟩, ⟨fun v => match v with | .string b => some b.data.toList | _ => none, fun x => rfl⟩⟩
theorem MapE.u32B {k : TypeId} (hk : P.underlying k = some (.int .u32)) : MapE P k vU32 vB :=
  ⟨Maps.int_keyed hk, u32_key hk, ⟨fun v => match v with | .int _ a => some (UInt32.ofNat a.toNat) | _ => none, fun x => by simp⟩, ⟨fun v => match v with | .bool b => some b | _ => none, fun x => rfl⟩⟩

section maps
variable {κ α : Type} {ek : κ → Value} {ev : α → Value} {m : List (κ × α)} {k : TypeId} {b : Nat}
def MapRep (ek : κ → Value) (ev : α → Value) (m : List (κ × α)) (es : Array MapEntry) (clock : Nat) : Prop :=
  Stamped es clock ∧ es.size ≤ maxLen ∧ (es.toList.map fun e => (e.key, e.val)).Perm (m.map fun p => (ek p.1, ev p.2))
/-- a map of the call's own -/
def mapC (b : Nat) (ek : κ → Value) (ev : α → Value) (m : List (κ × α)) : Chunk :=
  ⟨(· = b), fun w => ∃ es clock, w.heap[b]? = some (.map es clock) ∧ MapRep ek ev m es clock, fun w w' h ⟨es, c, h1, h2⟩ => ⟨es, c, by rw [h _ rfl]; exact h1, h2⟩⟩
theorem MapRep.mem {es : Array MapEntry} {clock : Nat} (h : MapRep ek ev m es clock) {e : MapEntry} (he : e ∈ es.toList) : ∃ p ∈ m, e.key = ek p.1 ∧ e.val = ev p.2 := by
  have := h.2.2.mem_iff.1 (List.mem_map_of_mem (f := fun e : MapEntry => (e.key, e.val)) he)
  obtain ⟨p, hp, e1⟩ := List.mem_map.1 this
  simp only [Prod.mk.injEq] at e1
  exact ⟨p, hp, e1.1.symm, e1.2.symm⟩
theorem MapRep.nodup {es : Array MapEntry} {clock : Nat} (h : MapRep ek ev m es clock) : (m.map (·.1)).Nodup := by
  have h1 : (es.toList.map (·.key)).Nodup := h.1.2.2
  have h2 : (es.toList.map (·.key)).Perm (m.map fun p => ek p.1) := by
    have := h.2.2.map (·.1)
    simpa [List.map_map, Function.comp_def] using this
  have h3 : (m.map fun p => ek p.1).Nodup := h2.nodup_iff.1 h1
  have h4 : (m.map fun p => ek p.1) = (m.map (·.1)).map ek := by simp
  rw [h4] at h3
  exact nodup_of_map _ h3
theorem MapRep.keys {es : Array MapEntry} {clock : Nat} (E : MapE P k ek ev) (h : MapRep ek ev m es clock) : ∀ e ∈ es.toList, ∃ l, keyOf P k e.key = some l := fun e he => by
  obtain ⟨p, _, e1, _⟩ := h.mem he
  rw [e1]
  exact E.lit _
theorem MapRep.size_eq {es : Array MapEntry} {clock : Nat} (h : MapRep ek ev m es clock) : es.size = m.length := by
  have := h.2.2.length_eq
  simpa using this
variable [DecidableEq κ]
theorem MapRep.look {es : Array MapEntry} {clock : Nat} {w : World} (E : MapE P k ek ev) (h : MapRep ek ev m es clock) (hb : w.heap[b]? = some (.map es clock)) {ty e : TypeId} (ht : P.underlying ty = some (.map k e)) {zv : α} (hz : zer P e = some (ev zv)) (key : κ) (c : Bool) :
    (Instr.lookup ty (.map (some b)) (ek key) c).run P w = .ok (if c then .tuple #[ev ((mget m key).getD zv), .bool (mget m key).isSome] else ev ((mget m key).getD zv)) w := by
  obtain ⟨lx, hl⟩ := E.lit key
  rcases E.keyed.find w hl es.toList (h.keys E) with ⟨h1, h2⟩ | ⟨j, e0, h1, h2, h3⟩
  · have hg : mget m key = none := mget_none fun p hp e => by
      have := h.2.2.mem_iff.2 (List.mem_map_of_mem (f := fun p : κ × α => (ek p.1, ev p.2)) hp)
      obtain ⟨e', he', e1⟩ := List.mem_map.1 this
      simp only [Prod.mk.injEq] at e1
      exact h2 e' he' (by rw [e1.1, e])
    simp [Instr.lookup, run_underlying ht, MapKept.run_getObj_map hb, E.keyed.check w _ hl, h1, run_zero hz, Result.andThen, hg]
  · obtain ⟨p, hp, e1, e2⟩ := h.mem (List.mem_of_getElem? h2)
    have hk : p.1 = key := E.inj (by rw [← e1, h3])
    have hg := mget_some h.nodup hp
    rw [hk] at hg
    simp [Instr.lookup, run_underlying ht, MapKept.run_getObj_map hb, E.keyed.check w _ hl, h1, Result.andThen, hg, ← e2]
theorem MapRep.upd {es : Array MapEntry} {clock : Nat} {w : World} (E : MapE P k ek ev) (h : MapRep ek ev m es clock) (hb : w.heap[b]? = some (.map es clock)) {ty e : TypeId} (ht : P.underlying ty = some (.map k e)) (key : κ) (a : α) (hroom : m.length < 9223372036854775807) :
    ∃ es' clock', (Instr.mapUpdate ty (.map (some b)) (ek key) (ev a)).run P w = .ok () (setBlock w b (.map es' clock')) ∧ MapRep ek ev (mput m key a) es' clock' := by
  obtain ⟨lx, hl⟩ := E.lit key
  have hsz := h.size_eq
  rcases E.keyed.find w hl es.toList (h.keys E) with ⟨h1, h2⟩ | ⟨j, e0, h1, h2, h3⟩
  · have hno : ∀ p ∈ m, p.1 ≠ key := fun p hp e => by
      have := h.2.2.mem_iff.2 (List.mem_map_of_mem (f := fun p : κ × α => (ek p.1, ev p.2)) hp)
      obtain ⟨e', he', e1⟩ := List.mem_map.1 this
      simp only [Prod.mk.injEq] at e1
      exact h2 e' he' (by rw [e1.1, e])
    refine ⟨es.push ⟨ek key, ev a, clock⟩, clock + 1, ?_, stamped_push h.1 h2, by simp only [maxLen, Array.size_push]; omega, ?_⟩
    · simp [Instr.mapUpdate, run_underlying ht, MapKept.run_getObj_map hb, E.keyed.check w false hl, h1, MapKept.run_setObj_map _ hb, Result.andThen, setBlock]
    · unfold mput
      rw [mdel_all hno, Array.toList_push, List.map_append, List.map_cons]
      exact (List.perm_append_singleton _ _).trans (h.2.2.cons _)
  · have hj : es[j]? = some e0 := by simpa using h2
    have hjl : j < es.toList.length := (List.getElem?_eq_some_iff.1 h2).1
    obtain ⟨p, hp, e1, e2⟩ := h.mem (List.mem_of_getElem? h2)
    have hk : p.1 = key := E.inj (by rw [← e1, h3])
    have hkeyf : ∀ e', es[j]? = some e' → ({ e' with key := ek key, val := ev a } : MapEntry).key = e'.key := fun e' he' => by rw [hj] at he'; cases he'; exact h3.symm
    have hlist : (es.modify j (fun e' => { e' with key := ek key, val := ev a })).toList = es.toList.set j { e0 with key := ek key, val := ev a } := by rw [Array.toList_modify, modify_eq_set _ _ _ _ h2]
    refine ⟨es.modify j (fun e' => { e' with key := ek key, val := ev a }), clock, ?_, stamped_modify h.1 _ _ (fun _ _ => rfl) (fun e' _ he' => hkeyf e' he'), by simpa using h.2.1, ?_⟩
    · simp [Instr.mapUpdate, run_underlying ht, MapKept.run_getObj_map hb, E.keyed.check w false hl, h1, hj, h3, E.keyed.stays w hl, MapKept.run_setObj_map _ hb, Result.andThen, setBlock]
    · rw [hlist]
      unfold mput
      have hspl := mdel_split h.nodup hp
      rw [hk] at hspl
      have p1 : es.toList = es.toList.take j ++ e0 :: es.toList.drop (j + 1) := (take_split h2).1
      have p2 : es.toList.set j { e0 with key := ek key, val := ev a } = es.toList.take j ++ { e0 with key := ek key, val := ev a } :: es.toList.drop (j + 1) := by
        rw [List.set_eq_take_append_cons_drop, if_pos hjl]
      rw [p2]
      have q1 : ((es.toList.take j ++ es.toList.drop (j + 1)).map fun e => (e.key, e.val)).Perm ((mdel m key).map fun p => (ek p.1, ev p.2)) := by
        have h5 := h.2.2
        rw [p1] at h5
        have h6 := (List.perm_middle (l₁ := es.toList.take j) (a := e0) (l₂ := es.toList.drop (j + 1))).symm.map (fun e : MapEntry => (e.key, e.val))
        have h7 := (h6.trans h5).trans (hspl.map fun p => (ek p.1, ev p.2))
        simp only [List.map_cons, e1, e2] at h7
        exact h7.cons_inv
      have h8 := (List.perm_middle (l₁ := es.toList.take j) (a := ({ e0 with key := ek key, val := ev a } : MapEntry)) (l₂ := es.toList.drop (j + 1))).map (fun e : MapEntry => (e.key, e.val))
      exact h8.trans (q1.cons _)
theorem MapRep.drop {es : Array MapEntry} {clock : Nat} {w : World} (E : MapE P k ek ev) (h : MapRep ek ev m es clock) (hb : w.heap[b]? = some (.map es clock)) {t2 e rt : TypeId} (ht : P.underlying t2 = some (.map k e)) (key : κ) :
    ∃ es', (Builtin.delete_ #[t2, k] rt #[.map (some b), ek key]).run P w = .ok (.tuple #[]) (setBlock w b (.map es' clock)) ∧ MapRep ek ev (mdel m key) es' clock := by
  obtain ⟨lx, hl⟩ := E.lit key
  rcases E.keyed.find w hl es.toList (h.keys E) with ⟨h1, h2⟩ | ⟨j, e0, h1, h2, h3⟩
  · have hno : ∀ p ∈ m, p.1 ≠ key := fun p hp e => by
      have := h.2.2.mem_iff.2 (List.mem_map_of_mem (f := fun p : κ × α => (ek p.1, ev p.2)) hp)
      obtain ⟨e', he', e1⟩ := List.mem_map.1 this
      simp only [Prod.mk.injEq] at e1
      exact h2 e' he' (by rw [e1.1, e])
    refine ⟨es, ?_, by rw [mdel_all hno]; exact h⟩
    simp [Builtin.delete_, run_underlying ht, MapKept.run_getObj_map hb, E.keyed.check w _ hl, h1, MapKept.run_setObj_map _ hb, Result.andThen, setBlock]
  · have hjl : j < es.toList.length := (List.getElem?_eq_some_iff.1 h2).1
    have hjs : j < es.size := by simpa using hjl
    obtain ⟨p, hp, e1, e2⟩ := h.mem (List.mem_of_getElem? h2)
    have hk : p.1 = key := E.inj (by rw [← e1, h3])
    have hsub : (es.eraseIdxIfInBounds j).toList = es.toList.eraseIdx j := by
      unfold Array.eraseIdxIfInBounds
      rw [dif_pos hjs]
      simp
    refine ⟨es.eraseIdxIfInBounds j, ?_, stamped_erase h.1 j, Nat.le_trans (MapFrom.size_erase es j) h.2.1, ?_⟩
    · simp [Builtin.delete_, run_underlying ht, MapKept.run_getObj_map hb, E.keyed.check w _ hl, h1, MapKept.run_setObj_map _ hb, Result.andThen, setBlock]
    · rw [hsub, List.eraseIdx_eq_take_drop_succ]
      have hspl := mdel_split h.nodup hp
      rw [hk] at hspl
      have p1 : es.toList = es.toList.take j ++ e0 :: es.toList.drop (j + 1) := (take_split h2).1
      have h5 := h.2.2
      rw [p1] at h5
      have h6 := (List.perm_middle (l₁ := es.toList.take j) (a := e0) (l₂ := es.toList.drop (j + 1))).symm.map (fun e : MapEntry => (e.key, e.val))
      have h7 := (h6.trans h5).trans (hspl.map fun p => (ek p.1, ev p.2))
      simp only [List.map_cons, e1, e2] at h7
      exact h7.cons_inv
omit [DecidableEq κ]
/-! ### At the operation -/
theorem setBlock_put (w : World) (b : Nat) (o : Obj) : setBlock w b o = w.putObj b o := rfl
theorem SL.mkM {ty : TypeId} (ek : κ → Value) (ev : α → Value) (ho : At ops N l o t (.makeMap ty none)) (hs : ∀ b, SubI Hs (mapC b ek ev [] :: H))
    (h : ∀ b, SL P ro K w0 N ops Hs items Q D ((t, .map (some b)) :: l) (mapC b ek ev [] :: H)) : SL P ro K w0 N ops Hs (.cons (false, o) items) Q D l H :=
  SL.step (fun b => .map (some b)) (fun b => mapC b ek ev [] :: H) ho rfl (fun a w ha hw => by
    refine ⟨w.heap.size, w.alloc (.map #[] 0), ?_, ?_⟩
    · simp [execOp, ho.op, Instr.makeMap]
    · have h2 := hw.alloc (.map #[] 0)
      refine h2.turn rfl rfl rfl (Nat.le_refl _) (fun _ _ _ => rfl) ⟨#[], 0, h2.holds _ (List.mem_cons_self ..), stamped_empty 0, by simp, by simp⟩ (fun j hj => ?_)
      exact ⟨.inl hj, (h2.foot _ (List.mem_cons_self ..) j hj).1⟩) hs h
variable [DecidableEq κ]
theorem SL.lkp {ty e : TypeId} {key : κ} {zv : α} (i : Nat) (E : MapE P k ek ev) (ho : At ops N l o t (.lookup ty x y false)) (ht : P.underlying ty = some (.map k e)) (hz : zer P e = some (ev zv)) (hx : evl l x = some (.map (some b))) (hy : evl l y = some (ek key))
    (hi : (bif tk then Hs else H)[i]? = some (mapC b ek ev m)) (h : SL P ro K w0 N ops Hs items Q D ((t, ev ((mget m key).getD zv)) :: l) H) : SL P ro K w0 N ops Hs (.cons (tk, o) items) Q D l H :=
  SL.val ho rfl (fun a w ha hsw => by
    obtain ⟨es, clock, hb, hr⟩ := hsw.holds _ (List.mem_of_getElem? hi)
    have := hr.look E hb ht hz key false
    simp [execOp, ho.op, ha.eval hx, ha.eval hy, this]) h
theorem SL.lkpOk {ty e : TypeId} {key : κ} {zv : α} (i : Nat) (E : MapE P k ek ev) (ho : At ops N l o t (.lookup ty x y true)) (ht : P.underlying ty = some (.map k e)) (hz : zer P e = some (ev zv)) (hx : evl l x = some (.map (some b))) (hy : evl l y = some (ek key))
    (hi : (bif tk then Hs else H)[i]? = some (mapC b ek ev m)) (h : SL P ro K w0 N ops Hs items Q D ((t, .tuple #[ev ((mget m key).getD zv), .bool (mget m key).isSome]) :: l) H) : SL P ro K w0 N ops Hs (.cons (tk, o) items) Q D l H :=
  SL.val ho rfl (fun a w ha hsw => by
    obtain ⟨es, clock, hb, hr⟩ := hsw.holds _ (List.mem_of_getElem? hi)
    have := hr.look E hb ht hz key true
    simp [execOp, ho.op, ha.eval hx, ha.eval hy, this]) h
theorem SL.mup {ty e : TypeId} {key : κ} {a : α} {z : Operand} (i : Nat) (E : MapE P k ek ev) (ho : At0 ops l o (.mapUpdate ty x y z)) (ht : P.underlying ty = some (.map k e)) (hx : evl l x = some (.map (some b))) (hy : evl l y = some (ek key)) (hz : evl l z = some (ev a))
    (hi : H[i]? = some (mapC b ek ev m)) (hroom : m.length < 9223372036854775807) (hs : SubI Hs (H.set i (mapC b ek ev (mput m key a)))) (h : SL P ro K w0 N ops Hs items Q D l (H.set i (mapC b ek ev (mput m key a)))) : SL P ro K w0 N ops Hs (.cons (false, o) items) Q D l H :=
  SL.step0 ho rfl (fun a' w ha hw => by
    obtain ⟨es, clock, hb, hr⟩ := hw.holds _ (List.mem_append_left _ (List.mem_of_getElem? hi))
    obtain ⟨es', clock', hrun, hr'⟩ := hr.upd E hb ht key a hroom
    obtain ⟨hlt, _⟩ := Array.getElem?_eq_some_iff.1 hb
    refine ⟨_, by simp [execOp, ho.op, ha.eval hx, ha.eval hy, ha.eval hz, hrun]; rfl, ?_⟩
    refine hw.turnAt (c := mapC b ek ev m) i hi rfl rfl rfl (by simp [setBlock_put]) (fun j hj hne => World.putObj_heap_other (fun e => hne (by rw [e]; rfl))) ⟨es', clock', World.putObj_heap_same hlt, hr'⟩ (fun j hj => ⟨.inl hj, ?_⟩)
    obtain rfl : j = b := hj
    simpa [setBlock_put] using hlt) hs h
theorem SL.mdl {ty k' e : TypeId} {key : κ} (i : Nat) (E : MapE P k ek ev) (hd : o.dst = none) (hop : o.op = .call { callee := .builtin .delete, args := #[x, y], argTypes := #[ty, k'] }) (hwt : wtd ops l o = some true) (hk : k' = k) (ht : P.underlying ty = some (.map k e)) (hx : evl l x = some (.map (some b))) (hy : evl l y = some (ek key))
    (hi : H[i]? = some (mapC b ek ev m)) (hs : SubI Hs (H.set i (mapC b ek ev (mdel m key)))) (h : SL P ro K w0 N ops Hs items Q D l (H.set i (mapC b ek ev (mdel m key)))) : SL P ro K w0 N ops Hs (.cons (false, o) items) Q D l H := by
  subst hk
  intro a w ha hw hs0
  have hw1 := wtd_wanted hwt ha.vals
  simp only [PL, hw1, if_true]
  obtain ⟨es, clock, hb, hr⟩ := hw.holds _ (List.mem_append_left _ (List.mem_of_getElem? hi))
  obtain ⟨es', hrun, hr'⟩ := hr.drop (rt := o.type) E hb ht key
  obtain ⟨hlt, _⟩ := Array.getElem?_eq_some_iff.1 hb
  have hw' : HpOk K w0 (H.set i (mapC b ek ev (mdel m key)) ++ [marks D]) (setBlock w b (.map es' clock)) := by
    refine hw.turnAt (c := mapC b ek ev m) i hi rfl rfl rfl (by simp [setBlock_put]) (fun j hj hne => World.putObj_heap_other (fun e => hne (by rw [e]; rfl))) ⟨es', clock, World.putObj_heap_same hlt, hr'⟩ (fun j hj => ⟨.inl hj, ?_⟩)
    obtain rfl : j = b := hj
    simpa [setBlock_put] using hlt
  refine ow_value (by rw [hop]; exact isDefer_ne rfl) (v := .tuple #[]) (w' := setBlock w b (.map es' clock)) ?_ ⟨hs.hs hw', ?_⟩
  · unfold execOp
    simp only [hop, resolve, invoke, builtin, Sem.run_bind, Sem.run_pure, Result.andThen_ok, List.map_toArray, List.map_cons, List.map_nil, ha.vals.eval hx, ha.vals.eval hy, hrun]
  · rw [hd]
    exact h _ _ ha hw' (hs.hs hw')
omit [DecidableEq κ]
theorem SL.mcl {ty e : TypeId} (i : Nat) (hd : o.dst = none) (hop : o.op = .call { callee := .builtin .clear, args := #[x], argTypes := #[ty] }) (hwt : wtd ops l o = some true) (ht : P.underlying ty = some (.map k e)) (hx : evl l x = some (.map (some b)))
    (hi : H[i]? = some (mapC b ek ev m)) (hs : SubI Hs (H.set i (mapC b ek ev []))) (h : SL P ro K w0 N ops Hs items Q D l (H.set i (mapC b ek ev []))) : SL P ro K w0 N ops Hs (.cons (false, o) items) Q D l H := by
  intro a w ha hw hs0
  have hw1 := wtd_wanted hwt ha.vals
  simp only [PL, hw1, if_true]
  obtain ⟨es, clock, hb, hr⟩ := hw.holds _ (List.mem_append_left _ (List.mem_of_getElem? hi))
  obtain ⟨hlt, _⟩ := Array.getElem?_eq_some_iff.1 hb
  have hw' : HpOk K w0 (H.set i (mapC b ek ev []) ++ [marks D]) (setBlock w b (.map #[] clock)) := by
    refine hw.turnAt (c := mapC b ek ev m) i hi rfl rfl rfl (by simp [setBlock_put]) (fun j hj hne => World.putObj_heap_other (fun e => hne (by rw [e]; rfl))) ⟨#[], clock, World.putObj_heap_same hlt, stamped_empty clock, by simp, by simp⟩ (fun j hj => ⟨.inl hj, ?_⟩)
    obtain rfl : j = b := hj
    simpa [setBlock_put] using hlt
  refine ow_value (by rw [hop]; exact isDefer_ne rfl) (v := .tuple #[]) (w' := setBlock w b (.map #[] clock)) ?_ ⟨hs.hs hw', ?_⟩
  · unfold execOp
    simp only [hop, resolve, invoke, builtin, Sem.run_bind, Sem.run_pure, Result.andThen_ok, List.map_toArray, List.map_cons, List.map_nil, ha.vals.eval hx]
    simp [Builtin.clear_, run_underlying ht, MapKept.run_getObj_map hb, MapKept.run_setObj_map _ hb, Result.andThen, setBlock]
  · rw [hd]
    exact h _ _ ha hw' (hs.hs hw')
theorem SL.lenM {ty e : TypeId} (i : Nat) (ho : At ops N l o t (.call { callee := .builtin .len, args := #[x], argTypes := #[ty] })) (ht : P.underlying ty = some (.map k e)) (hx : evl l x = some (.map (some b)))
    (hi : (bif tk then Hs else H)[i]? = some (mapC b ek ev m)) (h : SL P ro K w0 N ops Hs items Q D ((t, vI m.length) :: l) H) : SL P ro K w0 N ops Hs (.cons (tk, o) items) Q D l H :=
  SL.val ho rfl (fun a w ha hsw => by
    obtain ⟨es, clock, hb, hr⟩ := hsw.holds _ (List.mem_of_getElem? hi)
    have hsz := hr.size_eq
    simp only [execOp, ho.op, resolve, invoke, builtin, Builtin.len_]
    simp [ha.eval hx, run_underlying ht, MapKept.run_getObj_map hb, goInt, hsz]) h

/-! ### Ranges -/
/-- a range over a map that is under way: what has come out -/
def mapIt (b it : Nat) (ek : κ → Value) (ev : α → Value) (m done : List (κ × α)) : Chunk :=
  ⟨fun j => j = b ∨ j = it, fun w => ∃ es clock seen, w.heap[b]? = some (.map es clock) ∧ MapRep ek ev m es clock ∧ w.heap[it]? = some (.mapIter (some b) clock seen clock) ∧
    ∃ ord : List MapEntry, seen.toList = ord.map MapEntry.born ∧ (∀ e ∈ ord, e ∈ es.toList) ∧ (ord.map MapEntry.born).Nodup ∧ (ord.map fun e => (e.key, e.val)) = done.map fun p => (ek p.1, ev p.2),
   fun w w' h ⟨es, c, s, h1, h2, h3, h4⟩ => ⟨es, c, s, by rw [h _ (.inl rfl)]; exact h1, h2, by rw [h _ (.inr rfl)]; exact h3, h4⟩⟩
theorem SL.mrg {ty e : TypeId} (i : Nat) (ho : At ops N l o t (.range ty x)) (ht : P.underlying ty = some (.map k e)) (hx : evl l x = some (.map (some b))) (hi : H[i]? = some (mapC b ek ev m))
    (hs : ∀ it, SubI Hs (H.set i (mapIt b it ek ev m []))) (h : ∀ it, SL P ro K w0 N ops Hs items Q D ((t, vP it 0) :: l) (H.set i (mapIt b it ek ev m []))) : SL P ro K w0 N ops Hs (.cons (false, o) items) Q D l H :=
  SL.step (fun it => vP it 0) (fun it => H.set i (mapIt b it ek ev m [])) ho rfl (fun a w ha hw => by
    obtain ⟨es, clock, hb, hr⟩ := hw.holds _ (List.mem_append_left _ (List.mem_of_getElem? hi))
    obtain ⟨hlt, _⟩ := Array.getElem?_eq_some_iff.1 hb
    refine ⟨w.heap.size, w.alloc (.mapIter (some b) clock #[] clock), ?_, ?_⟩
    · simp [execOp, ho.op, Instr.range, ha.eval hx, run_underlying ht, MapKept.run_getObj_map hb]
    · refine hw.turnAt (c := mapC b ek ev m) i hi rfl rfl rfl (by simp) (fun j hj _ => heap_push_lt w _ j hj) ⟨es, clock, #[], (heap_push_lt w _ b hlt).trans hb, hr, ?_, [], by simp, by simp, by simp, by simp⟩ (fun j hj => ?_)
      · show (w.heap.push _)[w.heap.size]? = _
        simp
      · rcases hj with rfl | rfl
        · exact ⟨.inl rfl, by simp; omega⟩
        · exact ⟨.inr (Nat.le_refl _), by simp⟩) hs h
theorem SL.mnx {it : Nat} {done : List (κ × α)} (i : Nat) (E : MapE P k ek ev) (ho : At ops N l o t (.next x false)) (hx : evl l x = some (vP it 0)) (hi : H[i]? = some (mapIt b it ek ev m done)) (hs0 : SubI Hs H)
    (hA : done.Perm m → SL P ro K w0 N ops Hs items Q D ((t, .tuple #[.bool false]) :: l) H)
    (hB : ∀ p, p ∈ m → done.length < m.length → SubI Hs (H.set i (mapIt b it ek ev m (done ++ [p]))) ∧ SL P ro K w0 N ops Hs items Q D ((t, .tuple #[.bool true, ek p.1, ev p.2]) :: l) (H.set i (mapIt b it ek ev m (done ++ [p])))) :
    SL P ro K w0 N ops Hs (.cons (false, o) items) Q D l H := by
  intro a w ha hw hsw
  have hw1 := wtd_wanted ho.wt ha.vals
  simp only [PL, hw1, if_true]
  obtain ⟨es, clock, seen, hb, hr, hit, ord, ho1, ho2, ho3, ho4⟩ := hw.holds _ (List.mem_append_left _ (List.mem_of_getElem? hi))
  obtain ⟨hlt, _⟩ := Array.getElem?_eq_some_iff.1 hb
  obtain ⟨hlt2, _⟩ := Array.getElem?_eq_some_iff.1 hit
  have hlen : ord.length = done.length := by simpa using congrArg List.length ho4
  have hsz := hr.size_eq
  have hnd : ord.Nodup := nodup_of_map _ ho3
  rcases run_next_at (P := P) w o.type it b clock clock seen es clock hit hb hr.1.1 (Nat.le_refl _) with ⟨h0, hrun⟩ | ⟨e, he, w1, hal, hrun⟩
  · -- nothing is left
    have hall : ∀ e ∈ es.toList, e ∈ ord := fun e he => by
      have : leftOf es seen = #[] := Array.eq_empty_of_size_eq_zero h0
      unfold leftOf at this
      have h1 := Array.filter_eq_empty_iff.1 this e (by simpa using he)
      have h2 : e.born ∈ seen.toList := by simpa using h1
      rw [ho1] at h2
      obtain ⟨e', he', eb⟩ := List.mem_map.1 h2
      have h3 := ho2 e' he'
      have : e' = e := by
        have hn := hr.1.2.1
        obtain ⟨p, hp, e1⟩ := List.getElem_of_mem h3
        obtain ⟨q, hq, e2⟩ := List.getElem_of_mem he
        have := (List.getElem_inj (h₀ := by simpa using hp) (h₁ := by simpa using hq) hn).1 (by simp [e1, e2, eb])
        subst this
        rw [← e1, ← e2]
      rw [← this]; exact he'
    have hperm : ord.Perm es.toList := by
      have hen : es.toList.Nodup := nodup_of_map _ hr.1.2.1
      exact (List.perm_ext_iff_of_nodup hnd hen).2 fun e => ⟨ho2 e, hall e⟩
    have hdm : done.Perm m := by
      have h1 : (done.map fun p => (ek p.1, ev p.2)).Perm (m.map fun p => (ek p.1, ev p.2)) := by
        rw [← ho4]
        exact (hperm.map _).trans hr.2.2
      obtain ⟨fk, hfk⟩ := E.dk
      obtain ⟨fv, hfv⟩ := E.dv
      have h2 := h1.filterMap fun q : Value × Value => (fk q.1).bind fun a => (fv q.2).map fun b => (a, b)
      have h3 : ∀ l : List (κ × α), (l.map fun p => (ek p.1, ev p.2)).filterMap (fun q : Value × Value => (fk q.1).bind fun a => (fv q.2).map fun b => (a, b)) = l := by
        intro l
        induction l with
        | nil => rfl
        | cons p r ih => simp [hfk, hfv, ih]
      rwa [h3, h3] at h2
    refine ow_value (by rw [ho.op]; exact isDefer_ne rfl) (v := .tuple #[.bool false]) (w' := w) ?_ ⟨hs0.hs hw, hA hdm _ w (by rw [ho.dst]; exact ha.put (blt_lt ho.lt) _) hw (hs0.hs hw)⟩
    simp [execOp, ho.op, ha.vals.eval hx, hrun]
  · -- one more
    have hel : e ∈ es.toList := by
      unfold leftOf at he
      simp at he ⊢
      exact he.1
    have hens : e.born ∉ ord.map (·.born) := by
      unfold leftOf at he
      rw [← ho1]
      simp at he ⊢
      exact he.2
    obtain ⟨p, hp, e1, e2⟩ := hr.mem hel
    have hlt3 : done.length < m.length := by
      have hnd2 : (ord ++ [e]).Nodup := by
        refine List.nodup_append.2 ⟨hnd, by simp, ?_⟩
        intro x hx y hy
        simp only [List.mem_singleton] at hy
        subst hy
        intro exy
        exact hens (by rw [← exy]; exact List.mem_map_of_mem hx)
      have hsub : (ord ++ [e]) ⊆ es.toList := by
        intro x hx
        rcases List.mem_append.1 hx with hx | hx
        · exact ho2 x hx
        · simp only [List.mem_singleton] at hx
          subst hx; exact hel
      have := nodup_len hnd2 (fun a ha => hsub ha)
      simp at this
      omega
    obtain ⟨hsub, hcont⟩ := hB p hp hlt3
    have hhw1 : w1.os = w.os ∧ w1.tape = w.tape ∧ w1.output = w.output ∧ w1.heap = w.heap := by rcases hal with rfl | rfl <;> exact ⟨rfl, rfl, rfl, rfl⟩
    have hne : it ≠ b := fun e => by rw [e, hb] at hit; cases hit
    have hw' : HpOk K w0 (H.set i (mapIt b it ek ev m (done ++ [p])) ++ [marks D]) (setBlock w1 it (.mapIter (some b) clock (seen.push e.born) clock)) := by
      refine hw.turnAt (c := mapIt b it ek ev m done) i hi hhw1.1 hhw1.2.1 hhw1.2.2.1 (by simp [setBlock_put, hhw1.2.2.2]) (fun j hj hnf => ?_) ⟨es, clock, seen.push e.born, ?_, hr, World.putObj_heap_same (by rw [hhw1.2.2.2]; exact hlt2), ord ++ [e], by simp [ho1], ?_, ?_, by simp [ho4, e1, e2]⟩ (fun j hj => ⟨.inl hj, ?_⟩)
      · exact (World.putObj_heap_other (fun e => hnf (.inr e))).trans (by rw [hhw1.2.2.2])
      · exact (World.putObj_heap_other (fun e => hne e.symm)).trans (by rw [hhw1.2.2.2]; exact hb)
      · intro x hx
        rcases List.mem_append.1 hx with hx | hx
        · exact ho2 x hx
        · simp only [List.mem_singleton] at hx
          subst hx; exact hel
      · rw [List.map_append]
        refine List.nodup_append.2 ⟨ho3, by simp, ?_⟩
        intro x hx y hy
        simp only [List.map_cons, List.map_nil, List.mem_singleton] at hy
        subst hy
        intro exy
        exact hens (by rw [← exy]; exact hx)
      · rcases hj with rfl | rfl
        · simpa [setBlock_put, hhw1.2.2.2] using hlt
        · simpa [setBlock_put, hhw1.2.2.2] using hlt2
    refine ow_value (by rw [ho.op]; exact isDefer_ne rfl) (v := .tuple #[.bool true, ek p.1, ev p.2]) (w' := setBlock w1 it (.mapIter (some b) clock (seen.push e.born) clock)) ?_ ⟨hsub.hs hw', hcont _ _ (by rw [ho.dst]; exact ha.put (blt_lt ho.lt) _) hw' (hsub.hs hw')⟩
    simp [execOp, ho.op, ha.vals.eval hx, hrun, e1, e2]
theorem SL.mer {it : Nat} {done : List (κ × α)} {p : κ × α} (i : Nat) (ho : At ops N l o t (.entry x)) (hx : evl l x = some (vP it 0)) (hi : (bif tk then Hs else H)[i]? = some (mapIt b it ek ev m (done ++ [p])))
    (h : SL P ro K w0 N ops Hs items Q D ((t, .tuple #[ek p.1, ev p.2]) :: l) H) : SL P ro K w0 N ops Hs (.cons (tk, o) items) Q D l H :=
  SL.val ho rfl (fun a w ha hsw => by
    obtain ⟨es, clock, seen, hb, hr, hit, ord, ho1, ho2, ho3, ho4⟩ := hsw.holds _ (List.mem_of_getElem? hi)
    have hne : ord ≠ [] := fun e => by rw [e] at ho4; simp at ho4
    obtain ⟨ord', e, rfl⟩ : ∃ o' e, ord = o' ++ [e] := ⟨_, _, (List.dropLast_concat_getLast hne).symm⟩
    simp only [List.map_append, List.map_cons, List.map_nil] at ho4 ho1
    have h4 := List.append_inj' ho4 rfl
    simp only [List.cons.injEq, Prod.mk.injEq, and_true] at h4
    have hse : seen = (ord'.map (·.born)).toArray.push e.born := by
      apply Array.ext'
      simp [ho1]
    rw [hse] at hit
    have := run_entry_at (P := P) w it b clock _ es clock e hit hb (ho2 e (by simp)) hr.1.2.1
    simp [execOp, ho.op, ha.eval hx, this, h4.2.1, h4.2.2]) h
/-- a range that is over: the map alone -/
theorem HpOk.itOff {w : World} {M : List Chunk} {it : Nat} {done : List (κ × α)} (i : Nat) (h : HpOk K w0 (H ++ M) w) (hi : H[i]? = some (mapIt b it ek ev m done)) : HpOk K w0 (H.set i (mapC b ek ev m) ++ M) w := by
  obtain ⟨es, clock, seen, hb, hr, _⟩ := h.holds _ (List.mem_append_left _ (List.mem_of_getElem? hi))
  exact h.turnAt (c := mapIt b it ek ev m done) i hi rfl rfl rfl (Nat.le_refl _) (fun _ _ _ => rfl) ⟨es, clock, hb, hr⟩ (fun j hj => ⟨.inl (.inl hj), (h.foot _ (List.mem_append_left _ (List.mem_of_getElem? hi)) j (.inl hj)).1⟩)
theorem SX.itOff {c : Code} {it : Nat} {done : List (κ × α)} (i : Nat) (hi : H[i]? = some (mapIt b it ek ev m done)) (h : SX P ro K w0 N c Q D l (H.set i (mapC b ek ev m))) : SX P ro K w0 N c Q D l H :=
  fun a w ha hw => h a w ha (hw.itOff i hi)
end maps
end Go.Proofs.Ytddjneafgddlcaa

/- The engine: slices in cells, rows of any length made, stores into maps, in "= some" form; the devices' structures. No condition beyond those stated. -/
namespace Go.Proofs.Ytddjneafgddlcaa
open Go Go.MapKept Go.ChangeMaps

variable {P : Program} {ro : Option Nat} {K : Nat → Prop} {w0 : World} {N : Nat} {Q : Post} {D : List Nat} {l l' : Tm} {H H' Hs L : List Chunk} {ops : Array Oper} {items : Its}
variable {tk : Bool} {o : Oper} {t : Nat} {v : Value} {x y z : Operand}

theorem nthI_mem {α : Type} {l : List α} {i : Int} {a : α} (h : nthI l i = some a) : a ∈ l := List.mem_of_getElem? (nthI_some h).2.2
/-! ### Slices' values in cells -/
theorem SL.rowV {α : Type} {e : TypeId} {sz : Nat} {enc : α → List Value} {xs : List α} (i : Nat) (hi : H[i]? = some (rowT e sz v enc xs)) (h : v.cells = #[v] → v.oneCell' = true → SL P ro K w0 N ops Hs items Q D l H) : SL P ro K w0 N ops Hs items Q D l H := by
  intro a w ha hw hs
  have hrow : w.ownsRow 0 e sz v xs.length (xs.flatMap enc) := hw.holds _ (List.mem_append_left _ (List.mem_of_getElem? hi))
  rcases hrow.2 with ⟨rfl, _⟩ | ⟨g, cap, cur, rfl, _⟩
  · exact h rfl rfl a w ha hw hs
  · exact h rfl rfl a w ha hw hs
theorem SL.slV1 {α : Type} {sz : Nat} {enc : α → List Value} {xs : List α} (hk : SlOf K w0 enc sz v xs) (h : v.cells = #[v] → v.oneCell' = true → SL P ro K w0 N ops Hs items Q D l H) : SL P ro K w0 N ops Hs items Q D l H := by
  rcases hk.at_ with ⟨_, rfl, _⟩ | ⟨b, off, cap, rfl, _⟩
  · exact h rfl rfl
  · exact h rfl rfl
theorem SL.boxR {ty : TypeId} (hv : v.cells = #[v]) (ho : At ops N l o t (.box ty x)) (hx : evl l x = some v) (hs : ∀ b, SubI Hs (own b (.cells #[v] ty) :: H))
    (h : ∀ b, SL P ro K w0 N ops Hs items Q D ((t, vP b 0) :: l) (own b (.cells #[v] ty) :: H)) : SL P ro K w0 N ops Hs (.cons (false, o) items) Q D l H :=
  SL.box ho hx (by rw [hv]; exact hs) (by rw [hv]; exact h)
theorem SL.stR {b off : Nat} {c : Array Value} {e ty : TypeId} (i : Nat) (ho : At0 ops l o (.store ty x y)) (hx : evl l x = some (vP b off)) (hy : evl l y = some v) (hi : H[i]? = some (own b (.cells c e)))
    (hn : tsz P ty = some 1) (hv : v.cells = #[v]) (h1 : v.oneCell' = true) (hle : Nat.ble (off + 1) c.size = true)
    (hs : SubI Hs (H.set i (own b (.cells (setL c off [v]) e)))) (h : SL P ro K w0 N ops Hs items Q D l (H.set i (own b (.cells (setL c off [v]) e)))) : SL P ro K w0 N ops Hs (.cons (false, o) items) Q D l H :=
  SL.st i ho hx hy hi hn (by rw [hv]; rfl) (by rw [hv]; simp [h1]) hle (by rw [hv]; exact hs) (by rw [hv]; exact h)
/-! ### Makes of any length -/
def mkI {α : Type} (by_ : Nat) (n : Int) (a : α) : Option (List α) := if 0 ≤ n ∧ by_ * n.toNat ≤ 281474976710656 ∧ n ≤ 9223372036854775807 then some (List.replicate n.toNat a) else none
theorem mkI_some {α : Type} {by_ : Nat} {n : Int} {a : α} {xs : List α} (h : mkI by_ n a = some xs) : n = (n.toNat : Int) ∧ by_ * n.toNat ≤ 281474976710656 ∧ n.toNat ≤ 9223372036854775807 ∧ xs = List.replicate n.toNat a := by
  unfold mkI at h
  split at h
  · rename_i hc
    exact ⟨by omega, hc.2.1, by omega, (Option.some.inj h).symm⟩
  · cases h
theorem made_one {α : Type} {enc : α → List Value} {a : α} {zv : Value} (hz : zv.cells.toList = enc a) (h1 : (enc a).length = 1) (n : Nat) : (madeCells zv.cells (n * 1)).toList = (List.replicate n a).flatMap enc := by
  obtain ⟨u, hu⟩ := List.length_eq_one_iff.1 h1
  have hs : zv.cells = #[u] := by apply Array.ext'; rw [hz, hu]
  rw [hs]
  have hrep : (List.replicate n a).flatMap enc = List.replicate n u := by
    induction n with
    | zero => rfl
    | succ k ih => rw [List.replicate_succ, List.flatMap_cons, ih, hu, List.replicate_succ]; rfl
  rw [hrep]
  apply List.ext_getElem
  · simp [madeCells]
  · intro i h2 h3
    simp [madeCells, Nat.mod_one]
theorem SL.mkN {α : Type} {e ty : TypeId} {by_ : Nat} {zv : Value} {n : Int} {a : α} {xs : List α} (hn : mkI by_ n a = some xs) (enc : α → List Value) (ho : At ops N l o t (.makeSlice ty x x)) (hty : P.underlying ty = some (.slice e)) (hsz : tsz P e = some 1) (hby : byt P e = some by_) (hze : zer P e = some zv)
    (hx : evl l x = some (vI n)) (hza : zv.cells.toList = enc a) (h1 : (enc a).length = 1) (hzs : zv.cells.size = 1)
    (hs : ∀ v', SubI Hs (rowT e 1 v' enc xs :: H)) (h : ∀ v', SL P ro K w0 N ops Hs items Q D ((t, v') :: l) (rowT e 1 v' enc xs :: H)) : SL P ro K w0 N ops Hs (.cons (false, o) items) Q D l H := by
  obtain ⟨h0, hb, h63, rfl⟩ := mkI_some hn
  generalize n.toNat = m at h0 hb h63 hs h
  subst h0
  refine SL.step (fun b => .slice (some ⟨b, 0, none⟩) m m) (fun b => rowT e 1 (.slice (some ⟨b, 0, none⟩) m m) enc (List.replicate m a) :: H) ho rfl (fun a' w ha hw => ?_) (fun b => hs _) (fun b => h _)
  obtain ⟨ii, hii, e1, e2, e3⟩ := info_of hsz hby hze
  have hb' : (ii.bytes : Int) * (m : Int) ≤ 281474976710656 := by rw [e2, ← Int.natCast_mul]; omega
  have hr := run_make (P := P) w ty e ii zv hty hii e3 .i64 .i64 m m (by omega) (by omega) hb' (by omega)
  rw [e1] at hr
  simp only [Int.toNat_natCast] at hr
  refine ⟨w.heap.size, w.alloc (.cells (madeCells zv.cells (m * 1)) e), ?_, ?_⟩
  · unfold execOp
    simp only [ho.op, ha.eval hx, Sem.run_bind, hr, Result.andThen_ok, Sem.run_pure]
  · have h2 := hw.alloc (.cells (madeCells zv.cells (m * 1)) e)
    have hlen : ((List.replicate m a).flatMap enc).length = m * 1 := by simp [h1]
    refine h2.turn rfl rfl rfl (Nat.le_refl _) (fun _ _ _ => rfl) ⟨by simp [h1], .inr ⟨w.heap.size, m, _, by simp, Nat.zero_le _, h2.holds _ (List.mem_cons_self ..), by simp, by simp only [maxLen]; omega, ?_, ?_⟩⟩ (fun k hk => ?_)
    · simp [madeCells]
    · rw [made_one hza h1]
      rw [List.take_of_length_le (by simp [h1])]
    · have hkb : k = w.heap.size := by simp [rowT, Value.ownBlock] at hk; exact hk.symm
      subst hkb
      exact ⟨.inl rfl, (h2.foot _ (List.mem_cons_self ..) _ rfl).1⟩
/-! ### Stores into maps -/
def mputI {κ α : Type} [DecidableEq κ] (m : List (κ × α)) (k : κ) (a : α) : Option (List (κ × α)) := if m.length < 9223372036854775807 then some (mput m k a) else none
theorem mputI_some {κ α : Type} [DecidableEq κ] {m us : List (κ × α)} {k : κ} {a : α} (h : mputI m k a = some us) : m.length < 9223372036854775807 ∧ us = mput m k a := by
  unfold mputI at h
  split at h
  · exact ⟨by assumption, (Option.some.inj h).symm⟩
  · cases h
theorem SL.mupN {κ α : Type} [DecidableEq κ] {ek : κ → Value} {ev : α → Value} {m us : List (κ × α)} {k : TypeId} {b : Nat} {ty e : TypeId} {key : κ} {a : α} (i : Nat) (hn : mputI m key a = some us) (E : MapE P k ek ev) (ho : At0 ops l o (.mapUpdate ty x y z)) (ht : P.underlying ty = some (.map k e)) (hx : evl l x = some (.map (some b))) (hy : evl l y = some (ek key)) (hz : evl l z = some (ev a))
    (hi : H[i]? = some (mapC b ek ev m)) (hs : SubI Hs (H.set i (mapC b ek ev us))) (h : SL P ro K w0 N ops Hs items Q D l (H.set i (mapC b ek ev us))) : SL P ro K w0 N ops Hs (.cons (false, o) items) Q D l H := by
  obtain ⟨hr, rfl⟩ := mputI_some hn
  exact SL.mup i E ho ht hx hy hz hi hr hs h
/-! ### The devices -/
structure RegA where
  cnt : UInt64
  tag : List UInt8
  boots : UInt32
deriving DecidableEq
def encReg (r : RegA) : List Value := [vU64 r.cnt, vS r.tag, vU32 r.boots]
structure OpA where
  act : Int
  page : UInt32
  num : Int
  txt : List UInt8
  lv : Value
  fates : List Int
def encOp (x : OpA) : List Value := [vI x.act, vU32 x.page, vI x.num, vS x.txt, x.lv]
structure DevA where
  off : Bool
  isCut : Bool
  lasts : Int
  counts : Int
  blocks : List (List UInt8)
  pend : List (UInt32 × List UInt8)
  bad : List (UInt32 × Bool)
  rcnt : UInt64
  rtag : List UInt8
  rboots : UInt32
structure RDevA where
  blk : List (List UInt8)
  pnd : List (List UInt8)
  bads : List Bool
  rcnt : UInt64
  rtag : List UInt8
  rboots : UInt32
  left : Int
  off : Bool
end Go.Proofs.Ytddjneafgddlcaa

/- The engine: slices cut at their beginning, copy into a block of the call's own. No condition beyond those stated. -/
namespace Go.Proofs.Ytddjneafgddlcaa
open Go

variable {P : Program} {ro : Option Nat} {K : Nat → Prop} {w0 : World} {N : Nat} {Q : Post} {D : List Nat} {l l' : Tm} {H H' Hs L : List Chunk} {ops : Array Oper} {items : Its}
variable {tk : Bool} {o : Oper} {t : Nat} {v : Value} {x y z : Operand}

theorem SL.slLR {b off n c sz : Nat} {k : IntKind} {j : Int} {ty e : TypeId} (q : Nat) (ho : At ops N l o t (.slice ty x (some z) none none)) (hty : P.underlying ty = some (.slice e)) (hsz : tsz P e = some sz) (hx : evl l x = some (.slice (some ⟨b, off, none⟩) n c)) (hz : evl l z = some (.int k j))
    (hj : j = (q : Int)) (hq : q ≤ n) (hqc : q < c) (h : SL P ro K w0 N ops Hs items Q D ((t, .slice (some ⟨b, off + q * sz, none⟩) (n - q) (c - q)) :: l) H) : SL P ro K w0 N ops Hs (.cons (tk, o) items) Q D l H :=
  SL.val ho rfl (fun a w ha _ => by
    subst hj
    simp only [execOp, ho.op, Instr.sliceAt, Instr.slice, Option.map]
    simp [ha.eval hx, ha.eval hz, run_underlying hty, run_sizeOf hsz, Instr.sliceBounds, Instr.sliceBound, asIntOf, hq, Addr.add_mk]; omega) h
/-- copy into a block of the call's own -/
theorem SL.cpO {b off dl dc sl sc : Nat} {c : Array Value} {e ty ty' : TypeId} {ad : Addr} (i : Nat) (news : List Value) (ho : At ops N l o t (.call { callee := .builtin .copy, args := #[x, y], argTypes := #[ty, ty'] })) (hty : P.underlying ty = some (.slice e)) (hsz : tsz P e = some 1)
    (hx : evl l x = some (.slice (some ⟨b, off, none⟩) dl dc)) (hy : evl l y = some (.slice (some ad) sl sc)) (hi : H[i]? = some (own b (.cells c e)))
    (hn : news.length = Nat.min sl dl) (hnews : ∀ w, HpS K w0 H w → ∀ j u, news[j]? = some u → w.cell? (ad.add j) = some u) (h1 : ∀ u ∈ news, u.oneCell' = true) (hle : off + news.length ≤ c.size)
    (hs : SubI Hs (H.set i (own b (.cells (setL c off news) e)))) (h : SL P ro K w0 N ops Hs items Q D ((t, vI news.length) :: l) (H.set i (own b (.cells (setL c off news) e)))) : SL P ro K w0 N ops Hs (.cons (false, o) items) Q D l H :=
  SL.step (fun _ : Unit => vI news.length) (fun _ => H.set i (own b (.cells (setL c off news) e))) ho rfl (fun a w ha hw => by
    have hb : w.heap[b]? = some (.cells c e (0, 0)) := hw.holds _ (List.mem_append_left _ (List.mem_of_getElem? hi))
    obtain ⟨w', hrun, hw'⟩ := run_storeCells (P := P) news off 0 c w hb (by simpa using hle) h1
    have hl := run_loadCells_list (P := P) w ad news (hnews w hw.dropMarks.s)
    have hs1 := run_sizeOf (w := w) hsz
    refine ⟨(), w', ?_, ?_⟩
    · unfold execOp
      simp only [ho.op, resolve, Sem.run_bind, Sem.run_pure, Result.andThen_ok, invoke]
      simp only [List.map_toArray, List.map_cons, List.map_nil, ha.eval hx, ha.eval hy]
      simp [builtin, Builtin.copy_, run_underlying hty, Builtin.lenOf, Builtin.firstCells, hs1, ← hn, hl, hrun, goInt]
    · rw [hw']
      exact hw.putAt i hi) (fun _ => hs) (fun _ => h)
theorem SL.ownTn {α : Type} {b n : Nat} {c : Array Value} {e : TypeId} (enc : α → List Value) (sz : Nat) (xs : List α) (hn : xs.length = n) (hc : c.toList = xs.flatMap enc) (hl : ∀ x, (enc x).length = sz) (hm : n ≤ 1000000)
    (h : SL P ro K w0 N ops Hs items Q D l (rowT e sz (.slice (some ⟨b, 0, none⟩) n n) enc xs :: H)) : SL P ro K w0 N ops Hs items Q D l (own b (.cells c e) :: H) := by
  subst hn
  exact SL.ownT enc sz xs hc hl (Nat.ble_eq_true_of_le hm) h
end Go.Proofs.Ytddjneafgddlcaa

/- The engine: a range over a function that reads, ahead of its first round, chunks that the body turns. No condition beyond those stated. -/
namespace Go.Proofs.Ytddjneafgddlcaa
open Go

variable {P : Program} {ro : Option Nat} {K : Nat → Prop} {w0 : World} {N : Nat} {Q : Post} {D : List Nat} {l l' : Tm} {H H' Hs L : List Chunk} {ops : Array Oper} {items : Its}

/-- as 'Seq', but of chunks G0 that lie there when it begins -/
def SeqAt (P : Program) (K : Nat → Prop) (w0 : World) (f : FuncId) (cap : List Value) (Hit G0 : List Chunk) {α : Type} (enc : α → List Value) (xs : List α) : Prop :=
  ∀ (lp : Nat) (J : List α → List Chunk → Prop) (X : List Chunk → Prop) (T : List Chunk) (rc : Chunk),
    (∀ pre x suf, xs = pre ++ x :: suf → ∀ G, J pre G → ∀ M, Yld P K w0 lp (enc x) (G ++ M) fun b G' => ∃ G1, G' = G1 ++ M ∧ (if b then J (pre ++ [x]) G1 else X G1)) →
    J [] (rc :: G0) → Con P K w0 f (vY lp :: cap) (Hit ++ (rc :: G0)) T fun _ M => J xs M ∨ X M
/-- **for .. := range g { .. }**, outside every round -/
theorem SX.rangeAt {α : Type} {g : Operand} {ps : Array Tmp} {assign body : Code} {f : FuncId} {cap : List Value} {Hit : List Chunk} {enc : α → List Value} (xs : List α) {G0 : List Chunk}
    (J : List α → List Chunk → Prop) (X : Code → List Chunk → Prop)
    (hg : evl l g = some (.func (.func f) #[] cap.toArray)) (hf : callable P f = true) (hps : ps.toList.all (fun p => Nat.blt p N) = true) (hlen : ∀ x, (enc x).length = ps.size)
    (hseq : SeqAt P K w0 f cap Hit G0 enc xs) (hH : H = Hit ++ G0) (h0 : J [] G0)
    (hbody : ∀ pre x suf G, xs = pre ++ x :: suf → J pre G → ∀ r lp Rest, SX P (some lp) K w0 N assign (bgn P lp body (rnd K w0 J X pre x (Tl r lp Rest .busy))) [] (parTm ps.toList (enc x) l) (G ++ Tl r lp Rest .ready))
    (hdone : ∀ G D, J xs G → SQ K w0 N Q .normal D l G)
    (hstop : ∀ c G D, X c G → SX P none K w0 N c Q D l G) : SX P none K w0 N (.rangeFunc g ps assign body) Q D l H := by
  intro a w ha hw
  subst hH
  refine wpIn_rangeFunc fun fn _ => ?_
  let r : Loop := { state := .ready, pending := none, fn := fn, tmps := a.tmps, params := ps, assign := assign, body := body, defers := w.heap.size }
  refine ⟨w.heap.size + 1, [{ target := .collected w.heap.size, args := #[] }], (w.alloc (.deferred (some []))).alloc (.loop r), { target := .fn (.func f) cap.toArray, args := #[vY (w.heap.size + 1)] }, (w.alloc (.deferred (some []))).alloc (.loop r),
    f, (vY (w.heap.size + 1) :: cap).toArray, (w.alloc (.deferred (some []))).alloc (.loop r), ?_, ?_, fun _ _ => Fc_fn _ _, ?_, fun hd => by simp [Fc_depth] at hd, ?_⟩
  · rw [Fc_round]; exact run_enterLoop_outer fn a.tmps ps assign body
  · have hev := ha.vals.eval hg
    simp [resolve, hev, Deferred.ofValue]
    rfl
  · simp [invoke, run_callFunc hf]
  · -- the call
    generalize hlp : w.heap.size + 1 = lp
    have hw1 : HpOk K w0 ((Hit ++ (Tl r lp [] .ready ++ G0)) ++ [marks (w.heap.size :: D)]) ((w.alloc (.deferred (some []))).alloc (.loop r)) := by
      have h1 := (hw.alloc (.deferred (some []))).alloc (.loop r)
      rw [World.size_alloc, hlp] at h1
      -- own lp record :: own mark :: ((Hit ++ G0) ++ [marks D])
      have hm : HpOk K w0 (marks (w.heap.size :: D) :: own lp (.loop r) :: (Hit ++ G0)) ((w.alloc (.deferred (some []))).alloc (.loop r)) := by
        have hp : (own lp (.loop r) :: own w.heap.size (.deferred (some [])) :: (Hit ++ G0 ++ [marks D])).Perm (own w.heap.size (.deferred (some [])) :: marks D :: own lp (.loop r) :: (Hit ++ G0)) := by
          refine (List.Perm.swap _ _ _).trans (List.Perm.cons _ ?_)
          refine (List.Perm.cons _ (List.perm_append_comm (l₁ := Hit ++ G0) (l₂ := [marks D]))).trans ?_
          exact List.Perm.swap _ _ _
        have h2 := h1.perm hp
        have hpw := List.pairwise_cons.1 h2.disj
        have hpw2 := List.pairwise_cons.1 hpw.2
        have hmk := h2.holds (marks D) (by simp)
        have hnew := h2.holds (own w.heap.size (.deferred (some []))) (List.mem_cons_self ..)
        refine ⟨h2.os, h2.tape, h2.output, h2.size, h2.klt, h2.keep, ?_, ?_, ?_⟩
        · intro c hc
          rcases List.mem_cons.1 hc with rfl | hc
          · refine ⟨List.nodup_cons.2 ⟨fun hin => hpw.1 (marks D) (by simp) _ rfl hin, hmk.1⟩, fun b hb => ?_⟩
            rcases List.mem_cons.1 hb with rfl | hb
            · exact hnew
            · exact hmk.2 b hb
          · exact h2.holds c (by simp only [List.mem_cons] at hc ⊢; exact .inr (.inr hc))
        · intro c hc b hb
          rcases List.mem_cons.1 hc with rfl | hc
          · rcases List.mem_cons.1 hb with rfl | hb
            · exact h2.foot (own w.heap.size (.deferred (some []))) (List.mem_cons_self ..) _ rfl
            · exact h2.foot (marks D) (by simp) b hb
          · exact h2.foot c (by simp only [List.mem_cons] at hc ⊢; exact .inr (.inr hc)) b hb
        · refine List.pairwise_cons.2 ⟨fun c hc b hb hb' => ?_, hpw2.2⟩
          rcases List.mem_cons.1 hb with rfl | hb
          · exact hpw.1 c (List.mem_cons_of_mem _ hc) _ rfl hb'
          · exact hpw2.1 c hc b hb hb'
      refine hm.perm ?_
      have e : Tl r lp [] .ready = [own lp (.loop r)] := rfl
      rw [e]
      refine (List.perm_append_comm (l₁ := [marks (w.heap.size :: D)])).trans (List.Perm.append_right _ ?_)
      simpa using (List.perm_middle (l₁ := Hit) (a := own lp (.loop r)) (l₂ := G0)).symm
    have hN : ∀ p ∈ ps.toList, p < a.tmps.size := fun p hp => by
      rw [ha.size]
      exact blt_lt (List.all_eq_true.1 hps p hp)
    let D' := w.heap.size :: D
    have hcon := hseq lp (fun pre Gx => ∃ G, J pre G ∧ Gx = Tl r lp [] .ready ++ G) (fun Gx => ∃ c G, X c G ∧ Gx = own lp (.loop { r with state := .done, pending := some c }) :: G) [marks D'] (own lp (.loop { r with state := .ready, pending := none })) ?_ ⟨G0, h0, rfl⟩
    · refine Fc_calls none ((hcon _ hw1).mono ?_)
      rintro e w' ⟨v, M, rfl, hM, hw'⟩
      have hD : TmOk N D' l { tmps := a.tmps, defers := [{ target := .collected w.heap.size, args := #[] }] ++ a.defers } := ⟨ha.size, by simp [ha.defers, D', mark], ha.vals⟩
      rcases hM with ⟨G, hJ, rfl⟩ | ⟨c, G, hX, rfl⟩
      · have hl : w'.heap[lp]? = some (.loop { r with state := .ready, pending := none }) := hw'.holds (own lp _) (by simp [Tl])
        refine ⟨_, _, run_endLoop hl (by simp), ?_⟩
        refine hdone G D' hJ _ _ hD ?_
        have h3 := (show HpOk K w0 (own lp (.loop { r with state := .ready, pending := none }) :: (G ++ [marks D'])) w' from hw').put (o' := .loop { r with state := .exhausted, pending := none })
        exact h3.sublist (List.sublist_cons_self _ _)
      · have hl : w'.heap[lp]? = some (.loop { r with state := .done, pending := some c }) := hw'.holds (own lp _) (by simp)
        refine ⟨_, _, run_endLoop hl (by simp), ?_⟩
        refine hstop c G D' hX _ _ hD ?_
        have h3 := (show HpOk K w0 (own lp (.loop { r with state := .done, pending := some c }) :: (G ++ [marks D'])) w' from hw').put (o' := .loop { r with state := .exhausted, pending := some c })
        exact h3.sublist (List.sublist_cons_self _ _)
    · -- a round
      rintro pre x suf hxs Gx ⟨G, hJ, rfl⟩ M w₁ hw₁
      have hl : w₁.heap[lp]? = some (.loop { r with state := .ready, pending := none }) := hw₁.holds (own lp _) (by simp [Tl])
      refine ⟨_, _, _, _, run_yield hl (by simp [hlen]; rfl), ?_⟩
      refine roundIn_of_wpIn trivial ?_
      have hw₂ : HpOk K w0 ((G ++ Tl r lp M .ready) ++ [marks []]) w₁ := by
        refine HpOk.marks0 (hw₁.perm ?_)
        show (own lp _ :: (G ++ M)).Perm (G ++ own lp _ :: M)
        exact List.perm_middle.symm
      have hzip : ((ps.zip (enc x).toArray).foldl (fun tmps (t, a) => tmps.setIfInBounds t a) a.tmps) = ((ps.toList.zip (enc x)).foldl (fun tm (t, a) => tm.setIfInBounds t a) a.tmps) := by
        rw [← Array.foldl_toList, Array.toList_zip]
      have hb := hbody pre x suf G hxs hJ r lp M { tmps := (ps.zip (enc x).toArray).foldl (fun tmps (t, a) => tmps.setIfInBounds t a) a.tmps, defers := [] } w₁
        ⟨by rw [hzip, foldl_set_size]; exact ha.size, rfl, by rw [hzip]; exact parTm_ok ps.toList (enc x) l a.tmps hN ha.vals⟩ hw₂
      refine wpIn_mono hb ?_
      intro e a' w' q
      cases e with
      | normal =>
        obtain ⟨w₃, hbr, hbody'⟩ := q
        refine ⟨w₃, hbr, wpIn_mono hbody' ?_⟩
        have fin : ∀ (jump : Option Code) (G' : List Chunk) (w₄ : World), HpOk K w0 (G' ++ Tl r lp M .busy) w₄ →
            (Instr.endRound lp jump).run P w₄ = .ok (.bool jump.isNone) (w₄.putObj lp (.loop { r with state := if jump.isNone then .ready else .done, pending := jump })) ∧
            HpOk K w0 ((own lp (.loop { r with state := if jump.isNone then .ready else .done, pending := jump }) :: G') ++ M) (w₄.putObj lp (.loop { r with state := if jump.isNone then .ready else .done, pending := jump })) := by
          intro jump G' w₄ h4
          have hl4 : w₄.heap[lp]? = some (.loop { r with state := .busy, pending := none }) := h4.holds (own lp _) (by simp [Tl])
          refine ⟨run_endRound (r := { r with state := .busy, pending := none }) jump hl4, ?_⟩
          have h5 : HpOk K w0 (own lp (.loop { r with state := .busy, pending := none }) :: (G' ++ M)) w₄ := h4.perm List.perm_middle
          exact h5.put
        intro e₂ a₂ w₄ q₂
        cases e₂ with
        | normal =>
          obtain ⟨G', hJ', h4⟩ := q₂
          obtain ⟨hrun, h5⟩ := fin none G' w₄ h4
          exact ⟨_, _, hrun, _, _, rfl, ⟨_, rfl, by simp only [Option.isNone_none, if_true]; exact ⟨G', hJ', rfl⟩⟩, h5⟩
        | ret =>
          obtain ⟨G', hX', h4⟩ := q₂
          obtain ⟨hrun, h5⟩ := fin (some .ret) G' w₄ h4
          exact ⟨_, _, hrun, _, _, rfl, ⟨_, rfl, by simp only [Option.isNone_some, Bool.false_eq_true, if_false]; exact ⟨_, G', hX', rfl⟩⟩, h5⟩
        | exit id =>
          obtain ⟨G', hX', h4⟩ := q₂
          obtain ⟨hrun, h5⟩ := fin (some (.exit id)) G' w₄ h4
          exact ⟨_, _, hrun, _, _, rfl, ⟨_, rfl, by simp only [Option.isNone_some, Bool.false_eq_true, if_false]; exact ⟨_, G', hX', rfl⟩⟩, h5⟩
        | goto _ => exact q₂.elim
        | panic _ => exact q₂.elim
        | outgrown => exact q₂.elim
      | exit _ => exact q.elim
      | goto _ => exact q.elim
      | ret => exact q.elim
      | panic _ => exact q.elim
      | outgrown => exact q.elim
def rangeL {α σ R : Type} (body : (σ → Option R) → α → σ → Option R) (fin : σ → Option R) : List α → σ → Option R
  | [], s => fin s
  | x :: r, s => body (rangeL body fin r) x s
theorem suf_eq {α : Type} {xs pre suf suf' : List α} {x : α} (h : xs = pre ++ x :: suf) (h' : xs = (pre ++ [x]) ++ suf') : suf' = suf := by
  rw [h, List.append_assoc] at h'
  simpa using (List.append_cancel_left h').symm
end Go.Proofs.Ytddjneafgddlcaa

/- From a row's condition to a contract's, and back: readings, slices of numbers and of texts. No condition beyond those stated. -/
namespace Go.Proofs.Ytddjneafgddlcaa
open Go Go.ChangeShapes Go.WideShapes Go.ChangeAt Go.RowKit Go.Deep

section
variable {G : Type} {enc : TypeId × Value → G} {P : Program} {W W' : World}

theorem HpOk.below {H' : List Chunk} (h : HpOk (· < W.heap.size) W H' W') : Below W.heap.size W W' := ⟨h.os, h.tape, h.output, h.size, fun b hb => h.keep b hb⟩
/-- all types of a list can be read -/
def rowed (P : Program) (ts : List TypeId) : Bool := ts.all fun t => P.readableRec t && decide (t < P.types.size)
theorem trodAll_below (hl : laidOutB P = true) (hb : Below W.heap.size W W') : ∀ {ts : List TypeId} {vs : List Value} {ds : List (DataW G)} {ps : List MemPlace}, rowed P ts = true →
    DataW.TrodAll enc P W 0 (fun _ => true) true ts vs ds ps → DataW.TrodAll enc P W' 0 (fun b => decide (b < W.heap.size)) true ts vs ds ps
  | [], [], [], _, _, h => h
  | t :: ts, v :: vs, d :: ds, ps, hr, h => by
    obtain ⟨p, q, h1, h2, e⟩ := h
    simp only [rowed, List.all_cons, Bool.and_eq_true, decide_eq_true_eq] at hr
    refine ⟨p, q, Below.trod hl hr.1.1 hr.1.2 h1 hb ?_, trodAll_below hl hb (by simpa [rowed] using hr.2) h2, e⟩
    obtain ⟨n, hn⟩ := h1
    exact DataW.trod_lt n _ _ _ hn
  | [], _ :: _, _, _, _, h => h.elim
  | [], [], _ :: _, _, _, h => h.elim
  | _ :: _, [], _, _, _, h => h.elim
  | _ :: _, _ :: _, [], _, _, h => h.elim
/-- a law that answers true and leaves old memory as it was -/
theorem post_true {fn : Func} {s : ChangeSpec} {tb : TypeId} {args : Array Value} {ds gs : List (DataW G)} {before : List MemPlace} (hl : laidOutB P = true) (hr : rowed P fn.params.toList = true)
    (hv : s.vars = []) (hres : fn.resultTypes.toList = [tb]) (htb : P.underlying tb = some .bool) (hW : DataW.Whole enc P fn.params.toList s.vars false W args.toList ds gs before)
    (h1 : (s.fn G (ds ++ gs)).results = [.lit (.bool true)]) (h2 : (s.fn G (ds ++ gs)).args = ds) (h3 : (s.fn G (ds ++ gs)).vars = []) (hb : Below W.heap.size W W') :
    s.post enc P fn false true false false W args (.bool true) W' := by
  have hW' := hW
  obtain ⟨p, q, hA, hV, e, _, _⟩ := hW
  have hsz : fn.resultTypes.size = 1 := by rw [← Array.length_toList, hres]; rfl
  refine ⟨ds, gs, before, [], p, [], hW', ?_, ?_, ?_, hb.frame _, fun h => by cases h⟩
  · rw [h1, hres, hsz]
    exact trodAll_cons_mk (shut_bool htb _) trodAll_mk0
  · rw [h2]
    exact trodAll_below hl hb hr hA
  · rw [hv, h3]
    rfl
end
/-- whatever the world, the walk's answer is the row's -/
theorem calls_row {f : FuncId} {args : List Value} {W : World} {R : Value → World → Prop} {P : Program} {post : Value → List Chunk → Prop} (h : Con P (· < W.heap.size) W f args [] [] post)
    (hp : ∀ v W', (∃ M, post v M) → Below W.heap.size W W' → R v W') : Calls P f args.toArray W fun e W' => ∃ v, e = .returned v ∧ R v W' := by
  refine (h W (HpOk.init W)).mono ?_
  rintro e W' ⟨v, M, rfl, hq, hw⟩
  exact ⟨v, rfl, hp v W' ⟨M, hq⟩ hw.below⟩

section
variable {G : Type} {enc : TypeId × Value → G} {P : Program} {W : World}
theorem u32_of {z : Int} (h : (Lit.int .u32 z).wf = true) : Value.int .u32 z = vU32 (UInt32.ofNat z.toNat) := by
  simp only [Lit.wf, Bool.and_eq_true, decide_eq_true_eq] at h
  have h1 : IntKind.u32.min = 0 := rfl
  have h2 : IntKind.u32.max = 4294967295 := rfl
  rw [h1, h2] at h
  simp only [vU32, UInt32.toNat_ofNat']
  congr 1
  omega
theorem u64_of {z : Int} (h : (Lit.int .u64 z).wf = true) : Value.int .u64 z = vU64 (UInt64.ofNat z.toNat) := by
  simp only [Lit.wf, Bool.and_eq_true, decide_eq_true_eq] at h
  have h1 : IntKind.u64.min = 0 := rfl
  have h2 : IntKind.u64.max = 18446744073709551615 := rfl
  rw [h1, h2] at h
  simp only [vU64, UInt64.toNat_ofNat']
  congr 1
  omega
theorem u8_of {z : Int} (h : (Lit.int .u8 z).wf = true) : Value.int .u8 z = vU8 (UInt8.ofNat z.toNat) := by
  simp only [Lit.wf, Bool.and_eq_true, decide_eq_true_eq] at h
  have h1 : IntKind.u8.min = 0 := rfl
  have h2 : IntKind.u8.max = 255 := rfl
  rw [h1, h2] at h
  simp only [vU8, UInt8.toNat_ofNat']
  congr 1
  omega
theorem str_of (s : ByteArray) : Value.string s = vS s.data.toList := by
  simp [vS]
theorem slOf_cells {α : Type} {ef : α → List Value} {b off len cap : Nat} {l : List α} {V : Nat → Value} (h1 : ∀ x, (ef x).length = 1) (hl : l.length = len) (hlk : ∀ i (hi : i < l.length), ef l[i] = [V i]) (hc : len ≤ cap)
    (hall : ∀ i, i < len → W.cell? (Addr.add ⟨b, off, none⟩ i) = some (V i)) : SlOf (· < W.heap.size) W ef 1 (.slice (some ⟨b, off, none⟩) len cap) l := by
  refine ⟨h1, .inr ⟨b, off, cap, by rw [hl], by omega, fun j u hu => ?_⟩⟩
  have hj : j < l.length := by
    have := (List.getElem?_eq_some_iff.1 hu).1
    rw [List.length_flatMap] at this
    have e : (l.map fun a => (ef a).length) = List.replicate l.length 1 := by
      apply List.ext_getElem
      · simp
      · intro i _ _; simp [h1]
    rw [e] at this
    simpa using this
  have hu' : u = V j := by
    have hx := flatMap_get h1 l j l[j] 0 (V j) (List.getElem?_eq_getElem hj) (by rw [hlk j hj]; rfl)
    rw [Nat.mul_one, Nat.add_zero, hu] at hx
    exact Option.some.inj hx
  have h0 := hall j (by omega)
  rw [Addr.add_mk] at h0
  refine ⟨?_, by rw [hu']; exact h0⟩
  rcases Nat.lt_or_ge b W.heap.size with h | h
  · exact h
  · have : W.heap[b]? = none := by simp [h]
    simp [World.cell?, this] at h0
/-- an argument that is a slice of numbers -/
theorem open_nums {t e : TypeId} {base : Nat} {v : Value} {d : DataW G} {p : List MemPlace} (ht : P.underlying t = some (.slice e)) (he : P.underlying e = some (.int .i64)) (ce : P.cellsOf e = 1)
    (hval : Value.okWide P W .any base t v) (h : DataW.Trod enc P W 0 (fun _ => true) true t v d p) : ∃ l : List Int, SlOf (· < W.heap.size) W eI 1 v l := by
  obtain ⟨a', len', cap', rfl⟩ := okWide_slice ht hval
  obtain ⟨n, hn⟩ := h
  have hok : Cell.ok P W .any base t (.slice a' len' cap') := by
    simpa [Value.okWide, ht, Cell.okWide] using hval
  rcases open_ints ht he ce hn with ⟨hc, _⟩ | ⟨a, len, cap, zs, hc, _, hl, hm, hz, _, hcell, _⟩
  · simp [Value.cells] at hc
    obtain ⟨rfl, rfl, rfl⟩ := hc
    exact ⟨[], ⟨fun _ => rfl, .inl ⟨_, rfl, rfl⟩⟩⟩
  · simp [Value.cells] at hc
    obtain ⟨rfl, rfl, rfl⟩ := hc
    simp only [Cell.ok, ht] at hok
    obtain ⟨b, off, spot⟩ := a
    obtain rfl : spot = none := hok.2.2.2.1
    simp only [if_true] at hz
    refine ⟨zs.take len', slOf_cells (V := fun i => .int .i64 (zs.getD i 0)) (fun _ => rfl) (by rw [List.length_take]; omega) (fun i hi => ?_) hl (fun i hi => hcell i (by omega))⟩
    rw [List.length_take] at hi
    simp only [List.getElem_take]
    rw [getD_lt _ (by omega)]
/-- an argument that is a slice of texts -/
theorem open_texts {t e : TypeId} {base : Nat} {v : Value} {d : DataW G} {p : List MemPlace} (ht : P.underlying t = some (.slice e)) (he : P.underlying e = some .string) (ce : P.cellsOf e = 1)
    (hval : Value.okWide P W .any base t v) (h : DataW.Trod enc P W 0 (fun _ => true) true t v d p) : ∃ l : List (List UInt8), SlOf (· < W.heap.size) W eS 1 v l := by
  obtain ⟨a', len', cap', rfl⟩ := okWide_slice ht hval
  obtain ⟨n, hn⟩ := h
  have hok : Cell.ok P W .any base t (.slice a' len' cap') := by
    simpa [Value.okWide, ht, Cell.okWide] using hval
  rcases open_strings ht he ce hn with ⟨hc, _⟩ | ⟨a, len, cap, ss, hc, _, hl, hm, hz, _, hcell, _⟩
  · simp [Value.cells] at hc
    obtain ⟨rfl, rfl, rfl⟩ := hc
    exact ⟨[], ⟨fun _ => rfl, .inl ⟨_, rfl, rfl⟩⟩⟩
  · simp [Value.cells] at hc
    obtain ⟨rfl, rfl, rfl⟩ := hc
    simp only [Cell.ok, ht] at hok
    obtain ⟨b, off, spot⟩ := a
    obtain rfl : spot = none := hok.2.2.2.1
    simp only [if_true] at hz
    refine ⟨(ss.take len').map fun s => s.data.toList, slOf_cells (V := fun i => .string (ss.getD i ByteArray.empty)) (fun _ => rfl) (by rw [List.length_map, List.length_take]; omega) (fun i hi => ?_) hl (fun i hi => hcell i (by omega))⟩
    rw [List.length_map, List.length_take] at hi
    simp only [List.getElem_map, List.getElem_take]
    rw [getD_lt _ (by omega), str_of]
end
theorem own' : ownKnob Try.prog.godebug = none := by kernel_rfl
theorem laidOut' : laidOutB Try.prog = true := by kernel_rfl
theorem cells9' : Try.prog.cellsOf 9 = 1 := by kernel_rfl
theorem cells3' : Try.prog.cellsOf 3 = 1 := by kernel_rfl
end Go.Proofs.Ytddjneafgddlcaa

/- Closed facts of the loaded program: types and functions, each by the kernel. No condition. -/
namespace Go.Proofs.Ytddjneafgddlcaa
open Go
set_option maxRecDepth 100000
theorem mix : Try.prog.follows .mixedOrders = true := by kernel_rfl
theorem ag35 : agz Try.prog 35 = some 5 := by kernel_rfl
theorem ag41 : agz Try.prog 41 = some 3 := by kernel_rfl
theorem by32 : byt Try.prog 32 = some 4 := by kernel_rfl
theorem by4 : byt Try.prog 4 = some 1 := by kernel_rfl
theorem by5 : byt Try.prog 5 = some 1 := by kernel_rfl
theorem by9 : byt Try.prog 9 = some 16 := by kernel_rfl
theorem cal10 : callable Try.prog 10 = true := by kernel_rfl
theorem cal11 : callable Try.prog 11 = true := by kernel_rfl
theorem cal12 : callable Try.prog 12 = true := by kernel_rfl
theorem cal13 : callable Try.prog 13 = true := by kernel_rfl
theorem cal14 : callable Try.prog 14 = true := by kernel_rfl
theorem cal15 : callable Try.prog 15 = true := by kernel_rfl
theorem cal16 : callable Try.prog 16 = true := by kernel_rfl
theorem cal17 : callable Try.prog 17 = true := by kernel_rfl
theorem cal18 : callable Try.prog 18 = true := by kernel_rfl
theorem cal19 : callable Try.prog 19 = true := by kernel_rfl
theorem cal20 : callable Try.prog 20 = true := by kernel_rfl
theorem cal21 : callable Try.prog 21 = true := by kernel_rfl
theorem cal22 : callable Try.prog 22 = true := by kernel_rfl
theorem cal23 : callable Try.prog 23 = true := by kernel_rfl
theorem cal24 : callable Try.prog 24 = true := by kernel_rfl
theorem cal25 : callable Try.prog 25 = true := by kernel_rfl
theorem cal26 : callable Try.prog 26 = true := by kernel_rfl
theorem cal27 : callable Try.prog 27 = true := by kernel_rfl
theorem cal28 : callable Try.prog 28 = true := by kernel_rfl
theorem cal29 : callable Try.prog 29 = true := by kernel_rfl
theorem cal30 : callable Try.prog 30 = true := by kernel_rfl
theorem cal31 : callable Try.prog 31 = true := by kernel_rfl
theorem cal32 : callable Try.prog 32 = true := by kernel_rfl
theorem cal33 : callable Try.prog 33 = true := by kernel_rfl
theorem cal34 : callable Try.prog 34 = true := by kernel_rfl
theorem cal35 : callable Try.prog 35 = true := by kernel_rfl
theorem cal36 : callable Try.prog 36 = true := by kernel_rfl
theorem cal37 : callable Try.prog 37 = true := by kernel_rfl
theorem cal38 : callable Try.prog 38 = true := by kernel_rfl
theorem cal39 : callable Try.prog 39 = true := by kernel_rfl
theorem cal4 : callable Try.prog 4 = true := by kernel_rfl
theorem cal40 : callable Try.prog 40 = true := by kernel_rfl
theorem cal41 : callable Try.prog 41 = true := by kernel_rfl
theorem cal43 : callable Try.prog 43 = true := by kernel_rfl
theorem cal44 : callable Try.prog 44 = true := by kernel_rfl
theorem cal45 : callable Try.prog 45 = true := by kernel_rfl
theorem cal46 : callable Try.prog 46 = true := by kernel_rfl
theorem cal47 : callable Try.prog 47 = true := by kernel_rfl
theorem cal48 : callable Try.prog 48 = true := by kernel_rfl
theorem cal49 : callable Try.prog 49 = true := by kernel_rfl
theorem cal5 : callable Try.prog 5 = true := by kernel_rfl
theorem cal50 : callable Try.prog 50 = true := by kernel_rfl
theorem cal52 : callable Try.prog 52 = true := by kernel_rfl
theorem cal54 : callable Try.prog 54 = true := by kernel_rfl
theorem cal55 : callable Try.prog 55 = true := by kernel_rfl
theorem cal56 : callable Try.prog 56 = true := by kernel_rfl
theorem cal57 : callable Try.prog 57 = true := by kernel_rfl
theorem cal6 : callable Try.prog 6 = true := by kernel_rfl
theorem cal60 : callable Try.prog 60 = true := by kernel_rfl
theorem cal61 : callable Try.prog 61 = true := by kernel_rfl
theorem cal62 : callable Try.prog 62 = true := by kernel_rfl
theorem cal63 : callable Try.prog 63 = true := by kernel_rfl
theorem cal64 : callable Try.prog 64 = true := by kernel_rfl
theorem cal65 : callable Try.prog 65 = true := by kernel_rfl
theorem cal66 : callable Try.prog 66 = true := by kernel_rfl
theorem cal67 : callable Try.prog 67 = true := by kernel_rfl
theorem cal68 : callable Try.prog 68 = true := by kernel_rfl
theorem cal7 : callable Try.prog 7 = true := by kernel_rfl
theorem cal70 : callable Try.prog 70 = true := by kernel_rfl
theorem cal71 : callable Try.prog 71 = true := by kernel_rfl
theorem cal72 : callable Try.prog 72 = true := by kernel_rfl
theorem cal73 : callable Try.prog 73 = true := by kernel_rfl
theorem cal74 : callable Try.prog 74 = true := by kernel_rfl
theorem cal75 : callable Try.prog 75 = true := by kernel_rfl
theorem cal76 : callable Try.prog 76 = true := by kernel_rfl
theorem cal77 : callable Try.prog 77 = true := by kernel_rfl
theorem cal8 : callable Try.prog 8 = true := by kernel_rfl
theorem cal9 : callable Try.prog 9 = true := by kernel_rfl
theorem ce5 : Try.prog.cellsOf 5 = 1 := by kernel_rfl
theorem fl41 : flt Try.prog 41 = some [(0, .int .u64), (1, .string), (2, .int .u32)] := by kernel_rfl
theorem fo35_0 : fo Try.prog 35 0 = some 0 := by kernel_rfl
theorem fo35_1 : fo Try.prog 35 1 = some 1 := by kernel_rfl
theorem fo35_2 : fo Try.prog 35 2 = some 2 := by kernel_rfl
theorem fo35_3 : fo Try.prog 35 3 = some 3 := by kernel_rfl
theorem fo35_4 : fo Try.prog 35 4 = some 4 := by kernel_rfl
theorem fo41_0 : fo Try.prog 41 0 = some 0 := by kernel_rfl
theorem fo41_1 : fo Try.prog 41 1 = some 1 := by kernel_rfl
theorem fo41_2 : fo Try.prog 41 2 = some 2 := by kernel_rfl
theorem fo45_0 : fo Try.prog 45 0 = some 0 := by kernel_rfl
theorem fo45_1 : fo Try.prog 45 1 = some 1 := by kernel_rfl
theorem fo45_2 : fo Try.prog 45 2 = some 2 := by kernel_rfl
theorem fo45_3 : fo Try.prog 45 3 = some 3 := by kernel_rfl
theorem fo45_4 : fo Try.prog 45 4 = some 6 := by kernel_rfl
theorem fo45_5 : fo Try.prog 45 5 = some 7 := by kernel_rfl
theorem fo58_0 : fo Try.prog 58 0 = some 0 := by kernel_rfl
theorem fo58_1 : fo Try.prog 58 1 = some 1 := by kernel_rfl
theorem fo58_2 : fo Try.prog 58 2 = some 2 := by kernel_rfl
theorem fo58_3 : fo Try.prog 58 3 = some 3 := by kernel_rfl
theorem fo60_0 : fo Try.prog 60 0 = some 0 := by kernel_rfl
theorem fo60_1 : fo Try.prog 60 1 = some 4 := by kernel_rfl
theorem fo60_2 : fo Try.prog 60 2 = some 5 := by kernel_rfl
theorem fo60_3 : fo Try.prog 60 3 = some 6 := by kernel_rfl
theorem fo60_4 : fo Try.prog 60 4 = some 7 := by kernel_rfl
theorem fo81_0 : fo Try.prog 81 0 = some 0 := by kernel_rfl
theorem fo81_1 : fo Try.prog 81 1 = some 1 := by kernel_rfl
theorem li81 : liesAt Try.prog Try.prog.depth 81 (2 / Try.prog.cellsOf 81) 0 81 1 = true := by kernel_rfl
theorem pk41 : plk Try.prog 41 = true := by kernel_rfl
theorem pk45 : plk Try.prog 45 = true := by kernel_rfl
theorem pk58 : plk Try.prog 58 = true := by kernel_rfl
theorem pk60 : plk Try.prog 60 = true := by kernel_rfl
theorem pl41 : plc Try.prog 41 = some [(0, 1), (1, 1), (2, 1)] := by kernel_rfl
theorem pl45 : plc Try.prog 45 = some [(0, 1), (1, 1), (2, 1), (3, 3), (6, 1), (7, 1)] := by kernel_rfl
theorem pl58 : plc Try.prog 58 = some [(0, 1), (1, 1), (2, 1), (3, 1)] := by kernel_rfl
theorem pl60 : plc Try.prog 60 = some [(0, 4), (4, 1), (5, 1), (6, 1), (7, 3)] := by kernel_rfl
theorem sc113 : scl Try.prog 113 = true := by kernel_rfl
theorem sc24 : scl Try.prog 24 = true := by kernel_rfl
theorem sc3 : scl Try.prog 3 = true := by kernel_rfl
theorem sc32 : scl Try.prog 32 = true := by kernel_rfl
theorem sc33 : scl Try.prog 33 = true := by kernel_rfl
theorem sc37 : scl Try.prog 37 = true := by kernel_rfl
theorem sc39 : scl Try.prog 39 = true := by kernel_rfl
theorem sc4 : scl Try.prog 4 = true := by kernel_rfl
theorem sc43 : scl Try.prog 43 = true := by kernel_rfl
theorem sc55 : scl Try.prog 55 = true := by kernel_rfl
theorem sc56 : scl Try.prog 56 = true := by kernel_rfl
theorem sc78 : scl Try.prog 78 = true := by kernel_rfl
theorem sc79 : scl Try.prog 79 = true := by kernel_rfl
theorem sc9 : scl Try.prog 9 = true := by kernel_rfl
theorem sz113 : tsz Try.prog 113 = some 1 := by kernel_rfl
theorem sz3 : tsz Try.prog 3 = some 1 := by kernel_rfl
theorem sz32 : tsz Try.prog 32 = some 1 := by kernel_rfl
theorem sz35 : tsz Try.prog 35 = some 5 := by kernel_rfl
theorem sz37 : tsz Try.prog 37 = some 1 := by kernel_rfl
theorem sz39 : tsz Try.prog 39 = some 1 := by kernel_rfl
theorem sz4 : tsz Try.prog 4 = some 1 := by kernel_rfl
theorem sz41 : tsz Try.prog 41 = some 3 := by kernel_rfl
theorem sz43 : tsz Try.prog 43 = some 1 := by kernel_rfl
theorem sz5 : tsz Try.prog 5 = some 1 := by kernel_rfl
theorem sz58 : tsz Try.prog 58 = some 4 := by kernel_rfl
theorem sz78 : tsz Try.prog 78 = some 1 := by kernel_rfl
theorem sz79 : tsz Try.prog 79 = some 1 := by kernel_rfl
theorem sz81 : tsz Try.prog 81 = some 2 := by kernel_rfl
theorem sz9 : tsz Try.prog 9 = some 1 := by kernel_rfl
theorem ty113 : Try.prog.underlying 113 = some (.int .u64) := by kernel_rfl
theorem ty2 : Try.prog.underlying 2 = some (.int .i64) := by kernel_rfl
theorem ty22 : Try.prog.underlying 22 = some (.slice 35) := by kernel_rfl
theorem ty24 : Try.prog.underlying 24 = some (.pointer 60) := by kernel_rfl
theorem ty3 : Try.prog.underlying 3 = some (.int .i64) := by kernel_rfl
theorem ty32 : Try.prog.underlying 32 = some (.int .u32) := by kernel_rfl
theorem ty33 : Try.prog.underlying 33 = some (.slice 3) := by kernel_rfl
theorem ty37 : Try.prog.underlying 37 = some (.slice 9) := by kernel_rfl
theorem ty39 : Try.prog.underlying 39 = some (.int .u64) := by kernel_rfl
theorem ty43 : Try.prog.underlying 43 = some (.slice 4) := by kernel_rfl
theorem ty5 : Try.prog.underlying 5 = some (.int .u8) := by kernel_rfl
theorem ty55 : Try.prog.underlying 55 = some (.map 32 9) := by kernel_rfl
theorem ty56 : Try.prog.underlying 56 = some (.map 32 4) := by kernel_rfl
theorem ty64 : Try.prog.underlying 64 = some (.int .u64) := by kernel_rfl
theorem ty78 : Try.prog.underlying 78 = some (.pointer 81) := by kernel_rfl
theorem ty79 : Try.prog.underlying 79 = some (.slice 5) := by kernel_rfl
theorem ty9 : Try.prog.underlying 9 = some (.string) := by kernel_rfl
theorem ty90 : Try.prog.underlying 90 = some (.slice 32) := by kernel_rfl
theorem ty96 : Try.prog.underlying 96 = some (.pointer 5) := by kernel_rfl
theorem ty99 : Try.prog.underlying 99 = some (.unsafePointer) := by kernel_rfl
theorem ze113 : zer Try.prog 113 = some (.int .u64 0) := by kernel_rfl
theorem ze3 : zer Try.prog 3 = some (.int .i64 0) := by kernel_rfl
theorem ze32 : zer Try.prog 32 = some (.int .u32 0) := by kernel_rfl
theorem ze4 : zer Try.prog 4 = some (.bool false) := by kernel_rfl
theorem ze41 : zer Try.prog 41 = some (.agg #[.int .u64 0, .string ⟨⟨[]⟩⟩, .int .u32 0]) := by kernel_rfl
theorem ze45 : zer Try.prog 45 = some (.agg #[.slice none 0 0, .slice none 0 0, .slice none 0 0, .int .u64 0, .string ⟨⟨[]⟩⟩, .int .u32 0, .int .i64 0, .bool false]) := by kernel_rfl
theorem ze5 : zer Try.prog 5 = some (.int .u8 0) := by kernel_rfl
theorem ze58 : zer Try.prog 58 = some (.agg #[.bool false, .bool false, .int .i64 0, .int .i64 0]) := by kernel_rfl
theorem ze60 : zer Try.prog 60 = some (.agg #[.bool false, .bool false, .int .i64 0, .int .i64 0, .slice none 0 0, .map none, .map none, .int .u64 0, .string ⟨⟨[]⟩⟩, .int .u32 0]) := by kernel_rfl
theorem ze81 : zer Try.prog 81 = some (.agg #[.pointer none, .slice none 0 0]) := by kernel_rfl
theorem ze9 : zer Try.prog 9 = some (.string ⟨⟨[]⟩⟩) := by kernel_rfl
end Go.Proofs.Ytddjneafgddlcaa

/- From a row's condition to a contract's: slices of operations. No condition beyond those stated. -/
namespace Go.Proofs.Ytddjneafgddlcaa
open Go Go.ChangeShapes Go.WideShapes Go.ChangeAt Go.RowKit Go.Deep

theorem flatMap_at {α : Type} {enc : α → List Value} {sz : Nat} (hl : ∀ x, (enc x).length = sz) : ∀ (l : List α) {j : Nat} {u : Value}, (l.flatMap enc)[j]? = some u → ∃ i r x, l[i]? = some x ∧ (enc x)[r]? = some u ∧ j = i * sz + r
  | [], j, u, h => by simp at h
  | x :: l, j, u, h => by
    rw [List.flatMap_cons] at h
    by_cases hj : j < (enc x).length
    · rw [List.getElem?_append_left hj] at h
      exact ⟨0, j, x, rfl, h, by simp⟩
    · rw [List.getElem?_append_right (by omega)] at h
      obtain ⟨i, r, y, h1, h2, h3⟩ := flatMap_at hl l h
      refine ⟨i + 1, r, y, by simpa using h1, h2, ?_⟩
      rw [hl x] at h3 hj
      rw [Nat.add_mul]
      omega
theorem choose_list {α : Type} {n : Nat} {Q : Nat → α → Prop} (h : ∀ i, i < n → ∃ x, Q i x) : ∃ l : List α, l.length = n ∧ ∀ i x, l[i]? = some x → Q i x := by
  induction n with
  | zero => exact ⟨[], rfl, fun i x hi => by simp at hi⟩
  | succ n ih =>
    obtain ⟨l, hl, hk⟩ := ih fun i hi => h i (by omega)
    obtain ⟨k, hk'⟩ := h n (by omega)
    refine ⟨l ++ [k], by simp [hl], fun i x hi => ?_⟩
    rcases Nat.lt_or_ge i l.length with h1 | h1
    · rw [List.getElem?_append_left h1] at hi; exact hk i x hi
    · rw [List.getElem?_append_right h1] at hi
      have h2 : i - l.length = 0 := by
        have := (List.getElem?_eq_some_iff.1 hi).1
        simpa using this
      rw [h2] at hi
      obtain rfl : k = x := by simpa using hi
      have : i = n := by omega
      rw [this]; exact hk'
theorem spot_none {w : World} {a : Addr} {v : Value} (h : w.cell? a = some v) : a.spot = none := by
  unfold World.cell? at h
  split at h
  · split at h
    · cases h
    · simpa using ‹¬ a.spot.isSome = true›
  · cases h
theorem block_lt {w : World} {a : Addr} {v : Value} (h : w.cell? a = some v) : a.block < w.heap.size := by
  rcases Nat.lt_or_ge a.block w.heap.size with h1 | h1
  · exact h1
  · have : w.heap[a.block]? = none := by simp [h1]
    simp [World.cell?, this] at h
section
variable {G : Type} {enc : TypeId × Value → G} {P : Program} {W : World}
/-- a slice of numbers, wherever it lies -/
theorem nums_of {t e : TypeId} {n : Nat} {v : Value} {y : DataW G × List MemPlace} (ht : P.underlying t = some (.slice e)) (he : P.underlying e = some (.int .i64)) (ce : P.cellsOf e = 1)
    (h : DataW.trod enc P W 0 (fun _ => true) true n t [v] = some y) : ∃ l : List Int, SlOf (· < W.heap.size) W eI 1 v l := by
  rcases open_ints ht he ce h with ⟨hc, _⟩ | ⟨a, len, cap, zs, hc, _, hl, hm, hz, _, hcell, _⟩
  · simp at hc
    subst hc
    exact ⟨[], ⟨fun _ => rfl, .inl ⟨_, rfl, rfl⟩⟩⟩
  · simp at hc
    subst hc
    simp only [if_true] at hz
    rcases Nat.eq_zero_or_pos cap with h0 | h0
    · obtain rfl : len = 0 := by omega
      subst h0
      exact ⟨[], ⟨fun _ => rfl, .inl ⟨_, rfl, rfl⟩⟩⟩
    · obtain ⟨b, off, spot⟩ := a
      obtain rfl : spot = none := by
        have := spot_none (hcell 0 (by omega))
        simpa [Addr.add] using this
      refine ⟨zs.take len, slOf_cells (V := fun i => .int .i64 (zs.getD i 0)) (fun _ => rfl) (by rw [List.length_take]; omega) (fun i hi => ?_) hl (fun i hi => hcell i (by omega))⟩
      rw [List.length_take] at hi
      simp only [List.getElem_take]
      rw [getD_lt _ (by omega)]
/-- an argument that is a slice of operations -/
theorem open_opsG {t e : TypeId} {f0 f1 f2 f3 f4 : Field} {ti : TypeId} {base : Nat} {v : Value} {d : DataW G} {p : List MemPlace} (ht : P.underlying t = some (.slice e)) (he : P.underlying e = some (.struct #[f0, f1, f2, f3, f4]))
    (ce : P.cellsOf e = 5) (o0 : f0.offset = 0) (o1 : f1.offset = 1) (o2 : f2.offset = 2) (o3 : f3.offset = 3) (o4 : f4.offset = 4)
    (c0 : P.cellsOf f0.type = 1) (c1 : P.cellsOf f1.type = 1) (c2 : P.cellsOf f2.type = 1) (c3 : P.cellsOf f3.type = 1) (c4 : P.cellsOf f4.type = 1)
    (u0 : P.underlying f0.type = some (.int .i64)) (u1 : P.underlying f1.type = some (.int .u32)) (u2 : P.underlying f2.type = some (.int .i64)) (u3 : P.underlying f3.type = some .string) (u4 : P.underlying f4.type = some (.slice ti))
    (ui : P.underlying ti = some (.int .i64)) (ci : P.cellsOf ti = 1)
    (hval : Value.okWide P W .any base t v) (h : DataW.Trod enc P W 0 (fun _ => true) true t v d p) : ∃ l : List OpA, SlOf (· < W.heap.size) W encOp 5 v l ∧ ∀ x ∈ l, SlOf (· < W.heap.size) W eI 1 x.lv x.fates ∧ (Lit.int .i64 x.num).wf = true := by
  obtain ⟨a', len', cap', rfl⟩ := okWide_slice ht hval
  obtain ⟨n, hn⟩ := h
  have hok : Cell.ok P W .any base t (.slice a' len' cap') := by
    simpa [Value.okWide, ht, Cell.okWide] using hval
  rcases open_slice ht hn with ⟨hc, _⟩ | ⟨a, len, cap, m, k, D, Pl, hc, _, hl, hm, hmm, _, hx⟩
  · simp [Value.cells] at hc
    obtain ⟨rfl, rfl, rfl⟩ := hc
    exact ⟨[], ⟨fun _ => rfl, .inl ⟨_, rfl, rfl⟩⟩, fun x hx => by cases hx⟩
  · simp [Value.cells] at hc
    obtain ⟨rfl, rfl, rfl⟩ := hc
    simp only [Cell.ok, ht] at hok
    obtain ⟨b, off, spot⟩ := a
    obtain rfl : spot = none := hok.2.2.2.1
    simp only [if_true] at hmm
    subst hmm
    obtain ⟨l, hll, hlk⟩ := choose_list (n := len') (Q := fun i (x : OpA) => (∀ r u, (encOp x)[r]? = some u → b < W.heap.size ∧ W.cell? ⟨b, off + (i * 5 + r), none⟩ = some u) ∧ SlOf (· < W.heap.size) W eI 1 x.lv x.fates ∧ (Lit.int .i64 x.num).wf = true) fun i hi => by
      obtain ⟨cs', h1, h2⟩ := hx i (by omega)
      rw [ce] at h1
      obtain ⟨_, hlen, hcell⟩ := World.cells?_some h1
      obtain ⟨xs, k', _, _, _, hxl, hf⟩ := DataW.trod_struct he h2
      match xs, hxl, cs', hlen with
      | [y0, y1, y2, y3, y4], _, [w0, w1, w2, w3, w4], _ =>
        have g0 := hf 0 f0 rfl
        have g1 := hf 1 f1 rfl
        have g2 := hf 2 f2 rfl
        have g3 := hf 3 f3 rfl
        have g4 := hf 4 f4 rfl
        simp [o0, o1, o2, o3, o4, c0, c1, c2, c3, c4] at g0 g1 g2 g3 g4
        obtain ⟨z0, e0, _, _⟩ := DataW.trod_int u0 g0
        obtain ⟨z1, e1, _, wf1⟩ := DataW.trod_int u1 g1
        obtain ⟨z2, e2, _, wf2⟩ := DataW.trod_int u2 g2
        obtain ⟨s3, e3, _, _⟩ := DataW.trod_string u3 g3
        obtain ⟨l4, h4⟩ := nums_of u4 ui ci g4
        simp only [List.cons.injEq, and_true] at e0 e1 e2 e3
        refine ⟨⟨z0, UInt32.ofNat z1.toNat, z2, s3.data.toList, w4, l4⟩, fun r u hu => ?_, h4, wf2⟩
        have he : encOp ⟨z0, UInt32.ofNat z1.toNat, z2, s3.data.toList, w4, l4⟩ = [w0, w1, w2, w3, w4] := by
          rw [encOp, e0, e1, e2, e3, u32_of wf1, str_of]
        rw [he] at hu
        have hr : r < 5 := by have := (List.getElem?_eq_some_iff.1 hu).1; simpa using this
        have hc := hcell r hr
        have ha : ((⟨b, off, none⟩ : Addr).add (i * 5)).add r = ⟨b, off + (i * 5 + r), none⟩ := by simp [Addr.add_mk, Nat.add_assoc]
        have hv : W.cell? ⟨b, off + (i * 5 + r), none⟩ = some u := by
          rw [← ha, ← hu, ← hc]
        exact ⟨block_lt hv, hv⟩
    refine ⟨l, ⟨fun _ => rfl, .inr ⟨b, off, m, by rw [hll], by omega, fun j u hu => ?_⟩⟩, fun x hx => ?_⟩
    · obtain ⟨i, r, x, h1, h2, rfl⟩ := flatMap_at (enc := encOp) (sz := 5) (fun _ => rfl) l hu
      exact (hlk i x h1).1 r u h2
    · obtain ⟨i, hi, rfl⟩ := List.getElem_of_mem hx
      exact (hlk i l[i] (List.getElem?_eq_getElem hi)).2
end
set_option maxRecDepth 100000 in
theorem open_opsW {G : Type} {enc : TypeId × Value → G} {W : World} {base : Nat} {v : Value} {d : DataW G} {p : List MemPlace} (hval : Value.okWide Try.prog W .any base 22 v) (h : DataW.Trod enc Try.prog W 0 (fun _ => true) true 22 v d p) :
    ∃ l : List OpA, SlOf (· < W.heap.size) W encOp 5 v l ∧ ∀ x ∈ l, SlOf (· < W.heap.size) W eI 1 x.lv x.fates ∧ (Lit.int .i64 x.num).wf = true :=
  open_opsG ty22 Try.underlying35 (by kernel_rfl) rfl rfl rfl rfl rfl (by kernel_rfl) (by kernel_rfl) (by kernel_rfl) (by kernel_rfl) (by kernel_rfl) (by kernel_rfl) (by kernel_rfl) (by kernel_rfl) (by kernel_rfl) (by kernel_rfl) ty3 cells3' hval h
set_option maxRecDepth 100000 in
theorem open_ops {G : Type} {enc : TypeId × Value → G} {W : World} {base : Nat} {v : Value} {d : DataW G} {p : List MemPlace} (hval : Value.okWide Try.prog W .any base 22 v) (h : DataW.Trod enc Try.prog W 0 (fun _ => true) true 22 v d p) :
    ∃ l : List OpA, SlOf (· < W.heap.size) W encOp 5 v l ∧ ∀ x ∈ l, SlOf (· < W.heap.size) W eI 1 x.lv x.fates := by
  obtain ⟨l, h1, h2⟩ := open_opsW hval h
  exact ⟨l, h1, fun x hx => (h2 x hx).1⟩
theorem i64_wf {z : Int} (h : (Lit.int .i64 z).wf = true) : -9223372036854775808 ≤ z ∧ z ≤ 9223372036854775807 := by
  simp only [Lit.wf, Bool.and_eq_true, decide_eq_true_eq] at h
  have h1 : IntKind.i64.min = -9223372036854775808 := rfl
  have h2 : IntKind.i64.max = 9223372036854775807 := rfl
  rw [h1, h2] at h
  exact h
end Go.Proofs.Ytddjneafgddlcaa

/- Walks of strings.Builder's methods: what is written is held, String hands it back. Condition: the bytes number at most 2^47. -/
namespace Go.Proofs.Ytddjneafgddlcaa
open Go
variable {K : Nat → Prop} {w0 : World} {H : List Chunk}

def lies (e : TypeId) : Prop := liesAt Try.prog Try.prog.depth e (2 / Try.prog.cellsOf e) 0 81 1 = true
theorem nesc (v : Value) (w : World) : (callFunc 58 [v].toArray).run Try.prog w = .ok (.value v) w := by
  rw [run_callFunc_extern (e := Extern.AbiNoEscape.same) Try.func58 (by kernel_rfl) (by kernel_rfl) (by kernel_rfl) (by kernel_rfl)]
  rfl

theorem c_copyCheck0 (e : TypeId) (b : Nat) (v : Value) (hl : lies e) : Con Try.prog K w0 54 [vP b 0] [own b (.cells #[.pointer none, v] e)] H (fun r M => r = .tuple #[] ∧ M = [own b (.cells #[vP b 0, v] e)]) := by
  refine Con.enter Try.func54 rfl rfl ?_
  refine SX.sr ?_
  refine SL.mv ⟨rfl, rfl, rfl, rfl⟩ rfl ?_
  refine SL.nchk ⟨rfl, rfl, rfl, rfl⟩ rfl ?_
  refine SL.fa ⟨rfl, rfl, rfl, rfl⟩ rfl fo81_0 ?_
  refine SL.ld ⟨rfl, rfl, rfl, rfl⟩ sc78 rfl (cell_own 0 rfl rfl) ?_
  refine SL.eqPN ⟨rfl, rfl, rfl, rfl⟩ ty78 rfl rfl ?_
  refine SL.nx ?_
  refine SX.condT rfl ?_
  refine SX.region ?_
  refine SL.mv ⟨rfl, rfl, rfl, rfl⟩ rfl ?_
  refine SL.mv ⟨rfl, rfl, rfl, rfl⟩ rfl ?_
  refine SL.toU 0 ⟨rfl, rfl, rfl, rfl⟩ ty78 ty99 sz81 rfl rfl rfl rfl ?_
  refine SL.extv ⟨rfl, rfl, rfl, rfl⟩ (vs := [_]) ⟨rfl, trivial⟩ (nesc _) ?_
  refine SL.frU 0 ⟨rfl, rfl, rfl, rfl⟩ ty99 ty78 sz81 rfl rfl hl ?_
  refine SL.nchk ⟨rfl, rfl, rfl, rfl⟩ rfl ?_
  refine SL.fa ⟨rfl, rfl, rfl, rfl⟩ rfl fo81_0 ?_
  refine SL.st 0 ⟨rfl, rfl, rfl⟩ rfl rfl rfl sz78 rfl rfl rfl trivial ?_
  refine SL.nil ?_
  exact SQ.fend (res0 rfl) (ret_of (M := [_]) ⟨rfl, rfl⟩ fun _ h => h)

theorem c_copyCheck1 (e : TypeId) (b : Nat) (v : Value) : Con Try.prog K w0 54 [vP b 0] [own b (.cells #[vP b 0, v] e)] H (fun r M => r = .tuple #[] ∧ M = [own b (.cells #[vP b 0, v] e)]) := by
  refine Con.enter Try.func54 rfl rfl ?_
  refine SX.sr ?_
  refine SL.mv ⟨rfl, rfl, rfl, rfl⟩ rfl ?_
  refine SL.nchk ⟨rfl, rfl, rfl, rfl⟩ rfl ?_
  refine SL.fa ⟨rfl, rfl, rfl, rfl⟩ rfl fo81_0 ?_
  refine SL.ld ⟨rfl, rfl, rfl, rfl⟩ sc78 rfl (cell_own 0 rfl rfl) ?_
  refine SL.eqPN ⟨rfl, rfl, rfl, rfl⟩ ty78 rfl rfl ?_
  refine SL.nx ?_
  refine SX.condF rfl ?_
  refine SX.sr ?_
  refine SL.mv ⟨rfl, rfl, rfl, rfl⟩ rfl ?_
  refine SL.nchk ⟨rfl, rfl, rfl, rfl⟩ rfl ?_
  refine SL.fa ⟨rfl, rfl, rfl, rfl⟩ rfl fo81_0 ?_
  refine SL.ld ⟨rfl, rfl, rfl, rfl⟩ sc78 rfl (cell_own 0 rfl rfl) ?_
  refine SL.mv ⟨rfl, rfl, rfl, rfl⟩ rfl ?_
  refine SL.nePP ⟨rfl, rfl, rfl, rfl⟩ ty78 sz81 rfl rfl ?_
  refine SL.nx ?_
  refine SX.condF rfl ?_
  refine SX.skip ?_
  exact SQ.fend (res0 rfl) (ret_of (M := [_]) ⟨rfl, rfl⟩ fun _ h => h)

/-- the builder's first field: nil, or its own address -/
def adr (b : Nat) (p : Value) : Prop := p = .pointer none ∨ p = vP b 0
theorem c_copyCheck (e : TypeId) (b : Nat) (p v : Value) (hp : adr b p) (hl : lies e) : Con Try.prog K w0 54 [vP b 0] [own b (.cells #[p, v] e)] H (fun r M => r = .tuple #[] ∧ M = [own b (.cells #[vP b 0, v] e)]) := by
  rcases hp with rfl | rfl
  · exact c_copyCheck0 e b v hl
  · exact c_copyCheck1 e b v

theorem c_WriteString (e : TypeId) (b : Nat) (p v : Value) (n : Nat) (xs : List Value) (s : List UInt8) (hp : adr b p) (hl : lies e) (hn : n + s.length ≤ 140737488355328) :
    Con Try.prog K w0 44 [vP b 0, vS s] [own b (.cells #[p, v] e), rowC 5 1 v n xs] H
      (fun r M => r = .tuple #[vI s.length, .nilIface] ∧ ∃ v', M = [own b (.cells #[vP b 0, v'] e), rowC 5 1 v' (n + s.length) (xs ++ s.map fun b => vU8 b)]) := by
  refine Con.enter Try.func44 rfl rfl ?_
  refine SX.sr ?_
  refine SL.asg ⟨rfl, rfl, rfl, rfl⟩ rfl ?_
  refine SL.asg ⟨rfl, rfl, rfl, rfl⟩ rfl ?_
  refine SL.nx ?_
  refine SX.sr ?_
  refine SL.mv ⟨rfl, rfl, rfl, rfl⟩ rfl ?_
  refine SL.call (vs := [_]) (Hin := [_]) ⟨rfl, rfl, rfl, rfl⟩ rfl ⟨rfl, trivial⟩ cal54 rfl rfl (c_copyCheck e b p v hp hl) ?_
  rintro _ _ ⟨rfl, rfl⟩
  refine ⟨trivial, ?_⟩
  refine SL.nx ?_
  refine SX.sr ?_
  refine SL.mv ⟨rfl, rfl, rfl, rfl⟩ rfl ?_
  refine SL.mv ⟨rfl, rfl, rfl, rfl⟩ rfl ?_
  refine SL.nchk ⟨rfl, rfl, rfl, rfl⟩ rfl ?_
  refine SL.fa ⟨rfl, rfl, rfl, rfl⟩ rfl fo81_1 ?_
  refine SL.ld ⟨rfl, rfl, rfl, rfl⟩ sc79 rfl (cell_own 0 rfl rfl) ?_
  refine SL.mv ⟨rfl, rfl, rfl, rfl⟩ rfl ?_
  refine SL.appS 1 ⟨rfl, rfl, rfl, rfl⟩ ty79 ty9 sz5 by5 ze5 rfl rfl rfl hn (fun _ => trivial) fun v' => ?_
  refine SL.nchk ⟨rfl, rfl, rfl, rfl⟩ rfl ?_
  refine SL.fa ⟨rfl, rfl, rfl, rfl⟩ rfl fo81_1 ?_
  refine SL.fact (fun w hw => row_shape (hw.holds _ (List.mem_append_left _ (List.mem_of_getElem? (i := 1) rfl)))) fun hsh => ?_
  have hc1 : v'.cells = #[v'] := by rcases hsh with ⟨rfl, _⟩ | ⟨g, cap, rfl, _⟩ <;> rfl
  have ho1 : v'.oneCell' = true := by rcases hsh with ⟨rfl, _⟩ | ⟨g, cap, rfl, _⟩ <;> rfl
  refine SL.st 0 ⟨rfl, rfl, rfl⟩ rfl rfl rfl sz79 (by rw [hc1]; rfl) (by rw [hc1]; simp [ho1]) rfl trivial ?_
  rw [hc1]
  refine SL.nx ?_
  refine SX.sr ?_
  refine SL.mv ⟨rfl, rfl, rfl, rfl⟩ rfl ?_
  refine SL.lenS ⟨rfl, rfl, rfl, rfl⟩ ty9 rfl ?_
  refine SL.asg ⟨rfl, rfl, rfl, rfl⟩ rfl ?_
  refine SL.asg ⟨rfl, rfl, rfl, rfl⟩ rfl ?_
  refine SL.nx ?_
  refine SX.ret ?_
  exact SQ.fret (res2 rfl rfl rfl) (ret_of (M := [_, _]) ⟨rfl, v', rfl⟩ fun _ h => h)

theorem c_Len (e : TypeId) (b : Nat) (p v : Value) (n : Nat) (xs : List Value) :
    Con Try.prog K w0 45 [vP b 0] [own b (.cells #[p, v] e), rowC 5 1 v n xs] H
      (fun r M => r = vI n ∧ M = [own b (.cells #[p, v] e), rowC 5 1 v n xs]) := by
  refine Con.enter Try.func45 rfl rfl ?_
  refine SX.sr ?_
  refine SL.asg ⟨rfl, rfl, rfl, rfl⟩ rfl ?_
  refine SL.nx ?_
  refine SX.sr ?_
  refine SL.mv ⟨rfl, rfl, rfl, rfl⟩ rfl ?_
  refine SL.nchk ⟨rfl, rfl, rfl, rfl⟩ rfl ?_
  refine SL.fa ⟨rfl, rfl, rfl, rfl⟩ rfl fo81_1 ?_
  refine SL.ld ⟨rfl, rfl, rfl, rfl⟩ sc79 rfl (cell_own 0 rfl rfl) ?_
  refine SL.lenR 1 ⟨rfl, rfl, rfl, rfl⟩ ty79 rfl rfl ?_
  refine SL.asg ⟨rfl, rfl, rfl, rfl⟩ rfl ?_
  refine SL.nx ?_
  refine SX.ret ?_
  exact SQ.fret (res1 rfl rfl) (ret_of (M := [_, _]) ⟨rfl, rfl⟩ fun _ h => h)

theorem c_String (e : TypeId) (b : Nat) (p v : Value) (n : Nat) (s : List UInt8) (hn : n ≤ 140737488355328) :
    Con Try.prog K w0 46 [vP b 0] [own b (.cells #[p, v] e), rowC 5 1 v n (s.map fun b => vU8 b)] H
      (fun r M => r = vS s ∧ M = [own b (.cells #[p, v] e), rowC 5 1 v n (s.map fun b => vU8 b)]) := by
  refine Con.enter Try.func46 rfl rfl ?_
  refine SX.sr ?_
  refine SL.asg ⟨rfl, rfl, rfl, rfl⟩ rfl ?_
  refine SL.nx ?_
  refine SX.seq ?_
  refine SX.drawI mix [0, 1] (Pl.of [(true, 0), (true, 1), (true, 2), (true, 3), (true, 5), (true, 6), (true, 7), (true, 8), (true, 9), (false, 4), (false, 10), (true, 11)]) (by kernel_rfl) ?_
  refine SL.mv ⟨rfl, rfl, rfl, rfl⟩ rfl ?_
  refine SL.nchk ⟨rfl, rfl, rfl, rfl⟩ rfl ?_
  refine SL.fa ⟨rfl, rfl, rfl, rfl⟩ rfl fo81_1 ?_
  refine SL.ld ⟨rfl, rfl, rfl, rfl⟩ sc79 rfl (cell_own 0 rfl rfl) ?_
  refine SL.mv ⟨rfl, rfl, rfl, rfl⟩ rfl ?_
  refine SL.nchk ⟨rfl, rfl, rfl, rfl⟩ rfl ?_
  refine SL.fa ⟨rfl, rfl, rfl, rfl⟩ rfl fo81_1 ?_
  refine SL.ld ⟨rfl, rfl, rfl, rfl⟩ sc79 rfl (cell_own 0 rfl rfl) ?_
  refine SL.lenR 1 ⟨rfl, rfl, rfl, rfl⟩ ty79 rfl rfl ?_
  refine SL.usdR 1 ⟨rfl, rfl, rfl, rfl⟩ ty96 rfl rfl ⟨⟨0, rfl⟩, ⟨1, rfl⟩, trivial⟩ fun q hq => ?_
  refine SL.ustR 1 ⟨rfl, rfl, rfl, rfl⟩ ty96 ce5 rfl rfl hq rfl (by omega) ⟨⟨0, rfl⟩, ⟨1, rfl⟩, trivial⟩ ?_
  refine SL.asg ⟨rfl, rfl, rfl, rfl⟩ rfl ?_
  refine SL.nx ?_
  refine SX.ret ?_
  exact SQ.fret (res1 rfl rfl) (ret_of (M := [_, _]) ⟨rfl, rfl⟩ fun _ h => h)
end Go.Proofs.Ytddjneafgddlcaa

/- Walks of strings.Repeat at the text of one zero byte, and of what it calls. Condition: at most 8192 times. -/
namespace Go.Proofs.Ytddjneafgddlcaa
open Go
variable {K : Nat → Prop} {w0 : World} {H : List Chunk}

theorem shr64_small {y : UInt64} (h : y.toNat < 4294967296) : shr64 y 32 = 0 := by
  apply UInt64.toNat_inj.1
  have h1 : y.toNat / 4294967296 = 0 := Nat.div_eq_of_lt h
  simp [shr64, h1]
theorem big63 (n : Nat) (h : n < 9223372036854775808) : decide ((9223372036854775807 : UInt64) < toU64 n) = false := by
  rw [decide_eq_false_iff_not, UInt64.lt_iff_toNat_lt]
  have h1 : (9223372036854775807 : UInt64).toNat = 9223372036854775807 := by decide
  have h2 : (toU64 n).toNat = n := by simp only [toU64, UInt64.toNat_ofNat']; omega
  omega
theorem and64_small {y : UInt64} (h : y.toNat < 4294967296) : y &&& 4294967295 = y := by
  apply UInt64.toNat_inj.1
  rw [UInt64.toNat_and]
  exact Nat.and_two_pow_sub_one_of_lt_two_pow (n := 32) h
theorem c_Mul64 (y : UInt64) (hy : y.toNat < 4294967296) : Con Try.prog K w0 52 [vU64 1, vU64 y] [] H (fun r M => r = .tuple #[vU64 0, vU64 y] ∧ M = []) := by
  refine Con.enter Try.func52 rfl rfl ?_
  refine SX.sr ?_
  refine SL.asg ⟨rfl, rfl, rfl, rfl⟩ rfl ?_
  refine SL.asg ⟨rfl, rfl, rfl, rfl⟩ rfl ?_
  refine SL.nx ?_
  refine SX.sr ?_
  refine SL.mv ⟨rfl, rfl, rfl, rfl⟩ rfl ?_
  refine SL.bin ⟨rfl, rfl, rfl, rfl⟩ rfl rfl (Bin.and64 (b := 4294967295)) ?_
  refine SL.asg ⟨rfl, rfl, rfl, rfl⟩ rfl ?_
  refine SL.nx ?_
  refine SX.sr ?_
  refine SL.mv ⟨rfl, rfl, rfl, rfl⟩ rfl ?_
  refine SL.bin ⟨rfl, rfl, rfl, rfl⟩ rfl rfl (Bin.shr64 (n := 32)) ?_
  refine SL.asg ⟨rfl, rfl, rfl, rfl⟩ rfl ?_
  refine SL.nx ?_
  refine SX.sr ?_
  refine SL.mv ⟨rfl, rfl, rfl, rfl⟩ rfl ?_
  refine SL.bin ⟨rfl, rfl, rfl, rfl⟩ rfl rfl (Bin.and64 (b := 4294967295)) ?_
  refine SL.asg ⟨rfl, rfl, rfl, rfl⟩ rfl ?_
  refine SL.nx ?_
  refine SX.sr ?_
  refine SL.mv ⟨rfl, rfl, rfl, rfl⟩ rfl ?_
  refine SL.bin ⟨rfl, rfl, rfl, rfl⟩ rfl rfl (Bin.shr64 (n := 32)) ?_
  refine SL.asg ⟨rfl, rfl, rfl, rfl⟩ rfl ?_
  refine SL.nx ?_
  refine SX.sr ?_
  refine SL.mv ⟨rfl, rfl, rfl, rfl⟩ rfl ?_
  refine SL.mv ⟨rfl, rfl, rfl, rfl⟩ rfl ?_
  refine SL.bin ⟨rfl, rfl, rfl, rfl⟩ rfl rfl Bin.mul64 ?_
  refine SL.asg ⟨rfl, rfl, rfl, rfl⟩ rfl ?_
  refine SL.nx ?_
  refine SX.sr ?_
  refine SL.mv ⟨rfl, rfl, rfl, rfl⟩ rfl ?_
  refine SL.mv ⟨rfl, rfl, rfl, rfl⟩ rfl ?_
  refine SL.bin ⟨rfl, rfl, rfl, rfl⟩ rfl rfl Bin.mul64 ?_
  refine SL.mv ⟨rfl, rfl, rfl, rfl⟩ rfl ?_
  refine SL.bin ⟨rfl, rfl, rfl, rfl⟩ rfl rfl (Bin.shr64 (n := 32)) ?_
  refine SL.bin ⟨rfl, rfl, rfl, rfl⟩ rfl rfl Bin.add64 ?_
  refine SL.asg ⟨rfl, rfl, rfl, rfl⟩ rfl ?_
  refine SL.nx ?_
  refine SX.sr ?_
  refine SL.mv ⟨rfl, rfl, rfl, rfl⟩ rfl ?_
  refine SL.bin ⟨rfl, rfl, rfl, rfl⟩ rfl rfl (Bin.and64 (b := 4294967295)) ?_
  refine SL.asg ⟨rfl, rfl, rfl, rfl⟩ rfl ?_
  refine SL.nx ?_
  refine SX.sr ?_
  refine SL.mv ⟨rfl, rfl, rfl, rfl⟩ rfl ?_
  refine SL.bin ⟨rfl, rfl, rfl, rfl⟩ rfl rfl (Bin.shr64 (n := 32)) ?_
  refine SL.asg ⟨rfl, rfl, rfl, rfl⟩ rfl ?_
  refine SL.nx ?_
  refine SX.sr ?_
  refine SL.mv ⟨rfl, rfl, rfl, rfl⟩ rfl ?_
  refine SL.mv ⟨rfl, rfl, rfl, rfl⟩ rfl ?_
  refine SL.mv ⟨rfl, rfl, rfl, rfl⟩ rfl ?_
  refine SL.bin ⟨rfl, rfl, rfl, rfl⟩ rfl rfl Bin.mul64 ?_
  refine SL.bin ⟨rfl, rfl, rfl, rfl⟩ rfl rfl Bin.add64 ?_
  refine SL.asg ⟨rfl, rfl, rfl, rfl⟩ rfl ?_
  refine SL.nx ?_
  refine SX.sr ?_
  refine SL.mv ⟨rfl, rfl, rfl, rfl⟩ rfl ?_
  refine SL.mv ⟨rfl, rfl, rfl, rfl⟩ rfl ?_
  refine SL.bin ⟨rfl, rfl, rfl, rfl⟩ rfl rfl Bin.mul64 ?_
  refine SL.mv ⟨rfl, rfl, rfl, rfl⟩ rfl ?_
  refine SL.bin ⟨rfl, rfl, rfl, rfl⟩ rfl rfl Bin.add64 ?_
  refine SL.mv ⟨rfl, rfl, rfl, rfl⟩ rfl ?_
  refine SL.bin ⟨rfl, rfl, rfl, rfl⟩ rfl rfl (Bin.shr64 (n := 32)) ?_
  refine SL.bin ⟨rfl, rfl, rfl, rfl⟩ rfl rfl Bin.add64 ?_
  refine SL.asg ⟨rfl, rfl, rfl, rfl⟩ rfl ?_
  refine SL.nx ?_
  refine SX.sr ?_
  refine SL.mv ⟨rfl, rfl, rfl, rfl⟩ rfl ?_
  refine SL.mv ⟨rfl, rfl, rfl, rfl⟩ rfl ?_
  refine SL.bin ⟨rfl, rfl, rfl, rfl⟩ rfl rfl Bin.mul64 ?_
  refine SL.asg ⟨rfl, rfl, rfl, rfl⟩ rfl ?_
  refine SL.nx ?_
  refine SX.ret ?_
  have h1 : shr64 y 32 = 0 := shr64_small hy
  have h2 : y &&& 4294967295 = y := and64_small hy
  have h3 : shr64 (1 : UInt64) 32 = 0 := by decide
  have h4 : (1 : UInt64) &&& 4294967295 = 1 := by decide
  have h5 : shr64 (0 : UInt64) 32 = 0 := by decide
  have h6 : (0 : UInt64) &&& 4294967295 = 0 := by decide
  refine SQ.fret (res2 rfl rfl rfl) (ret_of (M := []) ⟨?_, rfl⟩ fun _ h => h.skip [])
  simp [h1, h2, h3, h4, h5, h6]

theorem c_Mul (y : UInt64) (hy : y.toNat < 4294967296) : Con Try.prog K w0 41 [vU64 1, vU64 y] [] H (fun r M => r = .tuple #[vU64 0, vU64 y] ∧ M = []) := by
  refine Con.enter Try.func41 rfl rfl ?_
  refine SX.sr ?_
  refine SL.asg ⟨rfl, rfl, rfl, rfl⟩ rfl ?_
  refine SL.asg ⟨rfl, rfl, rfl, rfl⟩ rfl ?_
  refine SL.nx ?_
  refine SX.seq ?_
  refine SX.cond rfl (fun hc1 => absurd hc1 (by decide)) (fun hc1 => ?_)
  refine SX.skip ?_
  refine SQ.thn ?_
  refine SX.sr ?_
  refine SL.mv ⟨rfl, rfl, rfl, rfl⟩ rfl ?_
  refine SL.mv ⟨rfl, rfl, rfl, rfl⟩ rfl ?_
  refine SL.call (vs := [_, _]) (Hin := []) ⟨rfl, rfl, rfl, rfl⟩ rfl ⟨rfl, rfl, trivial⟩ cal52 rfl rfl (c_Mul64 y hy) ?_
  rintro _ _ ⟨rfl, rfl⟩
  refine ⟨trivial, ?_⟩
  refine SL.mv ⟨rfl, rfl, rfl, rfl⟩ rfl ?_
  refine SL.ext ⟨rfl, rfl, rfl, rfl⟩ rfl rfl ?_
  refine SL.ext ⟨rfl, rfl, rfl, rfl⟩ rfl rfl ?_
  refine SL.asg ⟨rfl, rfl, rfl, rfl⟩ rfl ?_
  refine SL.asg ⟨rfl, rfl, rfl, rfl⟩ rfl ?_
  refine SL.nx ?_
  refine SX.sr ?_
  refine SL.mv ⟨rfl, rfl, rfl, rfl⟩ rfl ?_
  refine SL.mv ⟨rfl, rfl, rfl, rfl⟩ rfl ?_
  refine SL.asg ⟨rfl, rfl, rfl, rfl⟩ rfl ?_
  refine SL.asg ⟨rfl, rfl, rfl, rfl⟩ rfl ?_
  refine SL.nx ?_
  refine SX.ret ?_
  exact SQ.fret (res2 rfl rfl rfl) (ret_of (M := []) ⟨rfl, rfl⟩ fun _ h => h.skip [])

theorem c_grow0 (b n : Nat) (hn : n ≤ 281474976710656) : Con Try.prog K w0 55 [vP b 0, vI n] [own b (.cells #[vP b 0, .slice none 0 0] 81)] H (fun r M => r = .tuple #[] ∧ ∃ v, M = [own b (.cells #[vP b 0, v] 81), rowC 5 1 v 0 []]) := by
  refine Con.enter Try.func55 rfl rfl ?_
  refine SX.seq ?_
  refine SX.drawI mix [0] (Pl.of [(true, 0), (true, 1), (true, 2), (true, 3), (true, 4), (true, 5), (true, 6), (true, 7), (true, 9), (true, 10), (true, 11), (true, 12), (true, 13), (false, 8), (true, 14), (true, 15)]) (by kernel_rfl) ?_
  refine SL.mv ⟨rfl, rfl, rfl, rfl⟩ rfl ?_
  refine SL.nchk ⟨rfl, rfl, rfl, rfl⟩ rfl ?_
  refine SL.fa ⟨rfl, rfl, rfl, rfl⟩ rfl fo81_1 ?_
  refine SL.ld ⟨rfl, rfl, rfl, rfl⟩ sc79 rfl (cell_own 0 rfl rfl) ?_
  refine SL.capL ⟨rfl, rfl, rfl, rfl⟩ ty79 rfl ?_
  refine SL.bin ⟨rfl, rfl, rfl, rfl⟩ rfl rfl (Bin.mulI (by omega) (by omega)) ?_
  refine SL.mv ⟨rfl, rfl, rfl, rfl⟩ rfl ?_
  refine SL.bin ⟨rfl, rfl, rfl, rfl⟩ rfl rfl (Bin.addI (by omega) (by omega)) ?_
  refine SL.mv ⟨rfl, rfl, rfl, rfl⟩ rfl ?_
  refine SL.nchk ⟨rfl, rfl, rfl, rfl⟩ rfl ?_
  refine SL.fa ⟨rfl, rfl, rfl, rfl⟩ rfl fo81_1 ?_
  refine SL.ld ⟨rfl, rfl, rfl, rfl⟩ sc79 rfl (cell_own 0 rfl rfl) ?_
  refine SL.lenL ⟨rfl, rfl, rfl, rfl⟩ ty79 rfl ?_
  refine SL.mnz (n := n) (fn := Try.f59) ⟨rfl, rfl, rfl, rfl⟩ rfl (by omega) hn ty79 (fun w r w' hr => by rw [run_callFunc_extern (e := Extern.BytealgMakeNoZero.makeNoZero #[3] #[79]) Try.func59 (by kernel_rfl) (by kernel_rfl) (by kernel_rfl) (by kernel_rfl)]; rw [show (Extern.BytealgMakeNoZero.makeNoZero #[3] #[79] #[vI n]).run Try.prog w = .ok r w' from hr]; rfl) (fun _ _ => ⟨⟨1, rfl⟩, trivial⟩) fun b1 cs hcs hcm => ?_
  refine SL.slHR 0 ⟨rfl, rfl, rfl, rfl⟩ ty79 sz5 rfl rfl rfl (by omega) ?_
  refine SL.asg ⟨rfl, rfl, rfl, rfl⟩ rfl ?_
  refine SL.nx ?_
  refine SX.sr ?_
  refine SL.mv ⟨rfl, rfl, rfl, rfl⟩ rfl ?_
  refine SL.mv ⟨rfl, rfl, rfl, rfl⟩ rfl ?_
  refine SL.nchk ⟨rfl, rfl, rfl, rfl⟩ rfl ?_
  refine SL.fa ⟨rfl, rfl, rfl, rfl⟩ rfl fo81_1 ?_
  refine SL.ld ⟨rfl, rfl, rfl, rfl⟩ sc79 rfl (cell_own 1 rfl rfl) ?_
  refine SL.cpN ⟨rfl, rfl, rfl, rfl⟩ ty79 sz5 rfl rfl ?_
  refine SL.nx ?_
  refine SX.region ?_
  refine SL.mv ⟨rfl, rfl, rfl, rfl⟩ rfl ?_
  refine SL.mv ⟨rfl, rfl, rfl, rfl⟩ rfl ?_
  refine SL.nchk ⟨rfl, rfl, rfl, rfl⟩ rfl ?_
  refine SL.fa ⟨rfl, rfl, rfl, rfl⟩ rfl fo81_1 ?_
  refine SL.st 1 ⟨rfl, rfl, rfl⟩ rfl rfl rfl sz79 rfl rfl rfl trivial ?_
  refine SL.nil ?_
  refine SQ.heap (H' := rowC 5 1 (.slice (some ⟨b1, 0, none⟩) 0 cs.size) 0 [] :: own b (.cells #[vP b 0, .slice (some ⟨b1, 0, none⟩) 0 cs.size] 81) :: H) ?_ fun w hw => HpOk.asRow hw (by simp) (by omega)
  exact SQ.fend (res0 rfl) (ret_of (M := [_, _]) ⟨rfl, _, rfl⟩ fun _ h => h.perm (List.Perm.swap _ _ _))

theorem c_Grow0 (b n : Nat) (p : Value) (hp : adr b p) (h0 : 0 < n) (hn : n ≤ 281474976710656) : Con Try.prog K w0 43 [vP b 0, vI n] [own b (.cells #[p, .slice none 0 0] 81)] H (fun r M => r = .tuple #[] ∧ ∃ v, M = [own b (.cells #[vP b 0, v] 81), rowC 5 1 v 0 []]) := by
  refine Con.enter Try.func43 rfl rfl ?_
  refine SX.sr ?_
  refine SL.mv ⟨rfl, rfl, rfl, rfl⟩ rfl ?_
  refine SL.call (vs := [_]) (Hin := [_]) ⟨rfl, rfl, rfl, rfl⟩ rfl ⟨rfl, trivial⟩ cal54 rfl rfl (c_copyCheck 81 b p (.slice none 0 0) hp li81) ?_
  rintro _ _ ⟨rfl, rfl⟩
  refine ⟨trivial, ?_⟩
  refine SL.nx ?_
  refine SX.seq ?_
  refine SX.sr ?_
  refine SL.mv ⟨rfl, rfl, rfl, rfl⟩ rfl ?_
  refine SL.bin ⟨rfl, rfl, rfl, rfl⟩ rfl rfl Bin.ltI ?_
  refine SL.nx ?_
  refine SX.cond rfl (fun hc1 => absurd hc1 (by simp)) (fun hc1 => ?_)
  refine SX.skip ?_
  refine SQ.thn ?_
  refine SX.seq ?_
  refine SX.drawI mix [0] (Pl.of [(true, 0), (true, 1), (true, 2), (true, 3), (true, 4), (true, 5), (true, 6), (true, 7), (true, 8), (true, 9), (true, 10), (true, 11), (true, 12)]) (by kernel_rfl) ?_
  refine SL.mv ⟨rfl, rfl, rfl, rfl⟩ rfl ?_
  refine SL.nchk ⟨rfl, rfl, rfl, rfl⟩ rfl ?_
  refine SL.fa ⟨rfl, rfl, rfl, rfl⟩ rfl fo81_1 ?_
  refine SL.ld ⟨rfl, rfl, rfl, rfl⟩ sc79 rfl (cell_own 0 rfl rfl) ?_
  refine SL.capL ⟨rfl, rfl, rfl, rfl⟩ ty79 rfl ?_
  refine SL.mv ⟨rfl, rfl, rfl, rfl⟩ rfl ?_
  refine SL.nchk ⟨rfl, rfl, rfl, rfl⟩ rfl ?_
  refine SL.fa ⟨rfl, rfl, rfl, rfl⟩ rfl fo81_1 ?_
  refine SL.ld ⟨rfl, rfl, rfl, rfl⟩ sc79 rfl (cell_own 0 rfl rfl) ?_
  refine SL.lenL ⟨rfl, rfl, rfl, rfl⟩ ty79 rfl ?_
  refine SL.bin ⟨rfl, rfl, rfl, rfl⟩ rfl rfl (Bin.subI (by omega) (by omega)) ?_
  refine SL.mv ⟨rfl, rfl, rfl, rfl⟩ rfl ?_
  refine SL.bin ⟨rfl, rfl, rfl, rfl⟩ rfl rfl Bin.ltI ?_
  refine SL.nx ?_
  refine SX.cond rfl (fun hc2 => ?_) (fun hc2 => absurd hc2 (by simp; omega))
  refine SX.region ?_
  refine SL.mv ⟨rfl, rfl, rfl, rfl⟩ rfl ?_
  refine SL.mv ⟨rfl, rfl, rfl, rfl⟩ rfl ?_
  refine SL.call (vs := [_, _]) (Hin := [_]) ⟨rfl, rfl, rfl, rfl⟩ rfl ⟨rfl, rfl, trivial⟩ cal55 rfl rfl (c_grow0 b n hn) ?_
  rintro _ _ ⟨rfl, v, rfl⟩
  refine ⟨trivial, ?_⟩
  refine SL.nil ?_
  exact SQ.fend (res0 rfl) (ret_of (M := [_, _]) ⟨rfl, v, rfl⟩ fun _ h => h)

theorem c_Repeat0 (n : Nat) (hn : n ≤ 8192) : Con Try.prog K w0 19 [vS [0], vI n] [] H (fun r M => r = vS (List.replicate n 0) ∧ M = []) := by
  refine Con.enter Try.func19 rfl rfl ?_
  refine SX.sr ?_
  refine SL.asg ⟨rfl, rfl, rfl, rfl⟩ rfl ?_
  refine SL.nx ?_
  refine SX.seq ?_
  refine SX.sr ?_
  refine SL.mv ⟨rfl, rfl, rfl, rfl⟩ rfl ?_
  refine SL.nx ?_
  refine SX.block ?_
  refine SX.sr ?_
  refine SL.bin ⟨rfl, rfl, rfl, rfl⟩ rfl rfl Bin.eqI ?_
  refine SL.asg ⟨rfl, rfl, rfl, rfl⟩ rfl ?_
  refine SL.nx ?_
  refine SX.cond rfl (fun hc1 => ?_) (fun hc1 => ?_)
  · skip
    refine SX.sr ?_
    refine SL.asg ⟨rfl, rfl, rfl, rfl⟩ rfl ?_
    refine SL.nx ?_
    refine SX.ret ?_
    refine SQ.blkR ?_
    refine SQ.thnR ?_
    exact SQ.fret (res1 rfl rfl) (ret_of (M := []) ⟨by have h0 : n = 0 := (by simpa using hc1); subst h0; rfl, rfl⟩ fun _ h => h.skip [])
  · skip
    have h0 : n ≠ 0 := by intro h; subst h; simp at hc1
    refine SX.sr ?_
    refine SL.bin ⟨rfl, rfl, rfl, rfl⟩ rfl rfl Bin.eqI ?_
    refine SL.asg ⟨rfl, rfl, rfl, rfl⟩ rfl ?_
    refine SL.nx ?_
    refine SX.cond rfl (fun hc2 => ?_) (fun hc2 => ?_)
    · skip
      refine SX.sr ?_
      refine SL.mv ⟨rfl, rfl, rfl, rfl⟩ rfl ?_
      refine SL.asg ⟨rfl, rfl, rfl, rfl⟩ rfl ?_
      refine SL.nx ?_
      refine SX.ret ?_
      refine SQ.blkR ?_
      refine SQ.thnR ?_
      exact SQ.fret (res1 rfl rfl) (ret_of (M := []) ⟨by have h1 : n = 1 := (by simp at hc2; omega); subst h1; rfl, rfl⟩ fun _ h => h.skip [])
    · skip
      refine SX.skip ?_
      refine SQ.blk ?_
      refine SQ.thn ?_
      refine SX.seq ?_
      refine SX.sr ?_
      refine SL.mv ⟨rfl, rfl, rfl, rfl⟩ rfl ?_
      refine SL.bin ⟨rfl, rfl, rfl, rfl⟩ rfl rfl Bin.ltI ?_
      refine SL.nx ?_
      refine SX.cond rfl (fun hc3 => absurd hc3 (by simp)) (fun hc3 => ?_)
      refine SX.skip ?_
      refine SQ.thn ?_
      refine SX.sr ?_
      refine SL.mv ⟨rfl, rfl, rfl, rfl⟩ rfl ?_
      refine SL.lenS ⟨rfl, rfl, rfl, rfl⟩ ty9 rfl ?_
      refine SL.cv ⟨rfl, rfl, rfl, rfl⟩ rfl (Cv.i_64 ty3 ty64) ?_
      refine SL.mv ⟨rfl, rfl, rfl, rfl⟩ rfl ?_
      refine SL.cv ⟨rfl, rfl, rfl, rfl⟩ rfl (Cv.i_64 ty3 ty64) ?_
      refine SL.call (vs := [_, _]) (Hin := []) ⟨rfl, rfl, rfl, rfl⟩ rfl ⟨rfl, rfl, trivial⟩ cal41 rfl rfl (c_Mul (toU64 n) (by simp [toU64]; omega)) ?_
      rintro _ _ ⟨rfl, rfl⟩
      refine ⟨trivial, ?_⟩
      refine SL.mv ⟨rfl, rfl, rfl, rfl⟩ rfl ?_
      refine SL.ext ⟨rfl, rfl, rfl, rfl⟩ rfl rfl ?_
      refine SL.ext ⟨rfl, rfl, rfl, rfl⟩ rfl rfl ?_
      refine SL.asg ⟨rfl, rfl, rfl, rfl⟩ rfl ?_
      refine SL.asg ⟨rfl, rfl, rfl, rfl⟩ rfl ?_
      refine SL.nx ?_
      refine SX.seq ?_
      refine SX.sr ?_
      refine SL.mv ⟨rfl, rfl, rfl, rfl⟩ rfl ?_
      refine SL.bin ⟨rfl, rfl, rfl, rfl⟩ rfl rfl (Bin.gt64 (b := 0)) ?_
      refine SL.mv ⟨rfl, rfl, rfl, rfl⟩ rfl ?_
      refine SL.or (c := false) 31 3 34 rfl (fun hb k => ?_) (fun hb k => ?_) ?_
      · skip
        refine SL.pass rfl rfl rfl ?_
        refine SL.pass rfl rfl rfl ?_
        refine SL.pk ⟨rfl, rfl, rfl, rfl⟩ rfl rfl ?_
        exact k.mono (by repeat' (first | exact trivial | refine And.intro rfl ?_))
      · skip
        refine SL.mv ⟨rfl, rfl, rfl, rfl⟩ rfl ?_
        refine SL.bin ⟨rfl, rfl, rfl, rfl⟩ rfl rfl (Bin.gt64 (b := 9223372036854775807)) ?_
        rw [big63 n (by omega)]
        refine SL.pk ⟨rfl, rfl, rfl, rfl⟩ rfl rfl ?_
        exact k.mono (by repeat' (first | exact trivial | refine And.intro rfl ?_))
      refine SL.nx ?_
      refine SX.cond rfl (fun hc4 => absurd hc4 (by decide)) (fun hc4 => ?_)
      refine SX.skip ?_
      refine SQ.thn ?_
      refine SX.sr ?_
      refine SL.mv ⟨rfl, rfl, rfl, rfl⟩ rfl ?_
      have hto : ((toU64 n).toNat : Int) = n := by simp only [toU64, UInt64.toNat_ofNat']; omega
      refine SL.cv ⟨rfl, rfl, rfl, rfl⟩ rfl (Cv.i_I (n := ((toU64 n).toNat : Int)) ty64 ty3 (by omega) (by omega)) ?_
      rw [hto]
      refine SL.asg ⟨rfl, rfl, rfl, rfl⟩ rfl ?_
      refine SL.nx ?_
      refine SX.seq ?_
      refine SX.sr ?_
      refine SL.mv ⟨rfl, rfl, rfl, rfl⟩ rfl ?_
      refine SL.lenS ⟨rfl, rfl, rfl, rfl⟩ ty9 rfl ?_
      refine SL.bin ⟨rfl, rfl, rfl, rfl⟩ rfl rfl Bin.eqI ?_
      refine SL.nx ?_
      refine SX.cond rfl (fun hc5 => absurd hc5 (by decide)) (fun hc5 => ?_)
      refine SX.skip ?_
      refine SQ.thn ?_
      refine SX.seq ?_
      refine SX.sr ?_
      refine SL.mv ⟨rfl, rfl, rfl, rfl⟩ rfl ?_
      refine SL.ixS 0 ⟨rfl, rfl, rfl, rfl⟩ ty9 rfl rfl (by decide) (by decide) ?_
      refine SL.nx ?_
      refine SX.block ?_
      refine SX.seq ?_
      refine SX.sr ?_
      refine SL.bin ⟨rfl, rfl, rfl, rfl⟩ rfl rfl (Bin.eq8 (b := 32)) ?_
      refine SL.asg ⟨rfl, rfl, rfl, rfl⟩ rfl ?_
      refine SL.nx ?_
      refine SX.cond rfl (fun hc6 => absurd hc6 (by decide)) (fun hc6 => ?_)
      refine SX.sr ?_
      refine SL.bin ⟨rfl, rfl, rfl, rfl⟩ rfl rfl (Bin.eq8 (b := 45)) ?_
      refine SL.asg ⟨rfl, rfl, rfl, rfl⟩ rfl ?_
      refine SL.nx ?_
      refine SX.cond rfl (fun hc7 => absurd hc7 (by decide)) (fun hc7 => ?_)
      refine SX.sr ?_
      refine SL.bin ⟨rfl, rfl, rfl, rfl⟩ rfl rfl (Bin.eq8 (b := 48)) ?_
      refine SL.asg ⟨rfl, rfl, rfl, rfl⟩ rfl ?_
      refine SL.nx ?_
      refine SX.cond rfl (fun hc8 => absurd hc8 (by decide)) (fun hc8 => ?_)
      refine SX.sr ?_
      refine SL.bin ⟨rfl, rfl, rfl, rfl⟩ rfl rfl (Bin.eq8 (b := 61)) ?_
      refine SL.asg ⟨rfl, rfl, rfl, rfl⟩ rfl ?_
      refine SL.nx ?_
      refine SX.cond rfl (fun hc9 => absurd hc9 (by decide)) (fun hc9 => ?_)
      refine SX.region ?_
      refine SL.bin ⟨rfl, rfl, rfl, rfl⟩ rfl rfl (Bin.eq8 (b := 9)) ?_
      refine SL.asg ⟨rfl, rfl, rfl, rfl⟩ rfl ?_
      refine SL.nx ?_
      refine SX.cond rfl (fun hc10 => absurd hc10 (by decide)) (fun hc10 => ?_)
      refine SX.skip ?_
      refine SQ.blk ?_
      refine SQ.thn ?_
      refine SX.sr ?_
      refine SL.mv ⟨rfl, rfl, rfl, rfl⟩ rfl ?_
      refine SL.asg ⟨rfl, rfl, rfl, rfl⟩ rfl ?_
      refine SL.nx ?_
      refine SX.seq ?_
      refine SX.sr ?_
      refine SL.mv ⟨rfl, rfl, rfl, rfl⟩ rfl ?_
      refine SL.bin ⟨rfl, rfl, rfl, rfl⟩ rfl rfl Bin.gtI ?_
      refine SL.nx ?_
      refine SX.cond rfl (fun hc11 => absurd hc11 (by simp; omega)) (fun hc11 => ?_)
      refine SX.skip ?_
      refine SQ.thn ?_
      refine SX.sr ?_
      refine SL.alloc ⟨rfl, rfl, rfl, rfl⟩ ze81 (fun _ => trivial) fun b0 => ?_
      refine SL.nx ?_
      refine SX.sr ?_
      refine SL.mv ⟨rfl, rfl, rfl, rfl⟩ rfl ?_
      refine SL.call (vs := [_, _]) (Hin := [_]) ⟨rfl, rfl, rfl, rfl⟩ rfl ⟨rfl, rfl, trivial⟩ cal43 rfl rfl (c_Grow0 b0 n _ (.inl rfl) (by omega) (by omega)) ?_
      rintro _ _ ⟨rfl, v1, rfl⟩
      refine ⟨trivial, ?_⟩
      refine SL.nx ?_
      refine SX.sr ?_
      refine SL.mv ⟨rfl, rfl, rfl, rfl⟩ rfl ?_
      refine SL.call (vs := [_, _]) (Hin := [_, _]) ⟨rfl, rfl, rfl, rfl⟩ rfl ⟨rfl, rfl, trivial⟩ cal44 rfl rfl (c_WriteString 81 b0 _ v1 0 [] [0] (.inr rfl) li81 (by simp)) ?_
      rintro _ _ ⟨rfl, v2, rfl⟩
      refine ⟨trivial, ?_⟩
      refine SL.nx ?_
      refine SX.seq ?_
      refine SX.block ?_
      refine SX.mono (SX.loop (α := Nat × Value) (fun x => 1 ≤ x.1 ∧ x.1 ≤ n) (fun x => [(0, vS [0]), (7, vI n), (8, vI n), (9, vP b0 0)]) (fun x => own b0 (.cells #[vP b0 0, x.2] 81) :: rowC 5 1 x.2 x.1 ((List.replicate x.1 0).map fun b => vU8 b) :: H) (fun x => n - x.1) (fun x D hp => ?_) (1, v2) ⟨Nat.le_refl _, by simp only; omega⟩) (by repeat' (first | exact trivial | refine And.intro rfl ?_))
      obtain ⟨m, v⟩ := x
      obtain ⟨h1, h2⟩ := hp
      simp only at h1 h2
      refine SX.seq ?_
      refine SX.sr ?_
      refine SL.call (vs := [_]) (Hin := [_, _]) ⟨rfl, rfl, rfl, rfl⟩ rfl ⟨rfl, trivial⟩ cal45 rfl rfl (c_Len 81 b0 (vP b0 0) v m _) ?_
      rintro _ _ ⟨rfl, rfl⟩
      refine ⟨trivial, ?_⟩
      refine SL.mv ⟨rfl, rfl, rfl, rfl⟩ rfl ?_
      refine SL.bin ⟨rfl, rfl, rfl, rfl⟩ rfl rfl Bin.ltI ?_
      refine SL.nx ?_
      refine SX.cond rfl (fun hc12 => ?_) (fun hc12 => ?_)
      · skip
        refine SX.skip ?_
        refine SQ.thn ?_
        refine SX.block ?_
        refine SX.sr ?_
        refine SL.mv ⟨rfl, rfl, rfl, rfl⟩ rfl ?_
        refine SL.call (vs := [_]) (Hin := [_, _]) ⟨rfl, rfl, rfl, rfl⟩ rfl ⟨rfl, trivial⟩ cal45 rfl rfl (c_Len 81 b0 (vP b0 0) v m _) ?_
        rintro _ _ ⟨rfl, rfl⟩
        refine ⟨trivial, ?_⟩
        refine SL.bin ⟨rfl, rfl, rfl, rfl⟩ rfl rfl (Bin.subI (by omega) (by omega)) ?_
        refine SL.call (vs := [_]) (Hin := [_, _]) ⟨rfl, rfl, rfl, rfl⟩ rfl ⟨rfl, trivial⟩ cal45 rfl rfl (c_Len 81 b0 (vP b0 0) v m _) ?_
        rintro _ _ ⟨rfl, rfl⟩
        refine ⟨trivial, ?_⟩
        refine SL.mv ⟨rfl, rfl, rfl, rfl⟩ rfl ?_
        refine SL.minI3 ⟨rfl, rfl, rfl, rfl⟩ rfl rfl rfl ?_
        refine SL.asg ⟨rfl, rfl, rfl, rfl⟩ rfl ?_
        refine SL.nx ?_
        refine SX.region ?_
        refine SL.call (vs := [_]) (Hin := [_, _]) ⟨rfl, rfl, rfl, rfl⟩ rfl ⟨rfl, trivial⟩ cal46 rfl rfl (c_String 81 b0 (vP b0 0) v m (List.replicate m 0) (by omega)) ?_
        rintro _ _ ⟨rfl, rfl⟩
        refine ⟨trivial, ?_⟩
        refine SL.mv ⟨rfl, rfl, rfl, rfl⟩ rfl ?_
        refine SL.slSh (min (n - m) m) ⟨rfl, rfl, rfl, rfl⟩ ty9 rfl rfl (by omega) (by simp; omega) ?_
        refine SL.call (vs := [_, _]) (Hin := [_, _]) ⟨rfl, rfl, rfl, rfl⟩ rfl ⟨rfl, rfl, trivial⟩ cal44 rfl rfl (c_WriteString 81 b0 _ v m _ ((List.replicate m 0).take (min (n - m) m)) (.inr rfl) li81 (by simp; omega)) ?_
        rintro _ _ ⟨rfl, v', rfl⟩
        refine ⟨trivial, ?_⟩
        refine SL.nil ?_
        refine SQ.blk ?_
        exact SQ.again (m + min (n - m) m, v') ⟨by simp only; omega, by simp only; omega⟩ (by simp at hc12; simp only; omega) ⟨rfl, rfl, rfl, rfl, trivial⟩ (fun w h => by
          have e : (List.replicate m 0).map (fun b => vU8 b) ++ ((List.replicate m 0).take (min (n - m) m)).map (fun b => vU8 b) = (List.replicate (m + min (n - m) m) 0).map fun b => vU8 b := by
            rw [← List.map_append, List.take_replicate, List.replicate_append_replicate]; congr 2; omega
          have e2 : ((List.replicate m (0 : UInt8)).take (min (n - m) m)).length = min (n - m) m := by simp
          rw [e, e2] at h
          exact h)
      · skip
        refine SX.exit ?_
        refine SQ.thnE ?_
        refine SQ.lpE ?_
        refine SQ.blkE ?_
        refine SQ.thn ?_
        refine SX.sr ?_
        refine SL.call (vs := [_]) (Hin := [_, _]) ⟨rfl, rfl, rfl, rfl⟩ rfl ⟨rfl, trivial⟩ cal46 rfl rfl (c_String 81 b0 (vP b0 0) v m (List.replicate m 0) (by omega)) ?_
        rintro _ _ ⟨rfl, rfl⟩
        refine ⟨trivial, ?_⟩
        refine SL.asg ⟨rfl, rfl, rfl, rfl⟩ rfl ?_
        refine SL.nx ?_
        refine SX.ret ?_
        exact SQ.fret (res1 rfl rfl) (ret_of (M := []) ⟨by have h3 : m = n := (by simp at hc12; omega); subst h3; rfl, rfl⟩ fun _ h => h.skip [_, _])
end Go.Proofs.Ytddjneafgddlcaa

/- slices.Repeat of one text. Condition: 1 to 1000000 times. -/
namespace Go.Proofs.Ytddjneafgddlcaa
open Go
variable {K : Nat → Prop} {w0 : World} {H : List Chunk}

def rp (m k : Nat) (s : List UInt8) : Array Value := (List.replicate k (vS s) ++ List.replicate (m - k) (vS [])).toArray
theorem rp_next {m k : Nat} {s : List UInt8} (hk : k ≤ m) : setL (rp m k s) k (List.replicate (Nat.min k (m - k)) (vS s)) = rp m (k + Nat.min k (m - k)) s := by
  have hc : Nat.min k (m - k) ≤ m - k := Nat.min_le_right ..
  generalize Nat.min k (m - k) = c at hc
  apply Array.ext'
  rw [setL_toList _ _ _ (by simp [rp]; omega)]
  have h0 : (rp m k s).toList = List.replicate k (vS s) ++ List.replicate (m - k) (vS []) := rfl
  have h9 : (rp m (k + c) s).toList = List.replicate (k + c) (vS s) ++ List.replicate (m - (k + c)) (vS []) := rfl
  rw [h0, h9, List.take_append_of_le_length (by simp), List.take_of_length_le (by simp), List.drop_append, List.drop_of_length_le (by simp)]
  simp only [List.length_replicate, List.nil_append, List.drop_replicate, List.replicate_append_replicate]
  rw [show m - k - (k + c - k) = m - (k + c) by omega]
theorem rp_first {m : Nat} {s : List UInt8} (hm : 1 ≤ m) : setL (madeCells (Value.string ⟨⟨[]⟩⟩).cells (m * 1)) 0 [vS s] = rp m 1 s := by
  obtain ⟨k, rfl⟩ : ∃ k, m = k + 1 := ⟨m - 1, by omega⟩
  apply Array.ext'
  rw [setL_toList _ _ _ (by simp [madeCells])]
  have h1 : (madeCells (Value.string ⟨⟨[]⟩⟩).cells ((k + 1) * 1)).toList = List.replicate (k + 1) (vS []) := by
    apply List.ext_getElem
    · simp [madeCells]
    · intro i _ _
      simp [madeCells, Nat.mod_one, Value.cells]
  rw [h1]
  simp [rp, List.replicate_succ]

theorem c_sRepeat {v : Value} {s : List UInt8} (m : Nat) (hm : 1 ≤ m) (hM : m ≤ 1000000) (hs : SlOf K w0 eS 1 v [s]) : Con Try.prog K w0 20 [v, vI m] [] H (fun u M => ∃ v', u = v' ∧ M = [rowT 9 1 v' eS (List.replicate m s)]) := by
  obtain ⟨b0, off, cap, rfl, hcap, hcell⟩ : ∃ b off cap, v = .slice (some ⟨b, off, none⟩) 1 cap ∧ 1 ≤ cap ∧ ∀ j u, ([s].flatMap eS)[j]? = some u → K b ∧ w0.cell? ⟨b, off + j, none⟩ = some u := by
    rcases hs.at_ with ⟨_, _, h⟩ | h
    · cases h
    · simpa using h
  refine Con.enter Try.func20 rfl rfl ?_
  refine SX.sr ?_
  refine SL.asg ⟨rfl, rfl, rfl, rfl⟩ rfl ?_
  refine SL.nx ?_
  refine SX.seq ?_
  refine SX.sr ?_
  refine SL.mv ⟨rfl, rfl, rfl, rfl⟩ rfl ?_
  refine SL.bin ⟨rfl, rfl, rfl, rfl⟩ rfl rfl Bin.ltI ?_
  refine SL.nx ?_
  refine SX.cond rfl (fun hc1 => absurd hc1 (by simp)) (fun hc1 => ?_)
  refine SX.skip ?_
  refine SQ.thn ?_
  refine SX.sr ?_
  refine SL.mv ⟨rfl, rfl, rfl, rfl⟩ rfl ?_
  refine SL.lenL ⟨rfl, rfl, rfl, rfl⟩ ty37 rfl ?_
  refine SL.cv ⟨rfl, rfl, rfl, rfl⟩ rfl (Cv.i_64 ty3 ty64) ?_
  refine SL.mv ⟨rfl, rfl, rfl, rfl⟩ rfl ?_
  refine SL.cv ⟨rfl, rfl, rfl, rfl⟩ rfl (Cv.i_64 ty3 ty64) ?_
  have hy : (toU64 (m : Int)).toNat = m := by simp only [toU64, UInt64.toNat_ofNat']; omega
  refine SL.call (vs := [_, _]) (Hin := []) ⟨rfl, rfl, rfl, rfl⟩ rfl ⟨rfl, rfl, trivial⟩ cal41 rfl rfl (c_Mul (toU64 m) (by rw [hy]; omega)) ?_
  rintro _ _ ⟨rfl, rfl⟩
  refine ⟨trivial, ?_⟩
  refine SL.mv ⟨rfl, rfl, rfl, rfl⟩ rfl ?_
  refine SL.ext ⟨rfl, rfl, rfl, rfl⟩ rfl rfl ?_
  refine SL.ext ⟨rfl, rfl, rfl, rfl⟩ rfl rfl ?_
  refine SL.asg ⟨rfl, rfl, rfl, rfl⟩ rfl ?_
  refine SL.asg ⟨rfl, rfl, rfl, rfl⟩ rfl ?_
  refine SL.nx ?_
  refine SX.seq ?_
  refine SX.sr ?_
  refine SL.mv ⟨rfl, rfl, rfl, rfl⟩ rfl ?_
  refine SL.bin ⟨rfl, rfl, rfl, rfl⟩ rfl rfl (Bin.gt64 (a := 0) (b := 0)) ?_
  refine SL.mv ⟨rfl, rfl, rfl, rfl⟩ rfl ?_
  refine SL.or (c := decide ((9223372036854775807 : UInt64) < toU64 m)) 23 3 26 rfl (fun hb k => ?_) (fun hb k => ?_) ?_
  · skip
    refine SL.pass rfl rfl rfl ?_
    refine SL.pass rfl rfl rfl ?_
    refine SL.pk ⟨rfl, rfl, rfl, rfl⟩ rfl rfl ?_
    exact k.mono (by repeat' (first | exact trivial | refine And.intro rfl ?_))
  · skip
    refine SL.mv ⟨rfl, rfl, rfl, rfl⟩ rfl ?_
    refine SL.bin ⟨rfl, rfl, rfl, rfl⟩ rfl rfl (Bin.gt64 (b := 9223372036854775807)) ?_
    refine SL.pk ⟨rfl, rfl, rfl, rfl⟩ rfl rfl ?_
    exact k.mono (by repeat' (first | exact trivial | refine And.intro rfl ?_))
  refine SL.nx ?_
  refine SX.cond rfl (fun hc2 => absurd hc2 (by rw [big63 m (by omega)]; decide)) (fun hc2 => ?_)
  refine SX.skip ?_
  refine SQ.thn ?_
  refine SX.sr ?_
  refine SL.mv ⟨rfl, rfl, rfl, rfl⟩ rfl ?_
  have hto : ((toU64 (m : Int)).toNat : Int) = m := by rw [hy]
  refine SL.cv ⟨rfl, rfl, rfl, rfl⟩ rfl (Cv.i_I (n := ((toU64 (m : Int)).toNat : Int)) ty64 ty3 (by omega) (by omega)) ?_
  rw [hto]
  refine SL.mkS (n := m) (c := m) ⟨rfl, rfl, rfl, rfl⟩ ty37 sz9 by9 ze9 rfl rfl (Nat.le_refl _) (by omega) (by omega) (fun b => trivial) fun b => ?_
  refine SL.asg ⟨rfl, rfl, rfl, rfl⟩ rfl ?_
  refine SL.nx ?_
  refine SX.sr ?_
  refine SL.mv ⟨rfl, rfl, rfl, rfl⟩ rfl ?_
  refine SL.mv ⟨rfl, rfl, rfl, rfl⟩ rfl ?_
  refine SL.cpO 0 [vS s] ⟨rfl, rfl, rfl, rfl⟩ ty37 sz9 rfl rfl rfl (by show 1 = min 1 m; omega) (fun w hw j u hu => ?_) (by simp [Value.oneCell']) (by simp [madeCells]; omega) trivial ?_
  · rw [Addr.add_mk]
    obtain ⟨h1, h2⟩ := hcell j u (by simpa using hu)
    have h3 := hw.keep _ h1
    simp only [World.cell?, h3] at h2 ⊢
    exact h2
  refine SL.asg ⟨rfl, rfl, rfl, rfl⟩ rfl ?_
  refine SL.nx ?_
  show SX _ _ _ _ _ _ _ _ _ (own b (.cells (setL (madeCells (Value.string ⟨⟨[]⟩⟩).cells (m * 1)) 0 [vS s]) 9) :: H)
  rw [rp_first hm]
  refine SX.seq ?_
  refine SX.block ?_
  refine SX.mono (SX.loop (α := Nat) (fun i => 1 ≤ i ∧ i ≤ m) (fun i => [(4, .slice none 0 0), (7, .slice (some ⟨b, 0, none⟩) m m), (8, vI i)]) (fun i => own b (.cells (rp m i s) 9) :: H) (fun i => m - i) (fun i D hp => ?_) 1 ⟨Nat.le_refl _, hm⟩) (by repeat' (first | exact trivial | refine And.intro rfl ?_))
  refine SX.seq ?_
  refine SX.sr ?_
  refine SL.mv ⟨rfl, rfl, rfl, rfl⟩ rfl ?_
  refine SL.mv ⟨rfl, rfl, rfl, rfl⟩ rfl ?_
  refine SL.lenL ⟨rfl, rfl, rfl, rfl⟩ ty37 rfl ?_
  refine SL.bin ⟨rfl, rfl, rfl, rfl⟩ rfl rfl Bin.ltI ?_
  refine SL.nx ?_
  refine SX.cond rfl (fun hc3 => ?_) (fun hc3 => ?_)
  · skip
    have hlt : i < m := by simpa using hc3
    have hmin : Nat.min i (m - i) ≤ m - i := Nat.min_le_right ..
    refine SX.skip ?_
    refine SQ.thn ?_
    refine SX.block ?_
    refine SX.drawI mix [] (Pl.of [(true, 0), (true, 1), (true, 2), (true, 3), (true, 4), (true, 5), (true, 6), (false, 7), (true, 8), (true, 9)]) (by kernel_rfl) ?_
    refine SL.mv ⟨rfl, rfl, rfl, rfl⟩ rfl ?_
    refine SL.mv ⟨rfl, rfl, rfl, rfl⟩ rfl ?_
    refine SL.mv ⟨rfl, rfl, rfl, rfl⟩ rfl ?_
    refine SL.slLR i ⟨rfl, rfl, rfl, rfl⟩ ty37 sz9 rfl rfl rfl (by omega) hlt ?_
    refine SL.mv ⟨rfl, rfl, rfl, rfl⟩ rfl ?_
    refine SL.mv ⟨rfl, rfl, rfl, rfl⟩ rfl ?_
    refine SL.slHR i ⟨rfl, rfl, rfl, rfl⟩ ty37 sz9 rfl rfl rfl (by omega) ?_
    refine SL.cpO 0 (List.replicate (Nat.min i (m - i)) (vS s)) ⟨rfl, rfl, rfl, rfl⟩ ty37 sz9 rfl rfl rfl (by simp) (fun w hw j u hu => ?_) (fun u hu => by rw [List.eq_of_mem_replicate hu]; rfl) (by have := hmin; simp [rp]; omega) trivial ?_
    · have hj : j < i := by
        have := (List.getElem?_eq_some_iff.1 hu).1
        have h2 : Nat.min i (m - i) ≤ i := Nat.min_le_left ..
        simp only [List.length_replicate] at this; omega
      have hu' : u = vS s := by
        have := List.mem_of_getElem? hu
        exact List.eq_of_mem_replicate this
      subst hu'
      exact cells_own (cs := List.replicate i (vS s)) 0 rfl (fun j u hj => by
        have hj' : j < i := by have := (List.getElem?_eq_some_iff.1 hj).1; simpa using this
        rw [Nat.zero_add, ← Array.getElem?_toList]
        show (List.replicate i (vS s) ++ _)[j]? = some u
        rw [List.getElem?_append_left (by simpa using hj')]
        exact hj) w hw j _ (by simp [hj])
    refine SL.bin ⟨rfl, rfl, rfl, rfl⟩ rfl rfl (Bin.addI (by omega) (by simp only [List.length_replicate]; omega)) ?_
    refine SL.asg ⟨rfl, rfl, rfl, rfl⟩ rfl ?_
    refine SL.nil ?_
    refine SQ.blk ?_
    have e1 : setL (rp m i s) (0 + i * 1) (List.replicate (Nat.min i (m - i)) (vS s)) = rp m (i + Nat.min i (m - i)) s := by rw [Nat.zero_add, Nat.mul_one]; exact rp_next hp.2
    simp only [List.set_cons_zero, e1, List.length_replicate]
    have h1 : 0 < Nat.min i (m - i) := by
      show 0 < min i (m - i)
      have := hp.1
      omega
    exact SQ.again (i + Nat.min i (m - i)) ⟨by omega, by omega⟩ (by omega) (by repeat' (first | exact trivial | refine And.intro rfl ?_)) (fun _ h => h)
  · skip
    have hlt : i = m := by have := hp.2; simp at hc3; omega
    subst hlt
    refine SX.exit ?_
    refine SQ.thnE ?_
    refine SQ.lpE ?_
    refine SQ.blkE ?_
    refine SQ.thn ?_
    refine SX.sr ?_
    refine SL.ownTn eS 1 (List.replicate i s) (by simp) (by simp [rp, List.flatMap_replicate]) (fun _ => rfl) hM ?_
    refine SL.mv ⟨rfl, rfl, rfl, rfl⟩ rfl ?_
    refine SL.asg ⟨rfl, rfl, rfl, rfl⟩ rfl ?_
    refine SL.nx ?_
    refine SX.ret ?_
    exact SQ.fret (res1 rfl rfl) (ret_of (M := [_]) ⟨_, rfl, rfl⟩ fun _ h => h.skip [])
end Go.Proofs.Ytddjneafgddlcaa

/- Wrappers of strings.Repeat and slices.Repeat as the printed walks want them. Condition: they yield. -/
namespace Go.Proofs.Ytddjneafgddlcaa
open Go
variable {K : Nat → Prop} {w0 : World} {H : List Chunk}
def rep0O (s : List UInt8) (n : Int) : Option (List UInt8) := if s = [0] ∧ 0 ≤ n ∧ n ≤ 8192 then some (List.replicate n.toNat 0) else none
theorem w_rep0 {p0 : List UInt8} {p1 : Int} {r : List UInt8} (h : rep0O p0 p1 = some r) : Con Try.prog K w0 19 [vS p0, vI p1] [] H (fun u M => u = vS r ∧ M = []) := by
  unfold rep0O at h
  split at h
  · rename_i hc
    obtain ⟨rfl, h0, h1⟩ := hc
    obtain rfl := Option.some.inj h
    have := c_Repeat0 (K := K) (w0 := w0) (H := H) p1.toNat (by omega)
    rwa [show ((p1.toNat : Nat) : Int) = p1 by omega] at this
  · cases h
def srepO (l : List (List UInt8)) (n : Int) : Option (List (List UInt8)) :=
  match l with
  | [s] => if 1 ≤ n ∧ n ≤ 1000000 then some (List.replicate n.toNat s) else none
  | _ => none
theorem w_srep {v0_ : Value} {p0 : List (List UInt8)} {p1 : Int} {r : List (List UInt8)} (h : srepO p0 p1 = some r) (hs0_ : SlOf K w0 eS 1 v0_ p0) : Con Try.prog K w0 20 [v0_, vI p1] [] H (fun u M => ∃ v0 : Value, u = v0 ∧ M = [rowT 9 1 v0 eS r]) := by
  unfold srepO at h
  split at h
  · split at h
    · rename_i hc
      obtain rfl := Option.some.inj h
      have := c_sRepeat (K := K) (w0 := w0) (H := H) p1.toNat (by omega) (by omega) hs0_
      rwa [show ((p1.toNat : Nat) : Int) = p1 by omega] at this
    · cases h
  · cases h
end Go.Proofs.Ytddjneafgddlcaa
