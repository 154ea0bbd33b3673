/- The texts S12, P1, P2, P0, P3, P4, P5, P6, P7, R0, S13, T0, C0, C1, A0, D0, D1, D2, D3, B0, B1, D4, one behind the other: each bears its own sentence. Conditions: as each says. -/
import Derived.Test.YtddjneafgddlcaaDoorVB1
import Derived.Test.YtddjneafgddlcaaDoorRows
import Derived.WalkKit
import Derived.ProofKit
import Derived.OpenShut
import Derived.Carry
import Derived.Deep.DeepHandedRow
import Derived.Deep.SlicePairs
import Derived.Lib.LaidTab
import Derived.Lib.SmallJoins
import Derived.Laws.StructEq
import Derived.Test.YtddjneafgddlcaaDoorChecked

/- The engine's arrays and a few more operators. Each under its own bounds. -/
namespace Go.Proofs.YtddjneafgddlcaaDoor
open Go

variable {P : Program} {ro : Option Nat} {K : Nat → Prop} {w0 : World} {N : Nat} {Q : Post} {D : List Nat} {l l' : Tm} {H H' Hs L : List Chunk} {ops : Array Oper} {items : Its}
variable {tk : Bool} {o : Oper} {t : Nat} {v : Value} {x y z : Operand}

theorem SL.negI {a : Int} {ty : TypeId} (ho : At ops N l o t (.unOp .neg ty x)) (hx : evl l x = some (vI a)) (h1 : -9223372036854775807 ≤ a) (h2 : a ≤ 9223372036854775807) (h : SL P ro K w0 N ops Hs items Q D ((t, vI (-a)) :: l) H) : SL P ro K w0 N ops Hs (.cons (tk, o) items) Q D l H :=
  SL.val ho rfl (fun a' w ha _ => by
    have hw : IntKind.i64.wrap (0 - a) = -a := by
      rw [wrap_of (k := .i64) (by show (-9223372036854775808 : Int) ≤ _; omega) (by show _ ≤ (9223372036854775807 : Int); omega)]
      omega
    simp only [execOp, ho.op, ha.eval hx, Op.unary, Op.intArith, hw, Sem.run_bind, Sem.run_pure, Result.andThen_ok]) h
theorem SL.not32 {a : UInt32} {ty : TypeId} (ho : At ops N l o t (.unOp .xor ty x)) (hx : evl l x = some (vU32 a)) (h : SL P ro K w0 N ops Hs items Q D ((t, vU32 (4294967295 ^^^ a)) :: l) H) : SL P ro K w0 N ops Hs (.cons (tk, o) items) Q D l H :=
  SL.val ho rfl (fun a' w ha _ => by
    have h1 := (Bin.xor32 (a := 4294967295) (b := a) P w 0 (.tmp 0) (.tmp 0)).2
    simp only [binOp] at h1
    have hm : (if IntKind.u32.signed = true then (-1 : Int) else IntKind.u32.max) = ((4294967295 : UInt32).toNat : Int) := by decide
    simp only [execOp, ho.op, ha.eval hx, Op.unary, Sem.run_bind, hm]
    simp only [ne_eq, not_true_eq_false, if_false] at h1
    rw [h1]
    rfl) h

/-! ### Arrays of one-cell elements -/
def arr {α : Type} (f : α → Value) (xs : List α) : Array Value := (xs.map f).toArray
theorem arr_get {α : Type} {f : α → Value} {xs : List α} {i : Nat} {a : α} (h : xs[i]? = some a) : (arr f xs)[i]? = some (f a) := by simp [arr, h]
theorem arr_size {α : Type} (f : α → Value) (xs : List α) : (arr f xs).size = xs.length := by simp [arr]
theorem arr_set {α : Type} (f : α → Value) (xs : List α) (i : Nat) (a : α) : setL (arr f xs) i [f a] = arr f (xs.set i a) := by
  simp only [setL, arr]
  apply Array.ext'
  simp [List.map_set]
theorem arr_toList {α : Type} (f : α → Value) (xs : List α) : (arr f xs).toList = xs.map f := by simp [arr]
/-- an element of an array in a register -/
theorem SL.ixA {n i : Nat} {k : IntKind} {j : Int} {ty e : TypeId} {cs : Array Value} (ho : At ops N l o t (.index ty x y)) (hty : P.underlying ty = some (.array n e)) (hs : scl P e = true) (hx : evl l x = some (.agg cs)) (hy : evl l y = some (.int k j))
    (hj : j = (i : Int)) (hlt : i < n) (hc : cs[i]? = some v) (h : SL P ro K w0 N ops Hs items Q D ((t, v) :: l) H) : SL P ro K w0 N ops Hs (.cons (tk, o) items) Q D l H :=
  SL.val ho rfl (fun a w ha _ => by
    subst hj
    obtain ⟨h1, h2⟩ := scl_spec hs w
    have h3 : (isAgg e).run P w = .ok false w := h1
    simp only [execOp, ho.op, Instr.index, Sem.run_bind, ha.eval hx, ha.eval hy, asIntOf, Sem.run_pure, Result.andThen_ok, run_underlying hty]
    have h4 : (0 : Int) ≤ (i : Int) ∧ (i : Int) < (n : Int) := by omega
    simp only [if_pos h4, Sem.run_bind, run_sizeOf h2, Result.andThen_ok, Int.toNat_natCast, Nat.mul_one]
    simp [part, h3, hc]) h
theorem arr_app {α : Type} {f : α → Value} {xs ys : List α} {j : Nat} (d : α) (h : j < xs.length) : (arr f (xs ++ ys))[j]? = some (f (xs.getD j d)) := by
  refine arr_get ?_
  rw [List.getElem?_append_left h, List.getD_eq_getElem?_getD, List.getElem?_eq_getElem h]
  rfl
theorem fill_set {α : Type} (xs : List α) (z x : α) (n i : Nat) (h : xs.length = i) (hn : i < n) : (xs ++ List.replicate (n - i) z).set i x = (xs ++ [x]) ++ List.replicate (n - (i + 1)) z := by
  subst h
  rw [List.set_append_right _ _ (Nat.le_refl _), Nat.sub_self]
  have e : n - xs.length = (n - (xs.length + 1)) + 1 := by omega
  rw [e, List.replicate_succ, List.set_cons_zero, List.append_assoc]
  rfl
/-- an element's address, where the elements have one cell -/
theorem SL.iaAp {b n m : Nat} {k : IntKind} {i : Int} {ty e : TypeId} (ho : At ops N l o t (.indexAddr ty x y)) (hty : P.underlying ty = some (.array m e)) (hsz : tsz P e = some 1) (hx : evl l x = some (vP b 0)) (hy : evl l y = some (.int k i))
    (hi : i = (n : Int)) (hlt : n < m) (h : SL P ro K w0 N ops Hs items Q D ((t, vP b n) :: l) H) : SL P ro K w0 N ops Hs (.cons (tk, o) items) Q D l H :=
  SL.iaA ho hty hsz hx hy hi hlt (by rw [Nat.zero_add, Nat.mul_one]; exact h)
theorem SL.iap {b n len cap : Nat} {k : IntKind} {i : Int} {ty e : TypeId} (ho : At ops N l o t (.indexAddr ty x y)) (hty : P.underlying ty = some (.slice e)) (hsz : tsz P e = some 1) (hx : evl l x = some (.slice (some ⟨b, 0, none⟩) len cap)) (hy : evl l y = some (.int k i))
    (hi : i = (n : Int)) (hlt : n < len) (h : SL P ro K w0 N ops Hs items Q D ((t, vP b n) :: l) H) : SL P ro K w0 N ops Hs (.cons (tk, o) items) Q D l H :=
  SL.ia ho hty hsz hx hy hi hlt (by rw [Nat.zero_add, Nat.mul_one]; exact h)
/-- a store into an array of one-cell elements -/
theorem SL.stA {α : Type} {f : α → Value} {a : α} {xs : List α} {b k : Nat} {e ty : TypeId} (i : Nat) (ho : At0 ops l o (.store ty x y)) (hx : evl l x = some (vP b k)) (hy : evl l y = some (f a)) (hi : H[i]? = some (own b (.cells (arr f xs) e)))
    (hn : tsz P ty = some 1) (hc : (f a).cells = #[f a]) (h1 : (f a).oneCell' = true) (hk : k < xs.length)
    (hs : SubI Hs (H.set i (own b (.cells (arr f (xs.set k a)) e)))) (h : SL P ro K w0 N ops Hs items Q D l (H.set i (own b (.cells (arr f (xs.set k a)) e)))) : SL P ro K w0 N ops Hs (.cons (false, o) items) Q D l H := by
  have e1 : setL (arr f xs) k (f a).cells.toList = arr f (xs.set k a) := by rw [hc]; exact arr_set f xs k a
  refine SL.stP i ho hx hy hi hn (by rw [hc]; rfl) (by rw [hc]; simp [h1]) (by rw [arr_size]; omega) ?_ ?_
  · rw [e1]; exact hs
  · rw [e1]; exact h
theorem setL_full {c : Array Value} {vs : List Value} (h : c.size = vs.length) : setL c 0 vs = vs.toArray := by
  apply Array.ext'
  rw [setL_toList _ _ _ (by omega)]
  have : c.toList.drop (0 + vs.length) = [] := List.drop_eq_nil_of_le (by simp; omega)
  rw [this]
  simp
/-- a store of a whole array or struct -/
theorem SL.stF {b n : Nat} {c c' : Array Value} {e ty : TypeId} (i : Nat) (ho : At0 ops l o (.store ty x y)) (hx : evl l x = some (vP b 0)) (hy : evl l y = some (.agg c')) (hi : H[i]? = some (own b (.cells c e)))
    (hn : tsz P ty = some n) (hv : c'.size = n) (hc : c.size = n) (h1 : ∀ u ∈ c'.toList, u.oneCell' = true)
    (hs : SubI Hs (H.set i (own b (.cells c' e)))) (h : SL P ro K w0 N ops Hs items Q D l (H.set i (own b (.cells c' e)))) : SL P ro K w0 N ops Hs (.cons (false, o) items) Q D l H := by
  have e1 : setL c 0 (Value.agg c').cells.toList = c' := by
    have := setL_full (c := c) (vs := c'.toList) (by simp; omega)
    exact this
  refine SL.stP i ho hx hy hi hn hv (List.all_eq_true.2 h1) (by omega) ?_ ?_
  · rw [e1]; exact hs
  · rw [e1]; exact h
theorem arr_one {α : Type} {f : α → Value} (hf : ∀ a, (f a).oneCell' = true) (xs : List α) : ∀ u ∈ (arr f xs).toList, u.oneCell' = true := by
  intro u hu
  rw [arr_toList] at hu
  obtain ⟨a, _, rfl⟩ := List.mem_map.1 hu
  exact hf a

/-! ### .. with other cells behind them -/
def arrT {α : Type} (f : α → Value) (xs : List α) (tl : List Value) : Array Value := (xs.map f ++ tl).toArray
theorem arrT_app {α : Type} {f : α → Value} {xs : List α} {tl : List Value} {j : Nat} (d : α) (h : j < xs.length) : (arrT f xs tl)[j]? = some (f (xs.getD j d)) := by
  simp only [arrT, List.getElem?_toArray]
  rw [List.getElem?_append_left (by simpa using h), List.getElem?_map, List.getD_eq_getElem?_getD, List.getElem?_eq_getElem h]
  rfl
theorem arrT_set {α : Type} (f : α → Value) (xs : List α) (tl : List Value) (i : Nat) (a : α) (h : i < xs.length) : setL (arrT f xs tl) i [f a] = arrT f (xs.set i a) tl := by
  simp only [setL, arrT]
  apply Array.ext'
  simp only [Array.toList_setIfInBounds]
  rw [List.set_append_left _ _ (by simpa using h), List.map_set]
theorem SL.stT {α : Type} {f : α → Value} {a : α} {xs : List α} {tl : List Value} {b k : Nat} {e ty : TypeId} (i : Nat) (ho : At0 ops l o (.store ty x y)) (hx : evl l x = some (vP b k)) (hy : evl l y = some (f a)) (hi : H[i]? = some (own b (.cells (arrT f xs tl) e)))
    (hn : tsz P ty = some 1) (hc : (f a).cells = #[f a]) (h1 : (f a).oneCell' = true) (hk : k < xs.length)
    (hs : SubI Hs (H.set i (own b (.cells (arrT f (xs.set k a) tl) e)))) (h : SL P ro K w0 N ops Hs items Q D l (H.set i (own b (.cells (arrT f (xs.set k a) tl) e)))) : SL P ro K w0 N ops Hs (.cons (false, o) items) Q D l H := by
  have e1 : setL (arrT f xs tl) k (f a).cells.toList = arrT f (xs.set k a) tl := by rw [hc]; exact arrT_set f xs tl k a hk
  refine SL.stP i ho hx hy hi hn (by rw [hc]; rfl) (by rw [hc]; simp [h1]) (by simp [arrT]; omega) ?_ ?_
  · rw [e1]; exact hs
  · rw [e1]; exact h
/-- a table of the program's, in the memory that is kept -/
structure Tab (K : Nat → Prop) (w0 : World) (g : Nat) (T : List UInt32) : Prop where
  keep : K g
  cell : ∀ i x, T[i]? = some x → w0.cell? ⟨g, i, none⟩ = some (vU32 x)
theorem Tab.keeps {g : Nat} {T : List UInt32} {K' : Nat → Prop} {w1 : World} (h : Tab K w0 g T) (hk : Keeps K w0 K' w1) : Tab K' w1 g T :=
  ⟨(hk g h.keep).1, fun i x hx => by rw [World.cell?_of_block (w := w0) (hk g h.keep).2]; exact h.cell i x hx⟩
theorem Tab.load {g n : Nat} {T : List UInt32} (h : Tab K w0 g T) (hn : n < T.length) : ∀ w, HpS K w0 L w → w.cell? ⟨g, n, none⟩ = some (vU32 (T.getD n 0)) :=
  cell_base (ad := ⟨g, n, none⟩) h.keep (h.cell n _ (by rw [List.getD_eq_getElem?_getD, List.getElem?_eq_getElem hn]; rfl))
/-- an array's literal, all of whose one-cell elements are given -/
theorem SL.bldU {ty e : TypeId} {n : Nat} {parts : Array (Nat × Operand)} {zv : Value} (vs : List Value) (ho : At ops N l o t (.build ty parts)) (hty : P.underlying ty = some (.array n e)) (hsz : tsz P e = some 1) (hz : zer P ty = some zv) (hzs : zv.cells.size = n)
    (hv : evs l (parts.toList.map (·.2)) vs) (hi : parts.toList.map (·.1) = List.range' 0 n) (hlen : vs.length = n) (h1 : ∀ v ∈ vs, v.cells = #[v]) (h : SL P ro K w0 N ops Hs items Q D ((t, .agg vs.toArray) :: l) H) : SL P ro K w0 N ops Hs (.cons (tk, o) items) Q D l H :=
  SL.val ho rfl (fun a w ha _ => by
    have hev := evs.eval ha hv
    have hp : (parts.map fun (i, x) => (i, a.eval x)).toList = (List.range' 0 vs.length).zip vs := by
      rw [Array.toList_map, zip_parts, hev, hi, hlen]
    have hfm : (vs.flatMap fun v => v.cells.toList) = vs := by
      clear hlen hv hev hp h
      induction vs with
      | nil => rfl
      | cons u us ih => rw [List.flatMap_cons, ih (fun v hv => h1 v (List.mem_cons_of_mem _ hv)), h1 u (List.mem_cons_self ..)]; rfl
    have hf := fill_full 1 vs 0 zv.cells (fun v hv => by rw [h1 v hv]; rfl) (by omega)
    rw [hfm, Nat.zero_mul, setL_full (by omega)] at hf
    simp only [execOp, ho.op, Sem.run_bind, Instr.build, run_zero hz, Result.andThen_ok, run_underlying hty, run_sizeOf hsz, hp, hf, Sem.run_pure]) h

/-! ### Signed shifts and unions -/
theorem Bin.shlI {a : Int} {k : IntKind} {n : Nat} (h0 : -9223372036854775808 ≤ a * 2 ^ (min n 64)) (h1 : a * 2 ^ (min n 64) ≤ 9223372036854775807) : Bin .shl (vI a) (.int k (n : Int)) (vI (a * 2 ^ (min n 64))) := fun P w ty x y => ⟨eqGuard_int .., by
  have hn : ¬ ((n : Int) < 0) := by omega
  have h := wrap_of (k := .i64) h0 h1
  simp [binOp, Op.shift, hn, IntKind.bits, h]⟩
theorem Bin.orI {a b : Nat} (ha : a < 9223372036854775808) (hb : b < 9223372036854775808) : Bin .or (vI a) (vI b) (vI (a ||| b : Nat)) := fun P w ty x y => ⟨eqGuard_int .., by
  have e1 : (BitVec.ofInt IntKind.i64.bits ((a : Nat) : Int)).toNat = a := by rw [ofInt_nat]; simp [IntKind.bits]; omega
  have e2 : (BitVec.ofInt IntKind.i64.bits ((b : Nat) : Int)).toNat = b := by rw [ofInt_nat]; simp [IntKind.bits]; omega
  have hlt : a ||| b < 2 ^ 63 := Nat.or_lt_two_pow ha hb
  have h : IntKind.i64.wrap (((BitVec.ofInt IntKind.i64.bits (a : Int) ||| BitVec.ofInt IntKind.i64.bits (b : Int)).toNat : Nat) : Int) = ((a ||| b : Nat) : Int) := by
    rw [BitVec.toNat_or, e1, e2]
    exact wrap_of (k := .i64) (by show (-9223372036854775808 : Int) ≤ _; omega) (by show _ ≤ (9223372036854775807 : Int); omega)
  simp only [binOp, Op.intBits, ne_eq, not_true_eq_false, if_false]
  exact congrArg (fun z => Result.ok (Value.int .i64 z) w) h⟩
/-- an element of an array of arrays (or structs) in a register -/
theorem SL.ixAA {n i sz : Nat} {k : IntKind} {j : Int} {ty e : TypeId} {cs c' : Array Value} (ho : At ops N l o t (.index ty x y)) (hty : P.underlying ty = some (.array n e)) (hs : agz P e = some sz) (hx : evl l x = some (.agg cs)) (hy : evl l y = some (.int k j))
    (hj : j = (i : Int)) (hlt : i < n) (hc : cs.extract (i * sz) (i * sz + sz) = c') (h : SL P ro K w0 N ops Hs items Q D ((t, .agg c') :: l) H) : SL P ro K w0 N ops Hs (.cons (tk, o) items) Q D l H :=
  SL.val ho rfl (fun a w ha _ => by
    subst hj
    obtain ⟨h1, h2⟩ := agz_spec hs w
    have h3 : (isAgg e).run P w = .ok true w := h1
    simp only [execOp, ho.op, Instr.index, Sem.run_bind, ha.eval hx, ha.eval hy, asIntOf, Sem.run_pure, Result.andThen_ok, run_underlying hty]
    have h4 : (0 : Int) ≤ (i : Int) ∧ (i : Int) < (n : Int) := by omega
    simp only [if_pos h4, Sem.run_bind, run_sizeOf h2, Result.andThen_ok, Int.toNat_natCast]
    simp [part, h3, run_sizeOf h2, hc]) h
theorem get_getD {α : Type} {xs : List α} {n : Nat} (d : α) (h : n < xs.length) : xs[n]? = some (xs.getD n d) := by
  rw [List.getD_eq_getElem?_getD, List.getElem?_eq_getElem h]; rfl
/-- a slice of a whole array -/
theorem SL.slA {b n sz : Nat} {ty e : TypeId} (ho : At ops N l o t (.slice ty x none none none)) (hty : P.underlying ty = some (.array n e)) (hsz : tsz P e = some sz) (hx : evl l x = some (vP b 0)) (_h0 : n ≠ 0)
    (h : SL P ro K w0 N ops Hs items Q D ((t, .slice (some ⟨b, 0, none⟩) n n) :: l) H) : SL P ro K w0 N ops Hs (.cons (tk, o) items) Q D l H :=
  SL.val ho rfl (fun a w ha _ => by
    simp only [execOp, ho.op, Instr.sliceAt, Option.map]
    simp [ha.eval hx, run_underlying hty, run_sizeOf hsz, Instr.sliceBounds, Instr.sureAddr, Addr.add_mk]) h
/-- a copy of one array of words over another -/
theorem SL.cpA {α : Type} {f : α → Value} {xs ys : List α} {b b' n : Nat} {ty e e' : TypeId} {cc cc' : Nat} (i i' : Nat) (ho : At ops N l o t (.call { callee := .builtin .copy, args := #[x, y], argTypes := #[ty, ty] })) (hty : P.underlying ty = some (.slice e)) (hsz : tsz P e = some 1)
    (hx : evl l x = some (.slice (some ⟨b, 0, none⟩) n cc)) (hy : evl l y = some (.slice (some ⟨b', 0, none⟩) n cc')) (hi : H[i]? = some (own b (.cells (arr f xs) e'))) (hi' : H[i']? = some (own b' (.cells (arr f ys) e'))) (hxs : xs.length = n) (hys : ys.length = n) (h1 : ∀ a, (f a).oneCell' = true)
    (hs : SubI Hs (H.set i (own b (.cells (arr f ys) e')))) (h : SL P ro K w0 N ops Hs items Q D ((t, vI n) :: l) (H.set i (own b (.cells (arr f ys) e')))) : SL P ro K w0 N ops Hs (.cons (false, o) items) Q D l H :=
  SL.step (fun _ : Unit => vI n) (fun _ => H.set i (own b (.cells (arr f ys) e'))) ho rfl (fun a w ha hw => by
    have hg : w.heap[b]? = some (.cells (arr f xs) e' (0, 0)) := hw.holds _ (List.mem_append_left _ (List.mem_of_getElem? hi))
    have hg' : w.heap[b']? = some (.cells (arr f ys) e' (0, 0)) := hw.holds _ (List.mem_append_left _ (List.mem_of_getElem? hi'))
    have hr := run_copy_row (P := P) w ty ty o.type e b 0 n cc ⟨b', 0, none⟩ n cc' (arr f xs) e' (ys.map f) hty hsz hg (by simp [hys]) (fun j v hj => by
      rw [Addr.add_mk]
      simp only [World.cell?, hg', Nat.zero_add, arr]
      simpa using hj) (by simp [arr, hxs, hys]) (fun v hv => by obtain ⟨z, _, rfl⟩ := List.mem_map.1 hv; exact h1 z)
    have hset := hw.putAt (o' := .cells (arr f ys) e') i hi
    have e4 : w.setRow b ((arr f xs).toList.take 0 ++ ys.map f ++ (arr f xs).toList.drop (0 + (ys.map f).length)).toArray = w.putObj b (.cells (arr f ys) e') := by
      have e5 : ((arr f xs).toList.take 0 ++ ys.map f ++ (arr f xs).toList.drop (0 + (ys.map f).length)).toArray = arr f ys := by
        apply Array.ext'
        simp [arr, hxs, hys]
      rw [e5]
      unfold World.setRow World.putObj
      congr 1
      obtain ⟨hlt, hget⟩ := Array.getElem?_eq_some_iff.1 hg
      apply Array.ext_getElem?
      intro k
      rw [Array.getElem?_modify, Array.getElem?_setIfInBounds]
      by_cases hk : b = k
      · subst hk
        simp [hlt, hget]
      · simp [hk]
    rw [e4] at hr
    refine ⟨(), w.putObj b (.cells (arr f ys) e'), ?_, hset⟩
    unfold execOp
    simp only [ho.op, resolve, invoke, builtin, Sem.run_bind, Sem.run_pure, Result.andThen_ok, List.map_toArray, List.map_cons, List.map_nil, ha.eval hx, ha.eval hy, hr]
    simp [goInt, hys]) (fun _ => hs) (fun _ => h)
theorem Con.mono {f : FuncId} {args : List Value} {Hin : List Chunk} {post post' : Value → List Chunk → Prop} (h : Con P K w0 f args Hin H post) (hp : ∀ v M, post v M → post' v M) : Con P K w0 f args Hin H post' := by
  intro w hw
  refine (h w hw).mono ?_
  rintro e w' ⟨v, M, rfl, hq, hw'⟩
  exact ⟨v, M, rfl, hp v M hq, hw'⟩
end Go.Proofs.YtddjneafgddlcaaDoor

/- Plain SHA-256, over a table of words that is left open: no program in sight. No condition. -/
namespace Go.Proofs.YtddjneafgddlcaaDoor
open Go

/-- a word turned right -/
def rotr (x : UInt32) (n : Nat) : UInt32 := shr32 x n ||| shl32 x (32 - n)
def byteAt (s : List UInt8) (i : Nat) : UInt32 := (s.getD i 0).toUInt32
def wordBE (s : List UInt8) (i : Nat) : UInt32 := shl32 (byteAt s i) 24 ||| shl32 (byteAt s (i + 1)) 16 ||| shl32 (byteAt s (i + 2)) 8 ||| byteAt s (i + 3)
def sig0 (x : UInt32) : UInt32 := rotr x 7 ^^^ rotr x 18 ^^^ shr32 x 3
def sig1 (x : UInt32) : UInt32 := rotr x 17 ^^^ rotr x 19 ^^^ shr32 x 10
/-- the next word of a part's sixty-four -/
def nextW (s : List UInt8) (ws : List UInt32) : UInt32 :=
  if ws.length < 16 then wordBE s (4 * ws.length)
  else ws.getD (ws.length - 16) 0 + ws.getD (ws.length - 7) 0 + sig0 (ws.getD (ws.length - 15) 0) + sig1 (ws.getD (ws.length - 2) 0)
def spreadN (s : List UInt8) : Nat → List UInt32
  | 0 => []
  | n + 1 => spreadN s n ++ [nextW s (spreadN s n)]
def spreadA (s : List UInt8) : List UInt32 := spreadN s 64
structure St8 where
  a : UInt32
  b : UInt32
  c : UInt32
  d : UInt32
  e : UInt32
  f : UInt32
  g : UInt32
  i : UInt32
def St8.list (s : St8) : List UInt32 := [s.a, s.b, s.c, s.d, s.e, s.f, s.g, s.i]
def St8.of (l : List UInt32) : St8 := ⟨l.getD 0 0, l.getD 1 0, l.getD 2 0, l.getD 3 0, l.getD 4 0, l.getD 5 0, l.getD 6 0, l.getD 7 0⟩
def St8.t1 (s : St8) (k w : UInt32) : UInt32 := s.i + (rotr s.e 6 ^^^ rotr s.e 11 ^^^ rotr s.e 25) + (s.e &&& s.f ^^^ (4294967295 ^^^ s.e) &&& s.g) + k + w
def St8.t2 (s : St8) : UInt32 := (rotr s.a 2 ^^^ rotr s.a 13 ^^^ rotr s.a 22) + (s.a &&& s.b ^^^ s.a &&& s.c ^^^ s.b &&& s.c)
def St8.step (s : St8) (k w : UInt32) : St8 := ⟨s.t1 k w + s.t2, s.a, s.b, s.c, s.d + s.t1 k w, s.e, s.f, s.g⟩
def roundsN (T ws : List UInt32) (h : List UInt32) : Nat → St8
  | 0 => St8.of h
  | n + 1 => (roundsN T ws h n).step (T.getD n 0) (ws.getD n 0)
/-- a part of sixty-four bytes, laid to eight words -/
def laysL (T : List UInt32) (h : List UInt32) (s : List UInt8) : List UInt32 := List.zipWith (· + ·) h (roundsN T (spreadA s) h 64).list
def laysA (T : List UInt32) (h : St8) (s : List UInt8) : St8 := St8.of (laysL T h.list s)
/-- all whole parts are laid; what is left -/
def absorb (T : List UInt32) (h : St8) (s : List UInt8) : St8 × List UInt8 :=
  if s.length < 64 then (h, s) else absorb T (laysA T h (s.take 64)) (s.drop 64)
termination_by s.length
decreasing_by simp; omega
def beBytes (w : UInt32) : List UInt8 := [(shr32 w 24).toUInt8, (shr32 w 16).toUInt8, (shr32 w 8).toUInt8, w.toUInt8]
def be64 (n : UInt64) : List UInt8 := [(shr64 n 56).toUInt8, (shr64 n 48).toUInt8, (shr64 n 40).toUInt8, (shr64 n 32).toUInt8, (shr64 n 24).toUInt8, (shr64 n 16).toUInt8, (shr64 n 8).toUInt8, (shr64 n 0).toUInt8]
def padZ (n : Nat) : Nat := (119 - n % 64) % 64
def tailA (n : Nat) : List UInt8 := [128] ++ List.replicate (padZ n) 0 ++ be64 (toU64 n * 8)
def firstA : St8 := ⟨1779033703, 3144134277, 1013904242, 2773480762, 1359893119, 2600822924, 528734635, 1541459225⟩
def sumA (T : List UInt32) (s : List UInt8) : List UInt8 := (absorb T firstA (s ++ tailA s.length)).1.list.flatMap beBytes

/-- the first k words summed -/
def mixN (h f : List UInt32) (k : Nat) : List UInt32 := (List.zipWith (· + ·) h f).take k ++ h.drop k
theorem mixN_length (h f : List UInt32) (hl : f.length = h.length) (k : Nat) : (mixN h f k).length = h.length := by
  simp [mixN, hl]; omega
theorem mixN_get (h f : List UInt32) (hl : f.length = h.length) (k : Nat) (hk : k < h.length) : (mixN h f k).getD k 0 = h.getD k 0 := by
  have e : ((List.zipWith (· + ·) h f).take k).length = k := by simp [hl]; omega
  simp only [mixN, List.getD_eq_getElem?_getD]
  rw [List.getElem?_append_right (by omega), e, Nat.sub_self, List.getElem?_drop]
  rfl
theorem mixN_set (h f : List UInt32) (hl : f.length = h.length) (k : Nat) (hk : k < h.length) : (mixN h f k).set k (h.getD k 0 + f.getD k 0) = mixN h f (k + 1) := by
  have e : ((List.zipWith (· + ·) h f).take k).length = k := by simp [hl]; omega
  have e1 : h.drop k = h[k] :: h.drop (k + 1) := List.drop_eq_getElem_cons hk
  have e2 : (List.zipWith (· + ·) h f).take (k + 1) = (List.zipWith (· + ·) h f).take k ++ [h[k] + f[k]'(by omega)] := by
    rw [List.take_add_one, List.getElem?_eq_getElem (by simp [hl]; omega)]
    simp
  simp only [mixN]
  rw [List.set_append_right _ _ (by omega), e, Nat.sub_self, e1, List.set_cons_zero, e2, List.append_assoc]
  simp [List.getD_eq_getElem?_getD, hk, hl]
theorem mixN_full (h f : List UInt32) (hl : f.length = h.length) : mixN h f h.length = List.zipWith (· + ·) h f := by
  simp only [mixN, List.drop_length, List.append_nil]
  exact List.take_of_length_le (by simp [hl])
theorem spreadN_length (s : List UInt8) : ∀ n, (spreadN s n).length = n
  | 0 => rfl
  | n + 1 => by simp [spreadN, spreadN_length s n]
theorem St8.of_list {l : List UInt32} (h : l.length = 8) : (St8.of l).list = l := by
  match l, h with
  | [a, b, c, d, e, f, g, i], _ => rfl
theorem laysL_length {T h : List UInt32} {s : List UInt8} (hh : h.length = 8) : (laysL T h s).length = 8 := by simp [laysL, hh, St8.list]
theorem absorb_short {T : List UInt32} {h : St8} {s : List UInt8} (hs : s.length < 64) : absorb T h s = (h, s) := by rw [absorb, if_pos hs]
theorem absorb_part {T : List UInt32} {h : St8} {p s : List UInt8} (hp : p.length = 64) : absorb T h (p ++ s) = absorb T (laysA T h p) s := by
  rw [absorb, if_neg (by simp; omega)]
  have h1 : (p ++ s).take 64 = p := by rw [← hp]; exact List.take_left
  have h2 : (p ++ s).drop 64 = s := by rw [← hp]; exact List.drop_left
  rw [h1, h2]
/-- the first j parts are laid -/
def partsN (T : List UInt32) (h : St8) (s : List UInt8) : Nat → St8
  | 0 => h
  | j + 1 => laysA T (partsN T h s j) ((s.drop (64 * j)).take 64)
theorem absorb_from (T : List UInt32) (h : St8) (s : List UInt8) : ∀ j, 64 * j ≤ s.length → absorb T h s = absorb T (partsN T h s j) (s.drop (64 * j))
  | 0, _ => by simp [partsN]
  | j + 1, hj => by
    rw [absorb_from T h s j (by omega)]
    have e : s.drop (64 * j) = (s.drop (64 * j)).take 64 ++ s.drop (64 * (j + 1)) := by
      have : s.drop (64 * (j + 1)) = (s.drop (64 * j)).drop 64 := by rw [List.drop_drop]; congr 1
      rw [this, List.take_append_drop]
    have h2 := absorb_part (T := T) (h := partsN T h s j) (p := (s.drop (64 * j)).take 64) (s := s.drop (64 * (j + 1))) (by simp; omega)
    rw [← e] at h2
    rw [h2]
    rfl
theorem absorb_parts (T : List UInt32) (h : St8) (s : List UInt8) : absorb T h s = (partsN T h s (s.length / 64), s.drop (64 * (s.length / 64))) := by
  rw [absorb_from T h s (s.length / 64) (by omega)]
  exact absorb_short (by simp; omega)
theorem absorb_rest (T : List UInt32) (h : St8) (s : List UInt8) : (absorb T h s).2.length < 64 := by
  rw [absorb_parts]
  simp
  omega
theorem absorb_append (T : List UInt32) (h : St8) (s t : List UInt8) : absorb T h (s ++ t) = absorb T (absorb T h s).1 ((absorb T h s).2 ++ t) := by
  have h1 := absorb_from T h (s ++ t) (s.length / 64) (by simp; omega)
  rw [h1, absorb_parts T h s]
  have e : (s ++ t).drop (64 * (s.length / 64)) = s.drop (64 * (s.length / 64)) ++ t := by
    rw [List.drop_append_of_le_length (by omega)]
  have e2 : ∀ j, 64 * j ≤ s.length → partsN T h (s ++ t) j = partsN T h s j := by
    intro j
    induction j with
    | zero => intro _; rfl
    | succ j ih =>
      intro hj
      simp only [partsN]
      rw [ih (by omega), List.drop_append_of_le_length (by omega), List.take_append_of_le_length (by simp; omega)]
  rw [e, e2 _ (by omega)]
theorem tail_whole (s : List UInt8) (n : Nat) (hn : s.length = n % 64) : (s ++ tailA n).length % 64 = 0 := by
  simp [tailA, padZ, be64]; omega
/-- where each part ends, and the part -/
def partsA (s : List UInt8) : List (Nat × List UInt8) := (List.range (s.length / 64)).map fun j => (64 * (j + 1), (s.drop (64 * j)).take 64)
theorem partsA_length (s : List UInt8) : (partsA s).length = s.length / 64 := by simp [partsA]
theorem partsA_get (s : List UInt8) (j : Nat) (h : j < s.length / 64) : (partsA s)[j]? = some (64 * (j + 1), (s.drop (64 * j)).take 64) := by simp [partsA, h]
/-- the cells of one that sums -/
def encS (s : List UInt8) : List Value := [vS s]
def sumC (h : St8) (rest : List UInt8) (n : Int) : Array Value := #[vU32 h.a, vU32 h.b, vU32 h.c, vU32 h.d, vU32 h.e, vU32 h.f, vU32 h.g, vU32 h.i, vS rest, vI n]
end Go.Proofs.YtddjneafgddlcaaDoor

/- Plain HMAC over the plain sum, and the first text that a key expands to. No program in sight. No condition. -/
namespace Go.Proofs.YtddjneafgddlcaaDoor
open Go

theorem sumA_length (T : List UInt32) (s : List UInt8) : (sumA T s).length = 32 := by simp [sumA, St8.list, beBytes]
/-- a key's bytes: the key, or its sum where it is long -/
def macKeyOf (T : List UInt32) (key : List UInt8) : List UInt8 := if 64 < key.length then sumA T key else key
theorem macKeyOf_length (T : List UInt32) (key : List UInt8) : (macKeyOf T key).length ≤ 64 := by
  unfold macKeyOf
  split
  · rw [sumA_length]; omega
  · omega
def partA (T : List UInt32) (key : List UInt8) (c : UInt8) : List UInt8 := (List.range 64).map fun i => (macKeyOf T key).getD i 0 ^^^ c
theorem partA_length (T : List UInt32) (key : List UInt8) (c : UInt8) : (partA T key c).length = 64 := by simp [partA]
def macA (T : List UInt32) (key m : List UInt8) : List UInt8 := sumA T (partA T key 92 ++ sumA T (partA T key 54 ++ m))
theorem macA_length (T : List UInt32) (key m : List UInt8) : (macA T key m).length = 32 := sumA_length T _
def expN (T : List UInt32) (key label : List UInt8) : Nat → List UInt8
  | 0 => []
  | i + 1 => macA T key (expN T key label i ++ label ++ [toU8 ((i + 1 : Nat) : Int)])
def expA (T : List UInt32) (key label : List UInt8) : List (List UInt8) := (List.range 255).map fun i => expN T key label (i + 1)
theorem expA_length (T : List UInt32) (key label : List UInt8) : (expA T key label).length = 255 := by simp [expA]
theorem expA_get (T : List UInt32) (key label : List UInt8) (i : Nat) (h : i < 255) : (expA T key label)[i]? = some (expN T key label (i + 1)) := by simp [expA, h]
/-- the first thirty-two bytes that a key expands to -/
def exp32 (T : List UInt32) (key label : List UInt8) : List UInt8 := macA T key (label ++ [1])
theorem expN_one (T : List UInt32) (key label : List UInt8) : expN T key label 1 = exp32 T key label := by
  simp only [expN, exp32, List.nil_append]
  rfl
theorem expN_length (T : List UInt32) (key label : List UInt8) : ∀ i, (expN T key label i).length ≤ 32
  | 0 => by simp [expN]
  | i + 1 => by rw [expN, macA_length]; omega

theorem or_zero8 (x y : UInt8) : x ||| y = 0 ↔ x = 0 ∧ y = 0 := by
  rw [← UInt8.toBitVec_inj, ← UInt8.toBitVec_inj, ← UInt8.toBitVec_inj]
  exact BitVec.or_eq_zero_iff
theorem xor_zero8 (x y : UInt8) : x ^^^ y = 0 ↔ x = y := by
  rw [← UInt8.toBitVec_inj, ← UInt8.toBitVec_inj]
  exact BitVec.xor_eq_zero_iff
end Go.Proofs.YtddjneafgddlcaaDoor

/- Plain lists of keys: what a ring is, what is found in it. No program in sight. No condition. -/
namespace Go.Proofs.YtddjneafgddlcaaDoor
open Go

structure KeyA where
  gen : UInt32
  secret : List UInt8
deriving DecidableEq
def encKey (k : KeyA) : List Value := [vU32 k.gen, vS k.secret]
def key0 : KeyA := ⟨0, []⟩
def maxKeys : Nat := 16
def keySize : Nat := 32

/-- the generation ahead of place i -/
def prevGen (ks : List KeyA) : Nat → UInt32
  | 0 => 0
  | i + 1 => (ks.getD i key0).gen
def keyOk (ks : List KeyA) (i : Nat) : Bool := decide (prevGen ks i < (ks.getD i key0).gen) && decide (((ks.getD i key0).secret.length : Int) = 32)
def gensA (ks : List KeyA) : List (UInt32 × Bool) := (List.range ks.length).map fun i => ((ks.getD i key0).gen, keyOk ks i)
def rightA (ks : List KeyA) : Bool := decide (ks.length ≤ 16) && (gensA ks).all (·.2)
/-- the first place of a generation at least so great -/
def placeA (gen : UInt32) (ks : List KeyA) : Nat := ks.findIdx fun k => decide (gen ≤ k.gen)
def thereA (gen : UInt32) (ks : List KeyA) : Bool :=
  match ks[placeA gen ks]? with
  | some k => decide (k.gen = gen)
  | none => false
def findA (ks : List KeyA) (gen : UInt32) : KeyA × Int :=
  if rightA ks = false then (key0, 40)
  else match ks[placeA gen ks]? with
    | some k => if k.gen = gen then (k, 0) else (key0, 41)
    | none => (key0, 41)
theorem gensA_length (ks : List KeyA) : (gensA ks).length = ks.length := by simp [gensA]
theorem gensA_get (ks : List KeyA) (i : Nat) (h : i < ks.length) : (gensA ks)[i]? = some ((ks.getD i key0).gen, keyOk ks i) := by
  simp [gensA, h]
theorem getD_of {ks : List KeyA} {i : Nat} {k : KeyA} (h : ks[i]? = some k) : ks.getD i key0 = k := by
  simp [List.getD_eq_getElem?_getD, h]
theorem placeA_le (gen : UInt32) (ks : List KeyA) : placeA gen ks ≤ ks.length := List.findIdx_le_length
theorem findIdx_at {α : Type} {φ : α → Bool} {xs : List α} {i : Nat} {x : α} (h : xs[i]? = some x) (hx : φ x = true) (hb : ∀ (j : Nat) (y : α), j < i → xs[j]? = some y → φ y = false) : xs.findIdx φ = i := by
  obtain ⟨hlt, rfl⟩ := List.getElem?_eq_some_iff.1 h
  exact (List.findIdx_eq hlt).2 ⟨hx, fun j hj => hb j _ hj (List.getElem?_eq_getElem _)⟩
theorem findIdx_no {α : Type} {φ : α → Bool} {xs : List α} (hb : ∀ (j : Nat) (y : α), xs[j]? = some y → φ y = false) : xs.findIdx φ = xs.length := by
  rw [List.findIdx_eq_length]
  intro x hx
  obtain ⟨j, hj⟩ := List.getElem?_of_mem hx
  exact hb j x hj
end Go.Proofs.YtddjneafgddlcaaDoor

/- Plain subkeys and filled texts. No program in sight. No condition. -/
namespace Go.Proofs.YtddjneafgddlcaaDoor
open Go

def sealW : List UInt8 := [115, 101, 97, 108]
def bindW : List UInt8 := [98, 105, 110, 100]
def le32 (x : UInt32) : List UInt8 := [x.toUInt8, (shr32 x 8).toUInt8, (shr32 x 16).toUInt8, (shr32 x 24).toUInt8]
def subA (T : List UInt32) (k : KeyA) (w : List UInt8) : List UInt8 := exp32 T k.secret (w ++ le32 k.gen)
theorem subA_length (T : List UInt32) (k : KeyA) (w : List UInt8) : (subA T k w).length = 32 := macA_length T _ _
theorem rightA_one {k : KeyA} (h : rightA [k] = true) : k.secret.length = 32 := by
  simp [rightA, gensA, keyOk, List.range_succ] at h
  omega
def padA (s : List UInt8) : List UInt8 := [toU8 ((s.length : Int) / 256), toU8 s.length] ++ s ++ List.replicate (198 - s.length) 0
theorem padA_length {s : List UInt8} (h : s.length ≤ 198) : (padA s).length = 200 := by simp [padA]; omega
def lenA (b : List UInt8) : Nat := (b.getD 0 0).toNat * 256 + (b.getD 1 0).toNat
def cleanA (b : List UInt8) : Prop := ∀ j, j < 198 - lenA b → b.getD (2 + lenA b + j) 0 = 0
instance (b : List UInt8) : Decidable (cleanA b) := by unfold cleanA; infer_instance
def unpadA (b : List UInt8) : List UInt8 × Int :=
  if b.length ≠ 200 then ([], 50) else if 198 < lenA b then ([], 50) else if cleanA b then ((b.drop 2).take (lenA b), 0) else ([], 50)
theorem unpad_pad {s : List UInt8} (h : s.length ≤ 198) : unpadA (padA s) = (s, 0) := by
  have hl : lenA (padA s) = s.length := by
    simp only [lenA, padA, List.cons_append, List.nil_append, List.getD_cons_zero, List.getD_cons_succ, toU8, UInt8.toNat_ofNat']
    omega
  have hc : cleanA (padA s) := by
    intro j hj
    rw [hl] at hj ⊢
    have : 2 + s.length + j = (s.length + j) + 1 + 1 := by omega
    rw [this]
    simp only [padA, List.cons_append, List.nil_append, List.getD_cons_succ]
    rw [List.getD_eq_getElem?_getD, List.getElem?_append_right (by omega), List.getElem?_replicate]
    split <;> rfl
  unfold unpadA
  rw [if_neg (by simp [padA_length h]), if_neg (by rw [hl]; omega), if_pos hc, hl]
  simp only [padA, List.cons_append, List.nil_append, List.drop_succ_cons, List.drop_zero, List.take_left]
end Go.Proofs.YtddjneafgddlcaaDoor

/- Plain ChaCha20. No program in sight. No condition. -/
namespace Go.Proofs.YtddjneafgddlcaaDoor
open Go

def wordLE (s : List UInt8) (i : Nat) : UInt32 := byteAt s i ||| shl32 (byteAt s (i + 1)) 8 ||| shl32 (byteAt s (i + 2)) 16 ||| shl32 (byteAt s (i + 3)) 24
def wordsOf (s : List UInt8) : List UInt32 := (List.range (s.length / 4)).map fun j => wordLE s (4 * j)
theorem wordsOf_length (s : List UInt8) : (wordsOf s).length = s.length / 4 := by simp [wordsOf]
theorem wordLE_drop (s : List UInt8) (k i : Nat) : wordLE (s.drop k) i = wordLE s (k + i) := by
  have h : ∀ j, byteAt (s.drop k) j = byteAt s (k + j) := fun j => by simp [byteAt, List.getD_eq_getElem?_getD]
  simp only [wordLE, h, Nat.add_assoc]
theorem wordsOf_cons {s : List UInt8} (h : 4 ≤ s.length) : wordsOf s = wordLE s 0 :: wordsOf (s.drop 4) := by
  have e : s.length / 4 = (s.drop 4).length / 4 + 1 := by simp; omega
  unfold wordsOf
  rw [e, List.range_succ_eq_map, List.map_cons, List.map_map]
  congr 1
  apply List.map_congr_left
  intro j _
  simp only [Function.comp, wordLE_drop]
  congr 1
  omega
theorem wordsOf_short {s : List UInt8} (h : s.length < 4) : wordsOf s = [] := by
  have : s.length / 4 = 0 := by omega
  simp [wordsOf, this]
def expandW : List UInt8 := [101, 120, 112, 97, 110, 100, 32, 51, 50, 45, 98, 121, 116, 101, 32, 107]
/-- the sixteen words of a key, a counter and a nonce -/
def begunA (key : List UInt8) (counter : UInt32) (nonce : List UInt8) : List UInt32 := wordsOf expandW ++ wordsOf key ++ wordsOf (le32 counter) ++ wordsOf nonce
theorem begunA_length {key nonce : List UInt8} {counter : UInt32} (hk : key.length = 32) (hn : nonce.length = 12) : (begunA key counter nonce).length = 16 := by
  simp [begunA, wordsOf_length, hk, hn, expandW, le32]
structure Q4 where
  a : UInt32
  b : UInt32
  c : UInt32
  d : UInt32
def Q4.list (q : Q4) : List UInt32 := [q.a, q.b, q.c, q.d]
def rl (x : UInt32) (n : Nat) : UInt32 := shl32 x n ||| shr32 x (32 - n)
def Q4.step (q : Q4) (n m : Nat) : Q4 :=
  let a := q.a + q.b
  let d := rl (q.d ^^^ a) n
  let c := q.c + d
  ⟨a, rl (q.b ^^^ c) m, c, d⟩
def turnA : Nat → Nat
  | 0 => 16
  | _ => 8
def turnB : Nat → Nat
  | 0 => 12
  | _ => 7
def Q4.steps (q : Q4) : Nat → Q4
  | 0 => q
  | i + 1 => (q.steps i).step (turnA i) (turnB i)
def Q4.quarter (q : Q4) : Q4 := q.steps 2
/-- a quarter turn of four words of sixteen, in their place -/
def ixA (step i k : Nat) : Nat := 4 * k + (i + k * step) % 4
def setsN (ws : List UInt32) (ix : Nat → Nat) (q : List UInt32) : Nat → List UInt32
  | 0 => ws
  | k + 1 => (setsN ws ix q k).set (ix k) (q.getD k 0)
def qrA (ws : List UInt32) (ix : Nat → Nat) : List UInt32 :=
  setsN ws ix (Q4.quarter ⟨ws.getD (ix 0) 0, ws.getD (ix 1) 0, ws.getD (ix 2) 0, ws.getD (ix 3) 0⟩).list 4
theorem setsN_length (ws : List UInt32) (ix : Nat → Nat) (q : List UInt32) : ∀ k, (setsN ws ix q k).length = ws.length
  | 0 => rfl
  | k + 1 => by simp [setsN, setsN_length ws ix q k]
theorem qrA_length (ws : List UInt32) (ix : Nat → Nat) : (qrA ws ix).length = ws.length := setsN_length ..
def roundN (ws : List UInt32) (step : Nat) : Nat → List UInt32
  | 0 => ws
  | i + 1 => qrA (roundN ws step i) (ixA step i)
theorem roundN_length (ws : List UInt32) (step : Nat) : ∀ i, (roundN ws step i).length = ws.length
  | 0 => rfl
  | i + 1 => by rw [roundN, qrA_length, roundN_length ws step i]
def roundA (ws : List UInt32) (step : Nat) : List UInt32 := roundN ws step 4
def twoA (ws : List UInt32) : List UInt32 := roundA (roundA ws 0) 1
def tenN (ws : List UInt32) : Nat → List UInt32
  | 0 => ws
  | i + 1 => twoA (tenN ws i)
theorem tenN_length (ws : List UInt32) : ∀ i, (tenN ws i).length = ws.length
  | 0 => rfl
  | i + 1 => by simp only [tenN, twoA, roundA, roundN_length, tenN_length ws i]
def outA (ws was : List UInt32) : List UInt8 := (List.zipWith (· + ·) ws was).flatMap le32
/-- a block of the stream -/
def blockA (key : List UInt8) (counter : UInt32) (nonce : List UInt8) : List UInt8 := outA (tenN (begunA key counter nonce) 10) (begunA key counter nonce)
theorem blockA_length {key nonce : List UInt8} {counter : UInt32} (hk : key.length = 32) (hn : nonce.length = 12) : (blockA key counter nonce).length = 64 := by
  have h := begunA_length (counter := counter) hk hn
  have key2 : ∀ l : List UInt32, (l.flatMap le32).length = 4 * l.length := by
    intro l
    induction l with
    | nil => rfl
    | cons x r ih => rw [List.flatMap_cons, List.length_append, ih, List.length_cons]; simp [le32]; omega
  rw [blockA, outA, key2]
  simp [tenN_length, h]
/-- the stream's byte at a place -/
def streamA (key nonce : List UInt8) (i : Nat) : UInt8 := (blockA key (UInt32.ofNat (i / 64)) nonce).getD (i % 64) 0
/-- a text under the stream -/
def xorA (key nonce s : List UInt8) : List UInt8 := (List.range s.length).map fun i => s.getD i 0 ^^^ streamA key nonce i
theorem xorA_length (key nonce s : List UInt8) : (xorA key nonce s).length = s.length := by simp [xorA]
theorem xorA_xorA (key nonce s : List UInt8) : xorA key nonce (xorA key nonce s) = s := by
  refine List.ext_getElem (by simp [xorA_length]) fun i h1 h2 => ?_
  have e : (xorA key nonce s).getD i 0 = s[i] ^^^ streamA key nonce i := by
    simp [xorA, List.getD_eq_getElem?_getD, h2]
  have : (xorA key nonce (xorA key nonce s))[i] = (xorA key nonce s).getD i 0 ^^^ streamA key nonce i := by simp [xorA]
  rw [this, e, UInt8.xor_assoc, UInt8.xor_self, UInt8.xor_zero]
end Go.Proofs.YtddjneafgddlcaaDoor

/- Plain heads of blocks. No program in sight. No condition. -/
namespace Go.Proofs.YtddjneafgddlcaaDoor
open Go

structure HeadA where
  page : UInt32
  gen : UInt32
  boot : UInt32
  seq : UInt64
deriving DecidableEq
def encHead (h : HeadA) : List Value := [vU32 h.page, vU32 h.gen, vU32 h.boot, vU64 h.seq]
def head0 : HeadA := ⟨0, 0, 0, 0⟩
def lePut (n : UInt64) (w : Nat) : List UInt8 := (List.range w).map fun i => (shr64 n (8 * i)).toUInt8
theorem lePut_length (n : UInt64) (w : Nat) : (lePut n w).length = w := by simp [lePut]
theorem lePut_succ (n : UInt64) (w : Nat) : lePut n (w + 1) = lePut n w ++ [(shr64 n (8 * w)).toUInt8] := by simp [lePut, List.range_succ]
def nonceA (h : HeadA) : List UInt8 := lePut h.boot.toUInt64 4 ++ lePut h.seq 8
theorem nonceA_length (h : HeadA) : (nonceA h).length = 12 := by simp [nonceA, lePut_length]
def putA (h : HeadA) : List UInt8 := lePut h.page.toUInt64 4 ++ lePut h.gen.toUInt64 4 ++ nonceA h ++ [0, 0, 0, 0]
theorem putA_length (h : HeadA) : (putA h).length = 24 := by simp [putA, lePut_length, nonceA_length]
def leGetN (s : List UInt8) : Nat → UInt64
  | 0 => 0
  | k + 1 => leGetN s k ||| shl64 (s.getD k 0).toUInt64 (8 * k)
def widA : Nat → Nat
  | 3 => 8
  | _ => 4
def offA : Nat → Nat
  | 0 => 0
  | i + 1 => offA i + widA i
def fieldA (s : List UInt8) (i : Nat) : UInt64 := leGetN (s.drop (offA i)) (widA i)
def fieldsA (s : List UInt8) : List (Nat × UInt64) := (List.range 5).map fun i => (i, fieldA s i)
theorem fieldsA_get (s : List UInt8) (i : Nat) (h : i < 5) : (fieldsA s)[i]? = some (i, fieldA s i) := by simp [fieldsA, h]
theorem fieldsA_length (s : List UInt8) : (fieldsA s).length = 5 := by simp [fieldsA]
/-- the head with its first k fields read -/
def headN (s : List UInt8) (k : Nat) : HeadA :=
  ⟨if 0 < k then (fieldA s 0).toUInt32 else 0, if 1 < k then (fieldA s 1).toUInt32 else 0, if 2 < k then (fieldA s 2).toUInt32 else 0, if 3 < k then fieldA s 3 else 0⟩
def headA (s : List UInt8) : HeadA := ⟨(fieldA s 0).toUInt32, (fieldA s 1).toUInt32, (fieldA s 2).toUInt32, fieldA s 3⟩
def getA (s : List UInt8) : HeadA × Bool := if s.length = 24 ∧ putA (headA s) = s then (headA s, true) else (head0, false)
end Go.Proofs.YtddjneafgddlcaaDoor

/- Plain sealed blocks. No program in sight. No condition. -/
namespace Go.Proofs.YtddjneafgddlcaaDoor
open Go

def padR (s : List UInt8) : List UInt8 × Int := if 198 < s.length then ([], 50) else (padA s, 0)
/-- what a tag binds -/
def boundA (T : List UInt32) (k : KeyA) (h : HeadA) (body : List UInt8) : List UInt8 := putA h ++ xorA (subA T k sealW) (nonceA h) body
def blkA (T : List UInt32) (k : KeyA) (h : HeadA) (s : List UInt8) : List UInt8 := boundA T k h (padA s) ++ macA T (subA T k bindW) (boundA T k h (padA s))
def sealA (T : List UInt32) (l : List KeyA) (h : HeadA) (s : List UInt8) : List UInt8 × Int :=
  if (findA l h.gen).2 ≠ 0 then ([], (findA l h.gen).2)
  else if 198 < s.length then ([], 50)
  else (blkA T (findA l h.gen).1 h s, 0)
def openA (T : List UInt32) (l : List KeyA) (b : List UInt8) : HeadA × List UInt8 × Int :=
  if rightA l = false then (head0, [], 40)
  else if b.length ≠ 256 then (head0, [], 61)
  else if (getA (b.take 24)).2 = false then (head0, [], 61)
  else if (findA l (getA (b.take 24)).1.gen).2 ≠ 0 then (head0, [], (findA l (getA (b.take 24)).1.gen).2)
  else if macA T (subA T (findA l (getA (b.take 24)).1.gen).1 bindW) (b.take 224) ≠ b.drop 224 then (head0, [], 61)
  else
    let h := (getA (b.take 24)).1
    let u := unpadA (xorA (subA T (findA l h.gen).1 sealW) (nonceA h) ((b.drop 24).take 200))
    if u.2 ≠ 0 ∨ (sealA T l h u.1).2 ≠ 0 ∨ (sealA T l h u.1).1 ≠ b then (head0, [], 61)
    else (h, u.1, 0)
theorem keyOk_right {l : List KeyA} {i : Nat} {k : KeyA} (hi : l[i]? = some k) (h : keyOk l i = true) : rightA [k] = true := by
  have hk : l.getD i key0 = k := getD_of hi
  simp only [keyOk, hk, Bool.and_eq_true, decide_eq_true_eq] at h
  have h0 : (0 : UInt32) < k.gen := by
    have h1 := h.1
    rw [UInt32.lt_iff_toNat_lt] at h1 ⊢
    have : (0 : UInt32).toNat = 0 := rfl
    omega
  simp [rightA, gensA, keyOk, List.range_succ, prevGen, h0, h.2]
theorem find_ok {l : List KeyA} {g : UInt32} (h : (findA l g).2 = 0) : rightA l = true ∧ (findA l g).1 ∈ l ∧ (findA l g).1.gen = g ∧ rightA [(findA l g).1] = true := by
  unfold findA at h ⊢
  split at h
  · simp at h
  · rename_i hr
    have hr' : rightA l = true := by simpa using hr
    rw [if_neg hr]
    refine ⟨hr', ?_⟩
    split at h
    · rename_i k hk
      split at h
      · rename_i hg
        simp only [hg, if_true]
        refine ⟨List.mem_of_getElem? hk, trivial, ?_⟩
        refine keyOk_right hk ?_
        simp only [rightA, Bool.and_eq_true, List.all_eq_true] at hr'
        obtain ⟨hlt, _⟩ := List.getElem?_eq_some_iff.1 hk
        exact hr'.2 _ (List.mem_of_getElem? (gensA_get l _ hlt))
      · simp at h
    · simp at h
theorem boundA_length (T : List UInt32) (k : KeyA) (h : HeadA) {body : List UInt8} (hb : body.length = 200) : (boundA T k h body).length = 224 := by simp [boundA, putA_length, xorA_length, hb]
theorem blkA_length (T : List UInt32) (k : KeyA) (h : HeadA) {s : List UInt8} (hs : s.length ≤ 198) : (blkA T k h s).length = 256 := by simp [blkA, boundA_length T k h (padA_length hs), macA_length]
end Go.Proofs.YtddjneafgddlcaaDoor

/- Plain laws of sealed blocks: what was sealed is opened, and the other way; tags; rings. No program in sight. No condition. -/
namespace Go.Proofs.YtddjneafgddlcaaDoor
open Go

/-! ### Heads -/
theorem lePut_getD (n : UInt64) (w i : Nat) (h : i < w) (r : List UInt8) : (lePut n w ++ r).getD i 0 = (shr64 n (8 * i)).toUInt8 := by
  rw [List.getD_eq_getElem?_getD, List.getElem?_append_left (by simp [lePut_length, h])]
  simp [lePut, h]
theorem shr64_nat (n : UInt64) (k : Nat) (h : k ≤ 64) : (shr64 n k).toNat = n.toNat / 2 ^ k := by
  have h1 := n.toNat_lt
  simp only [shr64, UInt64.toNat_ofNat', Nat.min_eq_left h]
  refine Nat.mod_eq_of_lt (Nat.lt_of_le_of_lt (Nat.div_le_self _ _) h1)
theorem shl64_byte (b : UInt8) (k : Nat) (h : k ≤ 56) : (shl64 b.toUInt64 k).toNat = b.toNat * 2 ^ k := by
  have h1 := b.toNat_lt
  simp only [shl64, UInt64.toNat_ofNat', Nat.min_eq_left (show k ≤ 64 by omega), UInt8.toNat_toUInt64]
  refine Nat.mod_eq_of_lt ?_
  calc b.toNat * 2 ^ k < 2 ^ 8 * 2 ^ k := Nat.mul_lt_mul_of_pos_right h1 (Nat.two_pow_pos k)
    _ = 2 ^ (8 + k) := (Nat.pow_add 2 8 k).symm
    _ ≤ 2 ^ 64 := Nat.pow_le_pow_right (by decide) (by omega)
theorem leGet_put (n : UInt64) (w : Nat) (r : List UInt8) (hw : w ≤ 8) : ∀ k, k ≤ w → (leGetN (lePut n w ++ r) k).toNat = n.toNat % 2 ^ (8 * k)
  | 0, _ => by simp [leGetN, Nat.mod_one]
  | k + 1, hk => by
    have ih := leGet_put n w r hw k (by omega)
    rw [leGetN, UInt64.toNat_or, ih, shl64_byte _ _ (by omega), lePut_getD n w k (by omega), UInt64.toNat_toUInt8, shr64_nat _ _ (by omega)]
    have hlt : n.toNat % 2 ^ (8 * k) < 2 ^ (8 * k) := Nat.mod_lt _ (Nat.two_pow_pos _)
    rw [Nat.or_comm, Nat.mul_comm _ (2 ^ (8 * k)), ← Nat.two_pow_add_eq_or_of_lt hlt, show 8 * (k + 1) = 8 * k + 8 by omega, Nat.pow_add, Nat.mod_mul, Nat.add_comm]
theorem drop_lePut (n : UInt64) (w : Nat) (r : List UInt8) : (lePut n w ++ r).drop w = r := by
  rw [List.drop_append_of_le_length (by simp [lePut_length]), List.drop_of_length_le (by simp [lePut_length]), List.nil_append]
theorem putA_eq (h : HeadA) : putA h = lePut h.page.toUInt64 4 ++ (lePut h.gen.toUInt64 4 ++ (lePut h.boot.toUInt64 4 ++ (lePut h.seq 8 ++ [0, 0, 0, 0]))) := by
  simp [putA, nonceA]
theorem u32_get (x : UInt32) (r : List UInt8) : (leGetN (lePut x.toUInt64 4 ++ r) 4).toUInt32 = x := by
  have h := leGet_put x.toUInt64 4 r (by decide) 4 (by decide)
  apply UInt32.toNat_inj.1
  have hx := x.toNat_lt
  rw [UInt64.toNat_toUInt32, h]
  simp only [UInt32.toNat_toUInt64]
  omega
theorem u64_get (x : UInt64) (r : List UInt8) : leGetN (lePut x 8 ++ r) 8 = x := by
  have h := leGet_put x 8 r (by decide) 8 (by decide)
  apply UInt64.toNat_inj.1
  rw [h]
  exact Nat.mod_eq_of_lt x.toNat_lt
theorem headA_putA (h : HeadA) : headA (putA h) = h := by
  have e1 : (putA h).drop 4 = lePut h.gen.toUInt64 4 ++ (lePut h.boot.toUInt64 4 ++ (lePut h.seq 8 ++ [0, 0, 0, 0])) := by rw [putA_eq, drop_lePut]
  have e2 : (putA h).drop 8 = lePut h.boot.toUInt64 4 ++ (lePut h.seq 8 ++ [0, 0, 0, 0]) := by
    rw [show 8 = 4 + 4 from rfl, ← List.drop_drop, e1, drop_lePut]
  have e3 : (putA h).drop 12 = lePut h.seq 8 ++ [0, 0, 0, 0] := by
    rw [show 12 = 8 + 4 from rfl, ← List.drop_drop, e2, drop_lePut]
  unfold headA fieldA
  have o0 : offA 0 = 0 := rfl
  have o1 : offA 1 = 4 := rfl
  have o2 : offA 2 = 8 := rfl
  have o3 : offA 3 = 12 := rfl
  have w0 : widA 0 = 4 := rfl
  have w1 : widA 1 = 4 := rfl
  have w2 : widA 2 = 4 := rfl
  have w3 : widA 3 = 8 := rfl
  rw [o0, o1, o2, o3, w0, w1, w2, w3, List.drop_zero, e1, e2, e3, u32_get, u32_get, u64_get, putA_eq, u32_get]
theorem getA_putA (h : HeadA) : getA (putA h) = (h, true) := by
  unfold getA
  rw [headA_putA, if_pos ⟨putA_length h, rfl⟩]

/-! ### Keys -/
theorem rightA_iff (l : List KeyA) : rightA l = true ↔ l.length ≤ 16 ∧ ∀ i, i < l.length → prevGen l i < (l.getD i key0).gen ∧ (l.getD i key0).secret.length = 32 := by
  simp only [rightA, gensA, keyOk, Bool.and_eq_true, decide_eq_true_eq, List.all_eq_true, List.mem_map, List.mem_range]
  constructor
  · rintro ⟨h1, h2⟩
    refine ⟨h1, fun i hi => ?_⟩
    have := h2 _ ⟨i, hi, rfl⟩
    simp only [Bool.and_eq_true, decide_eq_true_eq] at this
    exact ⟨this.1, by omega⟩
  · rintro ⟨h1, h2⟩
    refine ⟨h1, ?_⟩
    rintro _ ⟨i, hi, rfl⟩
    have := h2 i hi
    simp only [Bool.and_eq_true, decide_eq_true_eq]
    exact ⟨this.1, by omega⟩
theorem right_mono {l : List KeyA} (h : rightA l = true) : ∀ j i, i < j → j < l.length → (l.getD i key0).gen < (l.getD j key0).gen
  | 0, i, hi, _ => by omega
  | j + 1, i, hi, hj => by
    have h1 := ((rightA_iff l).1 h).2 (j + 1) hj
    rcases Nat.lt_or_ge i j with hlt | hge
    · exact UInt32.lt_trans (right_mono h j i hlt (by omega)) h1.1
    · rw [show i = j by omega]; exact h1.1
theorem right_pos {l : List KeyA} (h : rightA l = true) : ∀ i, i < l.length → 0 < (l.getD i key0).gen := by
  intro i hi
  have h0 := ((rightA_iff l).1 h).2 0 (by omega)
  rcases Nat.eq_zero_or_pos i with rfl | hp
  · exact h0.1
  · exact UInt32.lt_trans h0.1 (right_mono h i 0 hp hi)
/-- a right ring, said of its members -/
theorem right_iff (l : List KeyA) : rightA l = true ↔ l.length ≤ 16 ∧ l.Pairwise (fun a b => a.gen < b.gen) ∧ ∀ k ∈ l, 0 < k.gen ∧ k.secret.length = 32 := by
  constructor
  · intro h
    have h1 := (rightA_iff l).1 h
    refine ⟨h1.1, ?_, ?_⟩
    · rw [List.pairwise_iff_getElem]
      intro i j hi hj hij
      have := right_mono h j i hij hj
      rwa [getD_of (List.getElem?_eq_getElem hi), getD_of (List.getElem?_eq_getElem hj)] at this
    · intro k hk
      obtain ⟨i, hi, rfl⟩ := List.getElem_of_mem hk
      have h2 := right_pos h i hi
      have h3 := (h1.2 i hi).2
      rw [getD_of (List.getElem?_eq_getElem hi)] at h2 h3
      exact ⟨h2, h3⟩
  · rintro ⟨h1, h2, h3⟩
    refine (rightA_iff l).2 ⟨h1, fun i hi => ?_⟩
    have hm := h3 _ (List.getElem_mem hi)
    rw [getD_of (List.getElem?_eq_getElem hi)]
    refine ⟨?_, hm.2⟩
    match i, hi with
    | 0, hi => exact hm.1
    | i + 1, hi =>
      have := (List.pairwise_iff_getElem.1 h2) i (i + 1) (by omega) hi (by omega)
      rw [prevGen, getD_of (List.getElem?_eq_getElem (by omega))]
      exact this
theorem find_iff {l : List KeyA} {g : UInt32} {k : KeyA} : findA l g = (k, 0) ↔ rightA l = true ∧ k ∈ l ∧ k.gen = g := by
  constructor
  · intro h
    have := find_ok (l := l) (g := g) (by rw [h])
    rw [h] at this
    exact ⟨this.1, this.2.1, this.2.2.1⟩
  · rintro ⟨hr, hk, rfl⟩
    obtain ⟨i, hi, rfl⟩ := List.getElem_of_mem hk
    have hp : placeA l[i].gen l = i := by
      refine findIdx_at (List.getElem?_eq_getElem hi) (by simp) fun j y hj hy => ?_
      have := right_mono hr i j hj hi
      rw [getD_of hy, getD_of (List.getElem?_eq_getElem hi)] at this
      rw [decide_eq_false_iff_not, UInt32.not_le]
      exact this
    simp [findA, hr, hp, hi]
theorem right_filter {l : List KeyA} {φ : KeyA → Bool} (h : rightA l = true) : rightA (l.filter φ) = true := by
  obtain ⟨h1, h2, h3⟩ := (right_iff l).1 h
  exact (right_iff _).2 ⟨Nat.le_trans (List.length_filter_le ..) h1, h2.filter _, fun k hk => h3 k (List.mem_filter.1 hk).1⟩
theorem find_pair {l : List KeyA} {g : UInt32} (h : (findA l g).2 = 0) : findA l g = ((findA l g).1, 0) := by rw [← h]
theorem find_filter {l : List KeyA} {g : UInt32} {φ : KeyA → Bool} (h : (findA l g).2 = 0) (hφ : ∀ k, k.gen = g → φ k = true) : findA (l.filter φ) g = findA l g := by
  obtain ⟨h1, h2, h3⟩ := find_iff.1 (find_pair h)
  rw [find_pair h]
  exact find_iff.2 ⟨right_filter h1, List.mem_filter.2 ⟨h2, hφ _ h3⟩, h3⟩

/-! ### Blocks -/
theorem seal_ok {T : List UInt32} {l : List KeyA} {h : HeadA} {s : List UInt8} (e : (sealA T l h s).2 = 0) : (findA l h.gen).2 = 0 ∧ s.length ≤ 198 ∧ sealA T l h s = (blkA T (findA l h.gen).1 h s, 0) := by
  unfold sealA at e ⊢
  split at e
  · rename_i h1; exact absurd e h1
  · rename_i h1
    split at e
    · simp at e
    · rename_i h2
      exact ⟨by simpa using h1, by omega, by rw [if_neg h1, if_neg h2]⟩
theorem seal_err {T : List UInt32} {l : List KeyA} {h : HeadA} {s : List UInt8} (e : (sealA T l h s).2 ≠ 0) : (sealA T l h s).1 = [] := by
  unfold sealA at e ⊢
  split
  · rfl
  · split
    · rfl
    · rename_i h1 h2
      rw [if_neg h1, if_neg h2] at e
      exact absurd rfl e
theorem blk_take224 {T : List UInt32} {k : KeyA} {h : HeadA} {s : List UInt8} (hs : s.length ≤ 198) : (blkA T k h s).take 224 = boundA T k h (padA s) := by
  rw [blkA, List.take_append_of_le_length (by simp [boundA_length T k h (padA_length hs)])]
  exact List.take_of_length_le (by simp [boundA_length T k h (padA_length hs)])
theorem blk_drop224 {T : List UInt32} {k : KeyA} {h : HeadA} {s : List UInt8} (hs : s.length ≤ 198) : (blkA T k h s).drop 224 = macA T (subA T k bindW) (boundA T k h (padA s)) := by
  rw [blkA, List.drop_append_of_le_length (by simp [boundA_length T k h (padA_length hs)]), List.drop_of_length_le (by simp [boundA_length T k h (padA_length hs)]), List.nil_append]
theorem blk_take24 {T : List UInt32} {k : KeyA} {h : HeadA} {s : List UInt8} : (blkA T k h s).take 24 = putA h := by
  rw [blkA, boundA, List.append_assoc, List.take_append_of_le_length (by simp [putA_length]), List.take_of_length_le (by simp [putA_length])]
theorem blk_body {T : List UInt32} {k : KeyA} {h : HeadA} {s : List UInt8} (hs : s.length ≤ 198) : ((blkA T k h s).drop 24).take 200 = xorA (subA T k sealW) (nonceA h) (padA s) := by
  rw [blkA, boundA, List.append_assoc, List.drop_append_of_le_length (by simp [putA_length]), List.drop_of_length_le (by simp [putA_length]), List.nil_append,
    List.take_append_of_le_length (by simp [xorA_length, padA_length hs]), List.take_of_length_le (by simp [xorA_length, padA_length hs])]
theorem open_seal {T : List UInt32} {l : List KeyA} {h : HeadA} {s : List UInt8} (e : (sealA T l h s).2 = 0) : openA T l (sealA T l h s).1 = (h, s, 0) := by
  obtain ⟨hf, hs, he⟩ := seal_ok e
  have hr := (find_ok hf).1
  rw [he]
  simp only
  unfold openA
  rw [if_neg (by simp [hr]), if_neg (by simp [blkA_length _ _ _ hs]), blk_take24, getA_putA, if_neg (by simp), if_neg (by simp [hf]), blk_take224 hs, blk_drop224 hs, if_neg (by simp), blk_body hs]
  simp only [xorA_xorA, unpad_pad hs, he]
  simp
theorem open_ok {T : List UInt32} {l : List KeyA} {b : List UInt8} (e : (openA T l b).2.2 = 0) : sealA T l (openA T l b).1 (openA T l b).2.1 = (b, 0) := by
  unfold openA at e ⊢
  split at e
  · simp at e
  · rename_i h1
    rw [if_neg h1]
    split at e
    · simp at e
    · rename_i h2
      rw [if_neg h2]
      split at e
      · simp at e
      · rename_i h3
        rw [if_neg h3]
        split at e
        · rename_i h4; exact absurd e h4
        · rename_i h4
          rw [if_neg h4]
          split at e
          · simp at e
          · rename_i h5
            rw [if_neg h5]
            simp only at e ⊢
            split at e
            · simp at e
            · rename_i h6
              rw [if_neg h6]
              simp only [not_or, Classical.not_not] at h6
              exact Prod.ext h6.2.2 h6.2.1
theorem open_err {T : List UInt32} {l : List KeyA} {b : List UInt8} (e : (openA T l b).2.2 ≠ 0) : (openA T l b).1 = head0 ∧ (openA T l b).2.1 = [] := by
  unfold openA at e ⊢
  simp only at e ⊢
  split
  · exact ⟨rfl, rfl⟩
  split
  · exact ⟨rfl, rfl⟩
  split
  · exact ⟨rfl, rfl⟩
  split
  · exact ⟨rfl, rfl⟩
  split
  · exact ⟨rfl, rfl⟩
  split
  · exact ⟨rfl, rfl⟩
  · rename_i h1 h2 h3 h4 h5 h6
    rw [if_neg h1, if_neg h2, if_neg h3, if_neg h4, if_neg h5, if_neg h6] at e
    exact absurd rfl e
theorem open_turned {T : List UInt32} {l : List KeyA} {h : HeadA} {s : List UInt8} {i : Nat} {c : UInt8} (e : (sealA T l h s).2 = 0) (hi : 224 ≤ i) (hl : i < (sealA T l h s).1.length) (hc : (sealA T l h s).1.getD i 0 ≠ c) :
    openA T l ((sealA T l h s).1.take i ++ [c] ++ (sealA T l h s).1.drop (i + 1)) = (head0, [], 61) := by
  obtain ⟨hf, hs, he⟩ := seal_ok e
  have hr := (find_ok hf).1
  rw [he] at hl hc ⊢
  simp only at hl hc ⊢
  have hbl := blkA_length T (findA l h.gen).1 h hs
  generalize hb : blkA T (findA l h.gen).1 h s = b at *
  have ht : ∀ n, n ≤ 224 → (b.take i ++ [c] ++ b.drop (i + 1)).take n = b.take n := by
    intro n hn
    rw [List.append_assoc, List.take_append_of_le_length (by simp; omega), List.take_take, Nat.min_eq_left (by omega)]
  have hlen : (b.take i ++ [c] ++ b.drop (i + 1)).length = 256 := by simp; omega
  unfold openA
  rw [if_neg (by simp [hr]), if_neg (fun hne => hne hlen), ht 24 (by decide), ht 224 (by decide), ← hb, blk_take24, getA_putA, if_neg (by simp), if_neg (by simp [hf]), if_pos]
  rw [blk_take224 hs, ← blk_drop224 hs, hb]
  intro heq
  have h1 := congrArg (fun x => x.getD (i - 224) 0) heq
  simp only [List.getD_eq_getElem?_getD, List.getElem?_drop] at h1
  rw [show 224 + (i - 224) = i by omega, List.append_assoc, List.getElem?_append_right (by simp; omega)] at h1
  rw [List.getD_eq_getElem?_getD] at hc
  refine hc ?_
  rw [h1]
  simp [Nat.min_eq_left (Nat.le_of_lt hl)]
theorem seal_filter {T : List UInt32} {l : List KeyA} {h : HeadA} {s : List UInt8} {φ : KeyA → Bool} (e : (sealA T l h s).2 = 0) (hφ : ∀ k, k.gen = h.gen → φ k = true) : sealA T (l.filter φ) h s = sealA T l h s := by
  obtain ⟨hf, hs, he⟩ := seal_ok e
  unfold sealA
  rw [find_filter hf hφ]
/-- what a law's beginning shows -/
theorem right_key (g : UInt32) (x : List UInt8) (hg : 0 < g) (hx : x.length = 32) : rightA [⟨g, x⟩] = true := (right_iff _).2 ⟨by simp, by simp, by simp [hg, hx]⟩
theorem seal_key (T : List UInt32) (g : UInt32) (x : List UInt8) (h : HeadA) (s : List UInt8) (hg : 0 < g) (hx : x.length = 32) (hh : h.gen = g) (hs : s.length ≤ 198) : sealA T [⟨g, x⟩] h s = (blkA T ⟨g, x⟩ h s, 0) := by
  have : findA [⟨g, x⟩] h.gen = (⟨g, x⟩, 0) := find_iff.2 ⟨right_key g x hg hx, by simp, hh.symm⟩
  unfold sealA
  rw [this, if_neg (by simp), if_neg (by omega)]
end Go.Proofs.YtddjneafgddlcaaDoor

/- From a row's condition to a contract's, and back: readings, keys in a slice, heads, tables. No condition beyond those stated. -/
namespace Go.Proofs.YtddjneafgddlcaaDoor
open Go Go.ChangeShapes Go.WideShapes Go.ChangeAt Go.RowKit Go.Deep

section
variable {G : Type} {enc : TypeId × Value → G} {P : Program} {W W' : World}

theorem HpOk.below {H' : List Chunk} (h : HpOk (· < W.heap.size) W H' W') : Below W.heap.size W W' := ⟨h.os, h.tape, h.output, h.size, fun b hb => h.keep b hb⟩
/-- all types of a list can be read -/
def rowed (P : Program) (ts : List TypeId) : Bool := ts.all fun t => P.readableRec t && decide (t < P.types.size)
theorem trodAll_below (hl : laidOutB P = true) (hb : Below W.heap.size W W') : ∀ {ts : List TypeId} {vs : List Value} {ds : List (DataW G)} {ps : List MemPlace}, rowed P ts = true →
    DataW.TrodAll enc P W 0 (fun _ => true) true ts vs ds ps → DataW.TrodAll enc P W' 0 (fun b => decide (b < W.heap.size)) true ts vs ds ps
  | [], [], [], _, _, h => h
  | t :: ts, v :: vs, d :: ds, ps, hr, h => by
    obtain ⟨p, q, h1, h2, e⟩ := h
    simp only [rowed, List.all_cons, Bool.and_eq_true, decide_eq_true_eq] at hr
    refine ⟨p, q, Below.trod hl hr.1.1 hr.1.2 h1 hb ?_, trodAll_below hl hb (by simpa [rowed] using hr.2) h2, e⟩
    obtain ⟨n, hn⟩ := h1
    exact DataW.trod_lt n _ _ _ hn
  | [], _ :: _, _, _, _, h => h.elim
  | [], [], _ :: _, _, _, h => h.elim
  | _ :: _, [], _, _, _, h => h.elim
  | _ :: _, _ :: _, [], _, _, h => h.elim
/-- a law that answers true and leaves old memory as it was -/
theorem post_true {fn : Func} {s : ChangeSpec} {tb : TypeId} {args : Array Value} {ds gs : List (DataW G)} {before : List MemPlace} (hl : laidOutB P = true) (hr : rowed P fn.params.toList = true)
    (hv : s.vars = []) (hres : fn.resultTypes.toList = [tb]) (htb : P.underlying tb = some .bool) (hW : DataW.Whole enc P fn.params.toList s.vars false W args.toList ds gs before)
    (h1 : (s.fn G (ds ++ gs)).results = [.lit (.bool true)]) (h2 : (s.fn G (ds ++ gs)).args = ds) (h3 : (s.fn G (ds ++ gs)).vars = []) (hb : Below W.heap.size W W') :
    s.post enc P fn false true false false W args (.bool true) W' := by
  have hW' := hW
  obtain ⟨p, q, hA, hV, e, _, _⟩ := hW
  have hsz : fn.resultTypes.size = 1 := by rw [← Array.length_toList, hres]; rfl
  refine ⟨ds, gs, before, [], p, [], hW', ?_, ?_, ?_, hb.frame _, fun h => by cases h⟩
  · rw [h1, hres, hsz]
    exact trodAll_cons_mk (shut_bool htb _) trodAll_mk0
  · rw [h2]
    exact trodAll_below hl hb hr hA
  · rw [hv, h3]
    rfl
end
/-- whatever the world, the walk's answer is the row's -/
theorem calls_row {f : FuncId} {args : List Value} {W : World} {R : Value → World → Prop} {P : Program} {post : Value → List Chunk → Prop} (h : Con P (· < W.heap.size) W f args [] [] post)
    (hp : ∀ v W', (∃ M, post v M) → Below W.heap.size W W' → R v W') : Calls P f args.toArray W fun e W' => ∃ v, e = .returned v ∧ R v W' := by
  refine (h W (HpOk.init W)).mono ?_
  rintro e W' ⟨v, M, rfl, hq, hw⟩
  exact ⟨v, rfl, hp v W' ⟨M, hq⟩ hw.below⟩

section
variable {G : Type} {enc : TypeId × Value → G} {P : Program} {W : World}
theorem u32_of {z : Int} (h : (Lit.int .u32 z).wf = true) : Value.int .u32 z = vU32 (UInt32.ofNat z.toNat) := by
  simp only [Lit.wf, Bool.and_eq_true, decide_eq_true_eq] at h
  have h1 : IntKind.u32.min = 0 := rfl
  have h2 : IntKind.u32.max = 4294967295 := rfl
  rw [h1, h2] at h
  simp only [vU32, UInt32.toNat_ofNat']
  congr 1
  omega
theorem u64_of {z : Int} (h : (Lit.int .u64 z).wf = true) : Value.int .u64 z = vU64 (UInt64.ofNat z.toNat) := by
  simp only [Lit.wf, Bool.and_eq_true, decide_eq_true_eq] at h
  have h1 : IntKind.u64.min = 0 := rfl
  have h2 : IntKind.u64.max = 18446744073709551615 := rfl
  rw [h1, h2] at h
  simp only [vU64, UInt64.toNat_ofNat']
  congr 1
  omega
theorem u8_of {z : Int} (h : (Lit.int .u8 z).wf = true) : Value.int .u8 z = vU8 (UInt8.ofNat z.toNat) := by
  simp only [Lit.wf, Bool.and_eq_true, decide_eq_true_eq] at h
  have h1 : IntKind.u8.min = 0 := rfl
  have h2 : IntKind.u8.max = 255 := rfl
  rw [h1, h2] at h
  simp only [vU8, UInt8.toNat_ofNat']
  congr 1
  omega
theorem str_of (s : ByteArray) : Value.string s = vS s.data.toList := by
  simp [vS]
theorem choose_key {n : Nat} {V0 V1 : Nat → Value} (h : ∀ i, i < n → ∃ k : KeyA, encKey k = [V0 i, V1 i]) : ∃ l : List KeyA, l.length = n ∧ ∀ i (hi : i < l.length), encKey l[i] = [V0 i, V1 i] := by
  induction n with
  | zero => exact ⟨[], rfl, fun i hi => by simp at hi⟩
  | succ n ih =>
    obtain ⟨l, hl, hk⟩ := ih fun i hi => h i (by omega)
    obtain ⟨k, hk'⟩ := h n (by omega)
    refine ⟨l ++ [k], by simp [hl], fun i hi => ?_⟩
    rcases Nat.lt_or_ge i l.length with h1 | h1
    · rw [List.getElem_append_left h1]; exact hk i h1
    · simp only [List.length_append, List.length_singleton] at hi
      have : i = n := by omega
      subst this
      rw [List.getElem_append_right h1]
      simpa using hk'
theorem encKey_at {l : List KeyA} {V0 V1 : Nat → Value} (h : ∀ i (hi : i < l.length), encKey l[i] = [V0 i, V1 i]) {j : Nat} {u : Value} (hu : (l.flatMap encKey)[j]? = some u) :
    ∃ i, i < l.length ∧ ((j = i * 2 ∧ u = V0 i) ∨ (j = i * 2 + 1 ∧ u = V1 i)) := by
  induction l generalizing j V0 V1 with
  | nil => simp at hu
  | cons k r ih =>
    have h0 : encKey k = [V0 0, V1 0] := h 0 (by simp)
    rw [List.flatMap_cons, h0] at hu
    match j, hu with
    | 0, hu =>
      simp only [List.cons_append, List.getElem?_cons_zero, Option.some.injEq] at hu
      exact ⟨0, by simp, .inl ⟨rfl, hu.symm⟩⟩
    | 1, hu =>
      simp only [List.cons_append, List.getElem?_cons_succ, List.getElem?_cons_zero, Option.some.injEq] at hu
      exact ⟨0, by simp, .inr ⟨rfl, hu.symm⟩⟩
    | j + 2, hu =>
      simp only [List.cons_append, List.nil_append, List.getElem?_cons_succ] at hu
      obtain ⟨i, hi, hc⟩ := ih (V0 := fun i => V0 (i + 1)) (V1 := fun i => V1 (i + 1)) (fun i hi => h (i + 1) (by simp; omega)) hu
      refine ⟨i + 1, by simp; omega, ?_⟩
      rcases hc with ⟨rfl, rfl⟩ | ⟨rfl, rfl⟩
      · exact .inl ⟨by omega, rfl⟩
      · exact .inr ⟨by omega, rfl⟩
/-- an argument that is a slice of keys -/
theorem open_keys {t e : TypeId} {f0 f1 : Field} {base : Nat} {v : Value} {d : DataW G} {p : List MemPlace} (ht : P.underlying t = some (.slice e)) (he : P.underlying e = some (.struct #[f0, f1]))
    (ce : P.cellsOf e = 2) (o0 : f0.offset = 0) (o1 : f1.offset = 1) (c0 : P.cellsOf f0.type = 1) (c1 : P.cellsOf f1.type = 1) (u0 : P.underlying f0.type = some (.int .u32)) (u1 : P.underlying f1.type = some .string)
    (hval : Value.okWide P W .any base t v) (h : DataW.Trod enc P W 0 (fun _ => true) true t v d p) : ∃ l : List KeyA, SlOf (· < W.heap.size) W encKey 2 v l ∧ l.length ≤ 9223372036854775807 := by
  obtain ⟨a', len', cap', rfl⟩ := okWide_slice ht hval
  obtain ⟨n, hn⟩ := h
  have hok : Cell.ok P W .any base t (.slice a' len' cap') := by
    simpa [Value.okWide, ht, Cell.okWide] using hval
  rcases open_slice_pairs ht he ce o0 o1 c0 c1 hn with ⟨hc, _⟩ | ⟨a, len, cap, m, n, V0, V1, D0, D1, P0, P1, hc, _, hl, hm, hmm, _, hall⟩
  · simp [Value.cells] at hc
    obtain ⟨rfl, rfl, rfl⟩ := hc
    exact ⟨[], ⟨fun _ => rfl, .inl ⟨_, rfl, rfl⟩⟩, by simp⟩
  · simp [Value.cells] at hc
    obtain ⟨rfl, rfl, rfl⟩ := hc
    simp only [Cell.ok, ht] at hok
    obtain ⟨b, off, spot⟩ := a
    obtain rfl : spot = none := hok.2.2.2.1
    simp only [if_true] at hmm
    subst hmm
    obtain ⟨l, hll, hlk⟩ := choose_key (n := len') (V0 := V0) (V1 := V1) fun i hi => by
      obtain ⟨_, _, h2, h3⟩ := hall i (by omega)
      obtain ⟨z, hz, _, hwf⟩ := DataW.trod_int u0 h2
      obtain ⟨s, hs, _, _⟩ := DataW.trod_string u1 h3
      simp only [List.cons.injEq, and_true] at hz hs
      exact ⟨⟨UInt32.ofNat z.toNat, s.data.toList⟩, by rw [encKey, hz, hs, u32_of hwf, str_of]⟩
    have hcap : m ≤ 9223372036854775807 := by simpa [maxLen] using hm
    refine ⟨l, ⟨fun _ => rfl, .inr ⟨b, off, m, by rw [hll], by omega, fun j u hu => ?_⟩⟩, by omega⟩
    obtain ⟨i, hi, hc⟩ := encKey_at hlk hu
    obtain ⟨h0, h1, _, _⟩ := hall i (by omega)
    simp only [Addr.add_mk] at h0 h1
    have hbl : ∀ {x : Nat} {q : Value}, W.cell? ⟨b, x, none⟩ = some q → b < W.heap.size := by
      intro x q hq
      rcases Nat.lt_or_ge b W.heap.size with h | h
      · exact h
      · have : W.heap[b]? = none := by simp [h]
        simp [World.cell?, this] at hq
    rcases hc with ⟨rfl, rfl⟩ | ⟨rfl, rfl⟩
    · exact ⟨hbl h0, h0⟩
    · refine ⟨hbl h1, ?_⟩
      rw [← h1]
end
end Go.Proofs.YtddjneafgddlcaaDoor

/- The engine's comparison of flat structs. No condition beyond those stated. -/
namespace Go.Proofs.YtddjneafgddlcaaDoor
open Go

variable {P : Program} {ro : Option Nat} {K : Nat → Prop} {w0 : World} {N : Nat} {Q : Post} {D : List Nat} {l l' : Tm} {H H' Hs L : List Chunk} {ops : Array Oper} {items : Its}
variable {tk : Bool} {o : Oper} {t : Nat} {v : Value} {x y z : Operand}

/-- a field's place and kind, where it is a number, a text or a bool -/
def fltF (P : Program) (f : Field) : Option (Nat × TypeDesc) :=
  if f.name = "_" then none
  else match P.underlying f.type with
    | some (.int k) => some (f.offset, .int k)
    | some .string => some (f.offset, .string)
    | some .bool => some (f.offset, .bool)
    | _ => none
def fltL (P : Program) : List Field → Option (List (Nat × TypeDesc))
  | [] => some []
  | f :: r => match fltF P f, fltL P r with
    | some a, some b => some (a :: b)
    | _, _ => none
/-- a flat struct's fields -/
def flt (P : Program) (t : TypeId) : Option (List (Nat × TypeDesc)) :=
  match P.underlying t with
  | some (.struct fs) => if P.stoodInHeld t || P.eqGuardType P.depth t then none else fltL P fs.toList
  | _ => none
def eqV : TypeDesc → Value → Value → Option Bool
  | .int _, .int k a, .int k' b => if k = k' then some (a == b) else none
  | .string, .string a, .string b => some (a.toList == b.toList)
  | .bool, .bool a, .bool b => some (a == b)
  | _, _, _ => none
def flatE : List (Nat × TypeDesc) → Array Value → Array Value → Option Bool
  | [], _, _ => some true
  | (i, d) :: r, xs, ys =>
    match xs[i]?, ys[i]? with
    | some a, some b => match eqV d a b, flatE r xs ys with
      | some p, some q => some (p && q)
      | _, _ => none
    | _, _ => none
theorem run_eqFields (d : Nat) (xs ys : Array Value) (w : World) : ∀ (fs : List Field) (fl : List (Nat × TypeDesc)) (b : Bool), fltL P fs = some fl → flatE fl xs ys = some b → (Op.eqFields (d + 1) xs ys fs).run P w = .ok b w
  | [], fl, b, h1, h2 => by
    simp only [fltL, Option.some.injEq] at h1
    subst h1
    simp only [flatE, Option.some.injEq] at h2
    subst h2
    simp [Op.eqFields]
  | f :: r, fl, b, h1, h2 => by
    simp only [fltL] at h1
    split at h1
    · rename_i a rl hf hr
      simp only [Option.some.injEq] at h1
      subst h1
      obtain ⟨i, ds⟩ := a
      simp only [flatE] at h2
      split at h2
      · rename_i va vb hva hvb
        split at h2
        · rename_i p q hp hq
          simp only [Option.some.injEq] at h2
          subst h2
          have ih := run_eqFields d xs ys w r rl q hr hq
          unfold fltF at hf
          split at hf
          · cases hf
          · rename_i hname
            have key : ∀ (hof : f.offset = i) (hag : (isAgg f.type).run P w = .ok false w) (he : (Op.equalIn (d + 1) f.type va vb).run P w = .ok p w), (Op.eqFields (d + 1) xs ys (f :: r)).run P w = .ok (p && q) w := by
              intro hof hag he
              simp only [Op.eqFields, ne_eq, hname, not_false_eq_true, if_true, Sem.run_bind]
              have h3 : (part f.type xs f.offset).run P w = .ok va w := by simp [part, hag, hof, hva]
              have h4 : (part f.type ys f.offset).run P w = .ok vb w := by simp [part, hag, hof, hvb]
              simp only [h3, h4, he, Result.andThen_ok]
              cases p with
              | true => simpa using ih
              | false => simp
            split at hf
            · rename_i k hu
              simp only [Option.some.injEq, Prod.mk.injEq] at hf
              obtain ⟨hof, rfl⟩ := hf
              refine key hof (by simp [isAgg, run_underlying hu]) ?_
              unfold eqV at hp
              split at hp
              · rename_i a' b' c' d' e'
                split at hp
                · rename_i hkk
                  simp only [Option.some.injEq] at hp
                  subst hp; subst hkk
                  exact run_equalIn_int w d f.type _ k _ _ hu
                · cases hp
              · rename_i hh; cases hh
              · rename_i hh; cases hh
              · cases hp
            · rename_i hu
              simp only [Option.some.injEq, Prod.mk.injEq] at hf
              obtain ⟨hof, rfl⟩ := hf
              refine key hof (by simp [isAgg, run_underlying hu]) ?_
              unfold eqV at hp
              split at hp
              · rename_i hh; cases hh
              · simp only [Option.some.injEq] at hp
                subst hp
                exact run_equalIn_string w d f.type _ _ hu
              · rename_i hh; cases hh
              · cases hp
            · rename_i hu
              simp only [Option.some.injEq, Prod.mk.injEq] at hf
              obtain ⟨hof, rfl⟩ := hf
              refine key hof (by simp [isAgg, run_underlying hu]) ?_
              unfold eqV at hp
              split at hp
              · rename_i hh; cases hh
              · rename_i hh; cases hh
              · simp only [Option.some.injEq] at hp
                subst hp
                exact run_equalIn_bool' w d f.type _ _ hu
              · cases hp
            · cases hf
        · cases h2
      · cases h2
    · cases h1
theorem flt_run {ty : TypeId} {fl : List (Nat × TypeDesc)} {xs ys : Array Value} {b : Bool} (hf : flt P ty = some fl) (he : flatE fl xs ys = some b) (w : World) :
    (∀ op x y, (eqGuard op ty x y (.agg xs) (.agg ys)).run P w = .ok () w) ∧ (Op.equalIn 10000 ty (.agg xs) (.agg ys)).run P w = .ok b w := by
  unfold flt at hf
  split at hf
  · rename_i fs hu
    split at hf
    · cases hf
    · rename_i hg
      simp only [Bool.not_eq_true, Bool.or_eq_false_iff] at hg
      have hfo : P.fieldsOf ty = fs := by simp [Program.fieldsOf, hu]
      refine ⟨fun op x y => run_eqGuard_agg w op ty x y xs ys hg.2, ?_⟩
      rw [run_equalIn_agg w 9999 ty xs ys (by rw [hfo]; exact hu) hg.1, hfo]
      exact run_eqFields 9998 xs ys w fs.toList fl b hf he
  · cases hf
theorem SL.eqAgg {ty uy : TypeId} {fl : List (Nat × TypeDesc)} {xs ys : Array Value} {b : Bool} (ho : At ops N l o t (.binOp .eql ty x y uy)) (hf : flt P ty = some fl) (hx : evl l x = some (.agg xs)) (hy : evl l y = some (.agg ys)) (he : flatE fl xs ys = some b)
    (h : SL P ro K w0 N ops Hs items Q D ((t, .bool b) :: l) H) : SL P ro K w0 N ops Hs (.cons (tk, o) items) Q D l H :=
  SL.val ho rfl (fun a w ha _ => by
    obtain ⟨h1, h2⟩ := flt_run hf he w
    simp [execOp, ho.op, ha.eval hx, ha.eval hy, h1, run_eql_struct, h2]) h
theorem SL.neAgg {ty uy : TypeId} {fl : List (Nat × TypeDesc)} {xs ys : Array Value} {b : Bool} (ho : At ops N l o t (.binOp .neq ty x y uy)) (hf : flt P ty = some fl) (hx : evl l x = some (.agg xs)) (hy : evl l y = some (.agg ys)) (he : flatE fl xs ys = some b)
    (h : SL P ro K w0 N ops Hs items Q D ((t, .bool (!b)) :: l) H) : SL P ro K w0 N ops Hs (.cons (tk, o) items) Q D l H :=
  SL.val ho rfl (fun a w ha _ => by
    obtain ⟨h1, h2⟩ := flt_run hf he w
    simp [execOp, ho.op, ha.eval hx, ha.eval hy, h1, run_neq_struct, h2]) h
/-- texts that are the same -/
theorem Bin.sameS {s : List UInt8} : Bin .eql (vS s) (vS s) (.bool true) := fun P w ty x y => by
  have := Bin.eqS (s := s) (t := s) P w ty x y
  simpa using this
end Go.Proofs.YtddjneafgddlcaaDoor

/- Closed facts of the loaded program: types and functions, each by the kernel. No condition. -/
namespace Go.Proofs.YtddjneafgddlcaaDoor
open Go
set_option maxRecDepth 100000
theorem mix : Tryd.prog.follows .mixedOrders = true := by kernel_rfl
theorem ag154 : agz Tryd.prog 154 = some 16 := by kernel_rfl
theorem ag162 : agz Tryd.prog 162 = some 8 := by kernel_rfl
theorem ag164 : agz Tryd.prog 164 = some 10 := by kernel_rfl
theorem ag171 : agz Tryd.prog 171 = some 4 := by kernel_rfl
theorem ag177 : agz Tryd.prog 177 = some 2 := by kernel_rfl
theorem ag181 : agz Tryd.prog 181 = some 64 := by kernel_rfl
theorem ag41 : agz Tryd.prog 41 = some 2 := by kernel_rfl
theorem ag70 : agz Tryd.prog 70 = some 2 := by kernel_rfl
theorem ag87 : agz Tryd.prog 87 = some 4 := by kernel_rfl
theorem by4 : byt Tryd.prog 4 = some 1 := by kernel_rfl
theorem by41 : byt Tryd.prog 41 = some 24 := by kernel_rfl
theorem by5 : byt Tryd.prog 5 = some 1 := by kernel_rfl
theorem by70 : byt Tryd.prog 70 = some 24 := by kernel_rfl
theorem by9 : byt Tryd.prog 9 = some 16 := by kernel_rfl
theorem cal10 : callable Tryd.prog 10 = true := by kernel_rfl
theorem cal100 : callable Tryd.prog 100 = true := by kernel_rfl
theorem cal101 : callable Tryd.prog 101 = true := by kernel_rfl
theorem cal102 : callable Tryd.prog 102 = true := by kernel_rfl
theorem cal11 : callable Tryd.prog 11 = true := by kernel_rfl
theorem cal12 : callable Tryd.prog 12 = true := by kernel_rfl
theorem cal13 : callable Tryd.prog 13 = true := by kernel_rfl
theorem cal14 : callable Tryd.prog 14 = true := by kernel_rfl
theorem cal15 : callable Tryd.prog 15 = true := by kernel_rfl
theorem cal16 : callable Tryd.prog 16 = true := by kernel_rfl
theorem cal17 : callable Tryd.prog 17 = true := by kernel_rfl
theorem cal18 : callable Tryd.prog 18 = true := by kernel_rfl
theorem cal19 : callable Tryd.prog 19 = true := by kernel_rfl
theorem cal20 : callable Tryd.prog 20 = true := by kernel_rfl
theorem cal21 : callable Tryd.prog 21 = true := by kernel_rfl
theorem cal22 : callable Tryd.prog 22 = true := by kernel_rfl
theorem cal23 : callable Tryd.prog 23 = true := by kernel_rfl
theorem cal24 : callable Tryd.prog 24 = true := by kernel_rfl
theorem cal25 : callable Tryd.prog 25 = true := by kernel_rfl
theorem cal26 : callable Tryd.prog 26 = true := by kernel_rfl
theorem cal27 : callable Tryd.prog 27 = true := by kernel_rfl
theorem cal28 : callable Tryd.prog 28 = true := by kernel_rfl
theorem cal29 : callable Tryd.prog 29 = true := by kernel_rfl
theorem cal30 : callable Tryd.prog 30 = true := by kernel_rfl
theorem cal31 : callable Tryd.prog 31 = true := by kernel_rfl
theorem cal32 : callable Tryd.prog 32 = true := by kernel_rfl
theorem cal33 : callable Tryd.prog 33 = true := by kernel_rfl
theorem cal34 : callable Tryd.prog 34 = true := by kernel_rfl
theorem cal35 : callable Tryd.prog 35 = true := by kernel_rfl
theorem cal36 : callable Tryd.prog 36 = true := by kernel_rfl
theorem cal37 : callable Tryd.prog 37 = true := by kernel_rfl
theorem cal38 : callable Tryd.prog 38 = true := by kernel_rfl
theorem cal39 : callable Tryd.prog 39 = true := by kernel_rfl
theorem cal41 : callable Tryd.prog 41 = true := by kernel_rfl
theorem cal42 : callable Tryd.prog 42 = true := by kernel_rfl
theorem cal43 : callable Tryd.prog 43 = true := by kernel_rfl
theorem cal44 : callable Tryd.prog 44 = true := by kernel_rfl
theorem cal45 : callable Tryd.prog 45 = true := by kernel_rfl
theorem cal46 : callable Tryd.prog 46 = true := by kernel_rfl
theorem cal47 : callable Tryd.prog 47 = true := by kernel_rfl
theorem cal48 : callable Tryd.prog 48 = true := by kernel_rfl
theorem cal49 : callable Tryd.prog 49 = true := by kernel_rfl
theorem cal50 : callable Tryd.prog 50 = true := by kernel_rfl
theorem cal51 : callable Tryd.prog 51 = true := by kernel_rfl
theorem cal52 : callable Tryd.prog 52 = true := by kernel_rfl
theorem cal53 : callable Tryd.prog 53 = true := by kernel_rfl
theorem cal55 : callable Tryd.prog 55 = true := by kernel_rfl
theorem cal57 : callable Tryd.prog 57 = true := by kernel_rfl
theorem cal58 : callable Tryd.prog 58 = true := by kernel_rfl
theorem cal59 : callable Tryd.prog 59 = true := by kernel_rfl
theorem cal60 : callable Tryd.prog 60 = true := by kernel_rfl
theorem cal61 : callable Tryd.prog 61 = true := by kernel_rfl
theorem cal62 : callable Tryd.prog 62 = true := by kernel_rfl
theorem cal63 : callable Tryd.prog 63 = true := by kernel_rfl
theorem cal64 : callable Tryd.prog 64 = true := by kernel_rfl
theorem cal65 : callable Tryd.prog 65 = true := by kernel_rfl
theorem cal66 : callable Tryd.prog 66 = true := by kernel_rfl
theorem cal67 : callable Tryd.prog 67 = true := by kernel_rfl
theorem cal68 : callable Tryd.prog 68 = true := by kernel_rfl
theorem cal69 : callable Tryd.prog 69 = true := by kernel_rfl
theorem cal70 : callable Tryd.prog 70 = true := by kernel_rfl
theorem cal71 : callable Tryd.prog 71 = true := by kernel_rfl
theorem cal72 : callable Tryd.prog 72 = true := by kernel_rfl
theorem cal75 : callable Tryd.prog 75 = true := by kernel_rfl
theorem cal76 : callable Tryd.prog 76 = true := by kernel_rfl
theorem cal77 : callable Tryd.prog 77 = true := by kernel_rfl
theorem cal78 : callable Tryd.prog 78 = true := by kernel_rfl
theorem cal79 : callable Tryd.prog 79 = true := by kernel_rfl
theorem cal80 : callable Tryd.prog 80 = true := by kernel_rfl
theorem cal81 : callable Tryd.prog 81 = true := by kernel_rfl
theorem cal82 : callable Tryd.prog 82 = true := by kernel_rfl
theorem cal83 : callable Tryd.prog 83 = true := by kernel_rfl
theorem cal84 : callable Tryd.prog 84 = true := by kernel_rfl
theorem cal85 : callable Tryd.prog 85 = true := by kernel_rfl
theorem cal86 : callable Tryd.prog 86 = true := by kernel_rfl
theorem cal87 : callable Tryd.prog 87 = true := by kernel_rfl
theorem cal88 : callable Tryd.prog 88 = true := by kernel_rfl
theorem cal89 : callable Tryd.prog 89 = true := by kernel_rfl
theorem cal9 : callable Tryd.prog 9 = true := by kernel_rfl
theorem cal90 : callable Tryd.prog 90 = true := by kernel_rfl
theorem cal91 : callable Tryd.prog 91 = true := by kernel_rfl
theorem cal92 : callable Tryd.prog 92 = true := by kernel_rfl
theorem cal93 : callable Tryd.prog 93 = true := by kernel_rfl
theorem cal94 : callable Tryd.prog 94 = true := by kernel_rfl
theorem cal95 : callable Tryd.prog 95 = true := by kernel_rfl
theorem cal96 : callable Tryd.prog 96 = true := by kernel_rfl
theorem cal97 : callable Tryd.prog 97 = true := by kernel_rfl
theorem cal98 : callable Tryd.prog 98 = true := by kernel_rfl
theorem cal99 : callable Tryd.prog 99 = true := by kernel_rfl
theorem ce5 : Tryd.prog.cellsOf 5 = 1 := by kernel_rfl
theorem fo108_0 : fo Tryd.prog 108 0 = some 0 := by kernel_rfl
theorem fo108_1 : fo Tryd.prog 108 1 = some 1 := by kernel_rfl
theorem fo108_2 : fo Tryd.prog 108 2 = some 2 := by kernel_rfl
theorem fo110_5 : fo Tryd.prog 110 5 = some 5 := by kernel_rfl
theorem fo142_0 : fo Tryd.prog 142 0 = some 0 := by kernel_rfl
theorem fo164_0 : fo Tryd.prog 164 0 = some 0 := by kernel_rfl
theorem fo164_1 : fo Tryd.prog 164 1 = some 8 := by kernel_rfl
theorem fo164_2 : fo Tryd.prog 164 2 = some 9 := by kernel_rfl
theorem fo41_0 : fo Tryd.prog 41 0 = some 0 := by kernel_rfl
theorem fo41_1 : fo Tryd.prog 41 1 = some 1 := by kernel_rfl
theorem fo62_0 : fo Tryd.prog 62 0 = some 0 := by kernel_rfl
theorem fo62_1 : fo Tryd.prog 62 1 = some 1 := by kernel_rfl
theorem fo62_2 : fo Tryd.prog 62 2 = some 2 := by kernel_rfl
theorem fo62_3 : fo Tryd.prog 62 3 = some 3 := by kernel_rfl
theorem fo64_1 : fo Tryd.prog 64 1 = some 1 := by kernel_rfl
theorem fo66_0 : fo Tryd.prog 66 0 = some 0 := by kernel_rfl
theorem fo66_1 : fo Tryd.prog 66 1 = some 4 := by kernel_rfl
theorem fo66_2 : fo Tryd.prog 66 2 = some 5 := by kernel_rfl
theorem fo66_3 : fo Tryd.prog 66 3 = some 6 := by kernel_rfl
theorem fo66_4 : fo Tryd.prog 66 4 = some 7 := by kernel_rfl
theorem fo70_0 : fo Tryd.prog 70 0 = some 0 := by kernel_rfl
theorem fo70_1 : fo Tryd.prog 70 1 = some 1 := by kernel_rfl
theorem fo74_0 : fo Tryd.prog 74 0 = some 0 := by kernel_rfl
theorem fo74_1 : fo Tryd.prog 74 1 = some 1 := by kernel_rfl
theorem fo74_2 : fo Tryd.prog 74 2 = some 2 := by kernel_rfl
theorem fo74_3 : fo Tryd.prog 74 3 = some 3 := by kernel_rfl
theorem fo74_4 : fo Tryd.prog 74 4 = some 4 := by kernel_rfl
theorem fo74_5 : fo Tryd.prog 74 5 = some 5 := by kernel_rfl
theorem fo87_0 : fo Tryd.prog 87 0 = some 0 := by kernel_rfl
theorem fo87_1 : fo Tryd.prog 87 1 = some 1 := by kernel_rfl
theorem fo87_2 : fo Tryd.prog 87 2 = some 2 := by kernel_rfl
theorem fo87_3 : fo Tryd.prog 87 3 = some 3 := by kernel_rfl
theorem fo95_0 : fo Tryd.prog 95 0 = some 0 := by kernel_rfl
theorem fo95_1 : fo Tryd.prog 95 1 = some 1 := by kernel_rfl
theorem li142 : liesAt Tryd.prog Tryd.prog.depth 142 (2 / Tryd.prog.cellsOf 142) 0 95 1 = true := by kernel_rfl
theorem li95 : liesAt Tryd.prog Tryd.prog.depth 95 (2 / Tryd.prog.cellsOf 95) 0 95 1 = true := by kernel_rfl
theorem pk108 : plk Tryd.prog 108 = true := by kernel_rfl
theorem pk110 : plk Tryd.prog 110 = true := by kernel_rfl
theorem pk164 : plk Tryd.prog 164 = true := by kernel_rfl
theorem pk178 : plk Tryd.prog 178 = true := by kernel_rfl
theorem pk41 : plk Tryd.prog 41 = true := by kernel_rfl
theorem pk64 : plk Tryd.prog 64 = true := by kernel_rfl
theorem pk66 : plk Tryd.prog 66 = true := by kernel_rfl
theorem pk70 : plk Tryd.prog 70 = true := by kernel_rfl
theorem pk74 : plk Tryd.prog 74 = true := by kernel_rfl
theorem pk87 : plk Tryd.prog 87 = true := by kernel_rfl
theorem pl108 : plc Tryd.prog 108 = some [(0, 1), (1, 1), (2, 1), (3, 3), (6, 1), (7, 1)] := by kernel_rfl
theorem pl110 : plc Tryd.prog 110 = some [(0, 1), (1, 1), (2, 1), (3, 1), (4, 1), (5, 1)] := by kernel_rfl
theorem pl164 : plc Tryd.prog 164 = some [(0, 8), (8, 1), (9, 1)] := by kernel_rfl
theorem pl178 : plc Tryd.prog 178 = some [(0, 2), (2, 2)] := by kernel_rfl
theorem pl41 : plc Tryd.prog 41 = some [(0, 1), (1, 1)] := by kernel_rfl
theorem pl64 : plc Tryd.prog 64 = some [(0, 1), (1, 1), (2, 1)] := by kernel_rfl
theorem pl66 : plc Tryd.prog 66 = some [(0, 4), (4, 1), (5, 1), (6, 1), (7, 3)] := by kernel_rfl
theorem pl70 : plc Tryd.prog 70 = some [(0, 1), (1, 1)] := by kernel_rfl
theorem pl74 : plc Tryd.prog 74 = some [(0, 1), (1, 1), (2, 1), (3, 1), (4, 1), (5, 1)] := by kernel_rfl
theorem pl87 : plc Tryd.prog 87 = some [(0, 1), (1, 1), (2, 1), (3, 1)] := by kernel_rfl
theorem sc106 : scl Tryd.prog 106 = true := by kernel_rfl
theorem sc158 : scl Tryd.prog 158 = true := by kernel_rfl
theorem sc22 : scl Tryd.prog 22 = true := by kernel_rfl
theorem sc24 : scl Tryd.prog 24 = true := by kernel_rfl
theorem sc28 : scl Tryd.prog 28 = true := by kernel_rfl
theorem sc3 : scl Tryd.prog 3 = true := by kernel_rfl
theorem sc31 : scl Tryd.prog 31 = true := by kernel_rfl
theorem sc34 : scl Tryd.prog 34 = true := by kernel_rfl
theorem sc4 : scl Tryd.prog 4 = true := by kernel_rfl
theorem sc49 : scl Tryd.prog 49 = true := by kernel_rfl
theorem sc51 : scl Tryd.prog 51 = true := by kernel_rfl
theorem sc59 : scl Tryd.prog 59 = true := by kernel_rfl
theorem sc60 : scl Tryd.prog 60 = true := by kernel_rfl
theorem sc9 : scl Tryd.prog 9 = true := by kernel_rfl
theorem sc93 : scl Tryd.prog 93 = true := by kernel_rfl
theorem sz106 : tsz Tryd.prog 106 = some 1 := by kernel_rfl
theorem sz154 : tsz Tryd.prog 154 = some 16 := by kernel_rfl
theorem sz164 : tsz Tryd.prog 164 = some 10 := by kernel_rfl
theorem sz171 : tsz Tryd.prog 171 = some 4 := by kernel_rfl
theorem sz177 : tsz Tryd.prog 177 = some 2 := by kernel_rfl
theorem sz181 : tsz Tryd.prog 181 = some 64 := by kernel_rfl
theorem sz22 : tsz Tryd.prog 22 = some 1 := by kernel_rfl
theorem sz3 : tsz Tryd.prog 3 = some 1 := by kernel_rfl
theorem sz31 : tsz Tryd.prog 31 = some 1 := by kernel_rfl
theorem sz34 : tsz Tryd.prog 34 = some 1 := by kernel_rfl
theorem sz4 : tsz Tryd.prog 4 = some 1 := by kernel_rfl
theorem sz41 : tsz Tryd.prog 41 = some 2 := by kernel_rfl
theorem sz49 : tsz Tryd.prog 49 = some 1 := by kernel_rfl
theorem sz5 : tsz Tryd.prog 5 = some 1 := by kernel_rfl
theorem sz51 : tsz Tryd.prog 51 = some 1 := by kernel_rfl
theorem sz70 : tsz Tryd.prog 70 = some 2 := by kernel_rfl
theorem sz87 : tsz Tryd.prog 87 = some 4 := by kernel_rfl
theorem sz9 : tsz Tryd.prog 9 = some 1 := by kernel_rfl
theorem sz93 : tsz Tryd.prog 93 = some 1 := by kernel_rfl
theorem sz95 : tsz Tryd.prog 95 = some 2 := by kernel_rfl
theorem ty106 : Tryd.prog.underlying 106 = some (.slice 4) := by kernel_rfl
theorem ty119 : Tryd.prog.underlying 119 = some (.pointer 5) := by kernel_rfl
theorem ty134 : Tryd.prog.underlying 134 = some (.unsafePointer) := by kernel_rfl
theorem ty154 : Tryd.prog.underlying 154 = some (.array 16 22) := by kernel_rfl
theorem ty156 : Tryd.prog.underlying 156 = some (.slice 22) := by kernel_rfl
theorem ty158 : Tryd.prog.underlying 158 = some (.pointer 164) := by kernel_rfl
theorem ty161 : Tryd.prog.underlying 161 = some (.array 8 22) := by kernel_rfl
theorem ty162 : Tryd.prog.underlying 162 = some (.array 8 22) := by kernel_rfl
theorem ty166 : Tryd.prog.underlying 166 = some (.array 5 3) := by kernel_rfl
theorem ty170 : Tryd.prog.underlying 170 = some (.array 4 3) := by kernel_rfl
theorem ty171 : Tryd.prog.underlying 171 = some (.array 4 22) := by kernel_rfl
theorem ty177 : Tryd.prog.underlying 177 = some (.array 2 3) := by kernel_rfl
theorem ty178 : Tryd.prog.underlying 178 = some (.array 2 177) := by kernel_rfl
theorem ty181 : Tryd.prog.underlying 181 = some (.array 64 22) := by kernel_rfl
theorem ty2 : Tryd.prog.underlying 2 = some (.int .i64) := by kernel_rfl
theorem ty22 : Tryd.prog.underlying 22 = some (.int .u32) := by kernel_rfl
theorem ty24 : Tryd.prog.underlying 24 = some (.pointer 66) := by kernel_rfl
theorem ty28 : Tryd.prog.underlying 28 = some (.pointer 74) := by kernel_rfl
theorem ty3 : Tryd.prog.underlying 3 = some (.int .i64) := by kernel_rfl
theorem ty31 : Tryd.prog.underlying 31 = some (.slice 70) := by kernel_rfl
theorem ty34 : Tryd.prog.underlying 34 = some (.int .u64) := by kernel_rfl
theorem ty49 : Tryd.prog.underlying 49 = some (.slice 9) := by kernel_rfl
theorem ty5 : Tryd.prog.underlying 5 = some (.int .u8) := by kernel_rfl
theorem ty51 : Tryd.prog.underlying 51 = some (.slice 5) := by kernel_rfl
theorem ty53 : Tryd.prog.underlying 53 = some (.slice 41) := by kernel_rfl
theorem ty59 : Tryd.prog.underlying 59 = some (.map 22 9) := by kernel_rfl
theorem ty60 : Tryd.prog.underlying 60 = some (.map 22 4) := by kernel_rfl
theorem ty9 : Tryd.prog.underlying 9 = some (.string) := by kernel_rfl
theorem ty90 : Tryd.prog.underlying 90 = some (.int .u64) := by kernel_rfl
theorem ty93 : Tryd.prog.underlying 93 = some (.pointer 95) := by kernel_rfl
theorem ze108 : zer Tryd.prog 108 = some (.agg #[.slice none 0 0, .slice none 0 0, .slice none 0 0, .int .u64 0, .string ⟨⟨[]⟩⟩, .int .u32 0, .int .i64 0, .bool false]) := by kernel_rfl
theorem ze110 : zer Tryd.prog 110 = some (.agg #[.pointer none, .slice none 0 0, .int .u32 0, .int .u32 0, .int .u64 0, .slice none 0 0]) := by kernel_rfl
theorem ze142 : zer Tryd.prog 142 = some (.agg #[.pointer none, .slice none 0 0]) := by kernel_rfl
theorem ze154 : zer Tryd.prog 154 = some (.agg #[.int .u32 0, .int .u32 0, .int .u32 0, .int .u32 0, .int .u32 0, .int .u32 0, .int .u32 0, .int .u32 0, .int .u32 0, .int .u32 0, .int .u32 0, .int .u32 0, .int .u32 0, .int .u32 0, .int .u32 0, .int .u32 0]) := by kernel_rfl
theorem ze161 : zer Tryd.prog 161 = some (.agg #[.int .u32 0, .int .u32 0, .int .u32 0, .int .u32 0, .int .u32 0, .int .u32 0, .int .u32 0, .int .u32 0]) := by kernel_rfl
theorem ze164 : zer Tryd.prog 164 = some (.agg #[.int .u32 0, .int .u32 0, .int .u32 0, .int .u32 0, .int .u32 0, .int .u32 0, .int .u32 0, .int .u32 0, .string ⟨⟨[]⟩⟩, .int .i64 0]) := by kernel_rfl
theorem ze166 : zer Tryd.prog 166 = some (.agg #[.int .i64 0, .int .i64 0, .int .i64 0, .int .i64 0, .int .i64 0]) := by kernel_rfl
theorem ze170 : zer Tryd.prog 170 = some (.agg #[.int .i64 0, .int .i64 0, .int .i64 0, .int .i64 0]) := by kernel_rfl
theorem ze171 : zer Tryd.prog 171 = some (.agg #[.int .u32 0, .int .u32 0, .int .u32 0, .int .u32 0]) := by kernel_rfl
theorem ze177 : zer Tryd.prog 177 = some (.agg #[.int .i64 0, .int .i64 0]) := by kernel_rfl
theorem ze178 : zer Tryd.prog 178 = some (.agg #[.int .i64 0, .int .i64 0, .int .i64 0, .int .i64 0]) := by kernel_rfl
theorem ze181 : zer Tryd.prog 181 = some (.agg #[.int .u32 0, .int .u32 0, .int .u32 0, .int .u32 0, .int .u32 0, .int .u32 0, .int .u32 0, .int .u32 0, .int .u32 0, .int .u32 0, .int .u32 0, .int .u32 0, .int .u32 0, .int .u32 0, .int .u32 0, .int .u32 0, .int .u32 0, .int .u32 0, .int .u32 0, .int .u32 0, .int .u32 0, .int .u32 0, .int .u32 0, .int .u32 0, .int .u32 0, .int .u32 0, .int .u32 0, .int .u32 0, .int .u32 0, .int .u32 0, .int .u32 0, .int .u32 0, .int .u32 0, .int .u32 0, .int .u32 0, .int .u32 0, .int .u32 0, .int .u32 0, .int .u32 0, .int .u32 0, .int .u32 0, .int .u32 0, .int .u32 0, .int .u32 0, .int .u32 0, .int .u32 0, .int .u32 0, .int .u32 0, .int .u32 0, .int .u32 0, .int .u32 0, .int .u32 0, .int .u32 0, .int .u32 0, .int .u32 0, .int .u32 0, .int .u32 0, .int .u32 0, .int .u32 0, .int .u32 0, .int .u32 0, .int .u32 0, .int .u32 0, .int .u32 0]) := by kernel_rfl
theorem ze22 : zer Tryd.prog 22 = some (.int .u32 0) := by kernel_rfl
theorem ze3 : zer Tryd.prog 3 = some (.int .i64 0) := by kernel_rfl
theorem ze4 : zer Tryd.prog 4 = some (.bool false) := by kernel_rfl
theorem ze41 : zer Tryd.prog 41 = some (.agg #[.int .u32 0, .string ⟨⟨[]⟩⟩]) := by kernel_rfl
theorem ze5 : zer Tryd.prog 5 = some (.int .u8 0) := by kernel_rfl
theorem ze64 : zer Tryd.prog 64 = some (.agg #[.int .u64 0, .string ⟨⟨[]⟩⟩, .int .u32 0]) := by kernel_rfl
theorem ze66 : zer Tryd.prog 66 = some (.agg #[.bool false, .bool false, .int .i64 0, .int .i64 0, .slice none 0 0, .map none, .map none, .int .u64 0, .string ⟨⟨[]⟩⟩, .int .u32 0]) := by kernel_rfl
theorem ze70 : zer Tryd.prog 70 = some (.agg #[.int .u32 0, .string ⟨⟨[]⟩⟩]) := by kernel_rfl
theorem ze74 : zer Tryd.prog 74 = some (.agg #[.pointer none, .slice none 0 0, .int .u32 0, .int .u32 0, .int .u64 0, .map none]) := by kernel_rfl
theorem ze87 : zer Tryd.prog 87 = some (.agg #[.int .u32 0, .int .u32 0, .int .u32 0, .int .u64 0]) := by kernel_rfl
theorem ze9 : zer Tryd.prog 9 = some (.string ⟨⟨[]⟩⟩) := by kernel_rfl
theorem ze95 : zer Tryd.prog 95 = some (.agg #[.pointer none, .slice none 0 0]) := by kernel_rfl
end Go.Proofs.YtddjneafgddlcaaDoor

/- Walks of the ring's functions: what a ring is, what is found in it. Condition: rings of at most 2^40 keys. -/
namespace Go.Proofs.YtddjneafgddlcaaDoor
open Go
variable {K : Nat → Prop} {w0 : World} {H : List Chunk}

def encGB (p : UInt32 × Bool) : List Value := [vU32 p.1, vB p.2]
theorem c_keys_generations (v : Value) : Con Tryd.prog K w0 59 [v] [] H (fun r M => ∃ b, r = .func (.func 75) #[] #[vP b 0] ∧ M = [own b (.cells v.cells 31)]) := by
  refine Con.enter Tryd.func59 rfl rfl ?_
  refine SX.sr ?_
  refine SL.box ⟨rfl, rfl, rfl, rfl⟩ rfl (fun _ => trivial) fun b0 => ?_
  refine SL.asg ⟨rfl, rfl, rfl, rfl⟩ rfl ?_
  refine SL.nx ?_
  refine SX.sr ?_
  refine SL.mkf (fv := #[]) (cv := #[_]) ⟨rfl, rfl, rfl, rfl⟩ rfl rfl ?_
  refine SL.asg ⟨rfl, rfl, rfl, rfl⟩ rfl ?_
  refine SL.nx ?_
  refine SX.ret ?_
  exact SQ.fret (res1 rfl rfl) (ret_of (M := [_]) ⟨b0, rfl, rfl⟩ fun _ h => h)

theorem q_keys_generations (v : Value) (ks : List KeyA) (b : Nat) (hk : SlOf K w0 encKey 2 v ks) (hv : v.cells = #[v]) (hn : ks.length ≤ 1099511627776) : Seq Tryd.prog K w0 75 [vP b 0] [own b (.cells v.cells 31)] encGB (gensA ks) := by
  intro lp J X T hy G h0
  rw [hv]
  refine Con.enter Tryd.func75 rfl rfl ?_
  refine SX.sr ?_
  refine SL.asg ⟨rfl, rfl, rfl, rfl⟩ rfl ?_
  refine SL.nx ?_
  refine SX.sr ?_
  refine SL.ld ⟨rfl, rfl, rfl, rfl⟩ sc31 rfl (cell_own 0 rfl rfl) ?_
  refine SL.lenV hk ⟨rfl, rfl, rfl, rfl⟩ ty31 rfl ?_
  refine SL.mv ⟨rfl, rfl, rfl, rfl⟩ rfl ?_
  refine SL.nx ?_
  refine SX.block ?_
  refine SX.mono (SX.loop (α := Nat × List Chunk) (fun x => x.1 ≤ ks.length ∧ J ((gensA ks).take x.1) x.2) (fun x => [(0, vY lp), (3, vU32 (prevGen ks x.1)), (6, v), (7, vI ks.length), (8, vI x.1)]) (fun x => own b (.cells #[v] 31) :: (x.2 ++ T)) (fun x => ks.length - x.1) (fun x D hp => ?_) (0, G) ⟨Nat.zero_le _, h0⟩) (by repeat' (first | exact trivial | refine And.intro rfl ?_))
  obtain ⟨i, G⟩ := x
  obtain ⟨hi, hJ⟩ := hp
  simp only at hi hJ
  refine SX.sr ?_
  refine SL.bin ⟨rfl, rfl, rfl, rfl⟩ rfl rfl Bin.ltI ?_
  refine SL.nx ?_
  refine SX.seq ?_
  refine SX.cond rfl (fun hc => ?_) (fun hc => ?_)
  · skip
    have hlt : i < ks.length := by simpa using hc
    obtain ⟨key, hkey⟩ := get_of_lt hlt
    have hg := gensA_get ks i hlt
    rw [getD_of hkey] at hg
    refine SX.skip ?_
    refine SQ.thn ?_
    refine SX.seq ?_
    refine SX.block ?_
    refine SX.sr ?_
    refine SL.iaV i key hk ⟨rfl, rfl, rfl, rfl⟩ ty31 sz70 rfl rfl rfl hkey fun be off hcell => ?_
    refine SL.ldA (encKey key) ⟨rfl, rfl, rfl, rfl⟩ ag70 rfl rfl (cells_at (hcell _)) ?_
    refine SL.alloc ⟨rfl, rfl, rfl, rfl⟩ ze70 (fun _ => trivial) fun b0 => ?_
    refine SL.st 0 ⟨rfl, rfl, rfl⟩ rfl rfl rfl sz70 rfl rfl rfl trivial ?_
    refine SL.nx ?_
    refine SX.seq ?_
    refine SX.sr ?_
    refine SL.mv ⟨rfl, rfl, rfl, rfl⟩ rfl ?_
    refine SL.fa ⟨rfl, rfl, rfl, rfl⟩ rfl fo70_0 ?_
    refine SL.ld ⟨rfl, rfl, rfl, rfl⟩ sc22 rfl (cell_own 0 rfl rfl) ?_
    refine SL.fa ⟨rfl, rfl, rfl, rfl⟩ rfl fo70_0 ?_
    refine SL.ld ⟨rfl, rfl, rfl, rfl⟩ sc22 rfl (cell_own 0 rfl rfl) ?_
    refine SL.mv ⟨rfl, rfl, rfl, rfl⟩ rfl ?_
    refine SL.bin ⟨rfl, rfl, rfl, rfl⟩ rfl rfl (Bin.gt32 (b := prevGen ks i)) ?_
    refine SL.mv ⟨rfl, rfl, rfl, rfl⟩ rfl ?_
    refine SL.and (c := decide ((key.secret.length : Int) = 32)) 19 5 24 rfl (fun hb k => ?_) (fun hb k => ?_) ?_
    · skip
      refine SL.fa ⟨rfl, rfl, rfl, rfl⟩ rfl fo70_1 ?_
      refine SL.ld ⟨rfl, rfl, rfl, rfl⟩ sc9 rfl (cell_own 0 rfl rfl) ?_
      refine SL.lenS ⟨rfl, rfl, rfl, rfl⟩ ty9 rfl ?_
      refine SL.bin ⟨rfl, rfl, rfl, rfl⟩ rfl rfl Bin.eqI ?_
      refine SL.pk ⟨rfl, rfl, rfl, rfl⟩ rfl rfl ?_
      exact k.mono (by repeat' (first | exact trivial | refine And.intro rfl ?_))
    · skip
      refine SL.pass rfl rfl rfl ?_
      refine SL.pass rfl rfl rfl ?_
      refine SL.pass rfl rfl rfl ?_
      refine SL.pass rfl rfl rfl ?_
      refine SL.pk ⟨rfl, rfl, rfl, rfl⟩ rfl rfl ?_
      exact k.mono (by repeat' (first | exact trivial | refine And.intro rfl ?_))
    refine SL.yld (M2 := [_, _]) (G := G) (T := T) (vs := [_, _]) (ok := fun G1 => J ((gensA ks).take (i + 1)) G1) (no := X) ⟨rfl, rfl, rfl, rfl⟩ rfl ⟨rfl, rfl, trivial⟩ rfl ?_ (fun bb G1 hG1 => ⟨trivial, ?_⟩)
    · intro M
      have := hy _ _ _ (take_split hg).1 G hJ M
      rw [← (take_split hg).2] at this
      have e : keyOk ks i = (decide (prevGen ks i < key.gen) && decide ((key.secret.length : Int) = 32)) := by unfold keyOk; rw [getD_of hkey]
      rw [e] at this
      exact this
    refine SL.not ⟨rfl, rfl, rfl, rfl⟩ rfl ?_
    refine SL.nx ?_
    refine SX.cond rfl (fun hc => ?_) (fun hc => ?_)
    · skip
      obtain rfl : bb = false := by simpa using hc
      refine SX.ret ?_
      refine SQ.thnR ?_
      refine SQ.blkR ?_
      refine SQ.thnR ?_
      refine SQ.lpR ?_
      refine SQ.blkR ?_
      exact SQ.fret (res0 rfl) (ret_of (M := G1) (.inr hG1) fun _ h => h.skip [_, _])
    · skip
      obtain rfl : bb = true := by simpa using hc
      refine SX.skip ?_
      refine SQ.thn ?_
      refine SX.region ?_
      refine SL.fa ⟨rfl, rfl, rfl, rfl⟩ rfl fo70_0 ?_
      refine SL.ld ⟨rfl, rfl, rfl, rfl⟩ sc22 rfl (cell_own 0 rfl rfl) ?_
      refine SL.asg ⟨rfl, rfl, rfl, rfl⟩ rfl ?_
      refine SL.nil ?_
      refine SQ.blk ?_
      refine SQ.thn ?_
      refine SX.region ?_
      refine SL.bin ⟨rfl, rfl, rfl, rfl⟩ rfl rfl (Bin.addI (by omega) (by omega)) ?_
      refine SL.mv ⟨rfl, rfl, rfl, rfl⟩ rfl ?_
      refine SL.nil ?_
      refine SQ.again (i + 1, G1) ⟨hlt, hG1⟩ (by simp only; omega) ⟨rfl, by rw [prevGen, getD_of hkey]; rfl, rfl, rfl, rfl, trivial⟩ (fun w h => h.skip [_])
  · skip
    refine SX.exit ?_
    refine SQ.thnE ?_
    refine SQ.lpE ?_
    refine SQ.blkE ?_
    have hle : i = ks.length := by simp at hc; omega
    exact SQ.fend (res0 rfl) (ret_of (M := G) (.inl (by rw [List.take_of_length_le (by rw [gensA_length]; omega)] at hJ; exact hJ)) fun _ h => h.skip [_])

theorem c_keys_Right (v : Value) (ks : List KeyA) (hk : SlOf K w0 encKey 2 v ks) (hv : v.cells = #[v]) (hn : ks.length ≤ 1099511627776) : Con Tryd.prog K w0 45 [v] [] H (fun r M => r = vB (rightA ks) ∧ M = []) := by
  refine Con.enter Tryd.func45 rfl rfl ?_
  refine SX.sr ?_
  refine SL.asg ⟨rfl, rfl, rfl, rfl⟩ rfl ?_
  refine SL.nx ?_
  refine SX.scope ?_
  refine SX.sr ?_
  refine SL.mv ⟨rfl, rfl, rfl, rfl⟩ rfl ?_
  refine SL.lenV hk ⟨rfl, rfl, rfl, rfl⟩ ty31 rfl ?_
  refine SL.bin ⟨rfl, rfl, rfl, rfl⟩ rfl rfl Bin.leI ?_
  refine SL.alloc ⟨rfl, rfl, rfl, rfl⟩ ze4 (fun _ => trivial) fun b0 => ?_
  refine SL.st 0 ⟨rfl, rfl, rfl⟩ rfl rfl rfl sz4 rfl rfl rfl trivial ?_
  refine SL.nx ?_
  refine SX.seq ?_
  refine SX.label ?_
  refine SQ.thn ?_
  refine SX.seq ?_
  refine SX.sr ?_
  refine SL.mv ⟨rfl, rfl, rfl, rfl⟩ rfl ?_
  refine SL.call (vs := [_]) (Hin := []) ⟨rfl, rfl, rfl, rfl⟩ rfl ⟨rfl, trivial⟩ cal59 rfl rfl (c_keys_generations v) ?_
  rintro _ _ ⟨b1, rfl, rfl⟩
  refine ⟨trivial, ?_⟩
  refine SL.nx ?_
  refine SX.block ?_
  refine SX.range (enc := encGB) (gensA ks) (fun pre G => pre.all (·.2) = true ∧ G = own b0 (.cells #[vB (decide ((ks.length : Int) ≤ 16))] 4) :: H) (fun c G => c = .exit 0 ∧ (gensA ks).all (·.2) = false ∧ G = own b0 (.cells #[vB false] 4) :: H) rfl cal75 rfl (fun _ => rfl) (q_keys_generations v ks b1 hk hv hn) rfl ⟨rfl, rfl⟩ (fun pre x suf G hxs hJ r lp Rest => ?_) (fun G D hJ => ?_) (fun c G D hX => ?_)
  · obtain ⟨hpre, rfl⟩ := hJ
    refine SX.region ?_
    refine SL.asg ⟨rfl, rfl, rfl, rfl⟩ rfl ?_
    refine SL.nil ?_
    refine SQ.bgn ?_
    refine SX.block ?_
    refine SX.sr ?_
    refine SL.mv ⟨rfl, rfl, rfl, rfl⟩ rfl ?_
    refine SL.not ⟨rfl, rfl, rfl, rfl⟩ rfl ?_
    refine SL.nx ?_
    refine SX.cond rfl (fun hc => ?_) (fun hc => ?_)
    · skip
      refine SX.sr ?_
      refine SL.st 0 ⟨rfl, rfl, rfl⟩ rfl rfl rfl sz4 rfl rfl rfl trivial ?_
      refine SL.nx ?_
      refine SX.exit ?_
      refine SQ.blkO ?_
      exact SQ.rndE ⟨rfl, by rw [hxs]; simp at hc; simp [hc], rfl⟩ (fun _ h => h)
    · skip
      refine SX.skip ?_
      refine SQ.blk ?_
      exact SQ.rndN ⟨by simp at hc; simp [hpre, hc], rfl⟩ (fun _ h => h)
  · obtain ⟨hall, rfl⟩ := hJ
    refine SQ.blk ?_
    refine SQ.thn ?_
    refine SX.sr ?_
    refine SL.ld ⟨rfl, rfl, rfl, rfl⟩ sc4 rfl (cell_own 0 rfl rfl) ?_
    refine SL.asg ⟨rfl, rfl, rfl, rfl⟩ rfl ?_
    refine SL.nx ?_
    refine SX.ret ?_
    refine SQ.scpR ?_
    exact SQ.fret (res1 rfl rfl) (ret_of (M := []) ⟨by simp only [rightA, hall]; simp; try omega, rfl⟩ fun _ h => h.skip [_])
  · obtain ⟨rfl, hall, rfl⟩ := hX
    refine SX.exit ?_
    refine SQ.blkE ?_
    refine SQ.thn ?_
    refine SX.sr ?_
    refine SL.ld ⟨rfl, rfl, rfl, rfl⟩ sc4 rfl (cell_own 0 rfl rfl) ?_
    refine SL.asg ⟨rfl, rfl, rfl, rfl⟩ rfl ?_
    refine SL.nx ?_
    refine SX.ret ?_
    refine SQ.scpR ?_
    exact SQ.fret (res1 rfl rfl) (ret_of (M := []) ⟨by simp only [rightA, hall]; simp; try omega, rfl⟩ fun _ h => h.skip [_])

end Go.Proofs.YtddjneafgddlcaaDoor

/- Walks of the ring's functions: the place of a generation, its key. Condition: rings of at most 2^40 keys. -/
namespace Go.Proofs.YtddjneafgddlcaaDoor
open Go
variable {K : Nat → Prop} {w0 : World} {H : List Chunk}
theorem c_keys_place_1 (k : KeyA) (g : UInt32) (b : Nat) : Con Tryd.prog K w0 61 [.agg (encKey k).toArray, vP b 0] [own b (.cells #[vU32 g] 22)] H (fun r M => r = vB (decide (g ≤ k.gen)) ∧ M = [own b (.cells #[vU32 g] 22)]) := by
  refine Con.enter Tryd.func61 rfl rfl ?_
  refine SX.sr ?_
  refine SL.box ⟨rfl, rfl, rfl, rfl⟩ rfl (fun _ => trivial) fun b0 => ?_
  refine SL.asg ⟨rfl, rfl, rfl, rfl⟩ rfl ?_
  refine SL.nx ?_
  refine SX.sr ?_
  refine SL.fa ⟨rfl, rfl, rfl, rfl⟩ rfl fo70_0 ?_
  refine SL.ld ⟨rfl, rfl, rfl, rfl⟩ sc22 rfl (cell_own 0 rfl rfl) ?_
  refine SL.ld ⟨rfl, rfl, rfl, rfl⟩ sc22 rfl (cell_own 1 rfl rfl) ?_
  refine SL.bin ⟨rfl, rfl, rfl, rfl⟩ rfl rfl Bin.ge32 ?_
  refine SL.asg ⟨rfl, rfl, rfl, rfl⟩ rfl ?_
  refine SL.nx ?_
  refine SX.ret ?_
  exact SQ.fret (res1 rfl rfl) (ret_of (M := [_]) ⟨rfl, rfl⟩ fun _ h => h.skip [_])

theorem c_IndexFunc_Key (v : Value) (ks : List KeyA) (g : FuncId) (cap : List Value) (B : List Chunk) (φ : KeyA → Bool) (hk : SlOf K w0 encKey 2 v ks) (hn : ks.length ≤ 1099511627776) (hcal : callable Tryd.prog g = true)
    (hf : ∀ (H : List Chunk) (k : KeyA), Con Tryd.prog K w0 g (.agg (encKey k).toArray :: cap) B H (fun r M => r = vB (φ k) ∧ M = B)) :
    Con Tryd.prog K w0 60 [v, .func (.func g) #[] cap.toArray] B H (fun r M => r = vI (if ks.findIdx φ < ks.length then (ks.findIdx φ : Int) else -1) ∧ M = B) := by
  refine Con.enter Tryd.func60 rfl rfl ?_
  refine SX.sr ?_
  refine SL.asg ⟨rfl, rfl, rfl, rfl⟩ rfl ?_
  refine SL.nx ?_
  refine SX.seq ?_
  refine SX.sr ?_
  refine SL.mv ⟨rfl, rfl, rfl, rfl⟩ rfl ?_
  refine SL.lenV hk ⟨rfl, rfl, rfl, rfl⟩ ty31 rfl ?_
  refine SL.mv ⟨rfl, rfl, rfl, rfl⟩ rfl ?_
  refine SL.nx ?_
  refine SX.block ?_
  refine SX.mono (SX.loop (α := Nat) (fun i => i ≤ ks.length ∧ ∀ j y, j < i → ks[j]? = some y → φ y = false) (fun i => [(0, v), (1, .func (.func g) #[] cap.toArray), (7, vI ks.length), (8, vI i)]) (fun i => B ++ H) (fun i => ks.length - i) (fun i D hp => ?_) 0 ⟨Nat.zero_le _, fun j y hj => absurd hj (Nat.not_lt_zero _)⟩) (by repeat' (first | exact trivial | refine And.intro rfl ?_))
  obtain ⟨hi, hb⟩ := hp
  refine SX.sr ?_
  refine SL.bin ⟨rfl, rfl, rfl, rfl⟩ rfl rfl Bin.ltI ?_
  refine SL.nx ?_
  refine SX.seq ?_
  refine SX.cond rfl (fun hc => ?_) (fun hc => ?_)
  · skip
    have hlt : i < ks.length := by simpa using hc
    obtain ⟨key, hkey⟩ := get_of_lt hlt
    refine SX.skip ?_
    refine SQ.thn ?_
    refine SX.seq ?_
    refine SX.block ?_
    refine SX.sr ?_
    refine SL.mv ⟨rfl, rfl, rfl, rfl⟩ rfl ?_
    refine SL.asg ⟨rfl, rfl, rfl, rfl⟩ rfl ?_
    refine SL.nx ?_
    refine SX.sr ?_
    refine SL.mv ⟨rfl, rfl, rfl, rfl⟩ rfl ?_
    refine SL.mv ⟨rfl, rfl, rfl, rfl⟩ rfl ?_
    refine SL.mv ⟨rfl, rfl, rfl, rfl⟩ rfl ?_
    refine SL.iaV i key hk ⟨rfl, rfl, rfl, rfl⟩ ty31 sz70 rfl rfl rfl hkey fun be off hcell => ?_
    refine SL.ldA (encKey key) ⟨rfl, rfl, rfl, rfl⟩ ag70 rfl rfl (cells_at (hcell _)) ?_
    refine SL.call (vs := [_]) (Hin := B) ⟨rfl, rfl, rfl, rfl⟩ rfl ⟨rfl, trivial⟩ hcal rfl rfl (hf _ key) ?_
    rintro _ M ⟨rfl, hM⟩
    rw [hM]
    refine ⟨trivial, ?_⟩
    refine SL.nx ?_
    refine SX.cond rfl (fun hc2 => ?_) (fun hc2 => ?_)
    · skip
      refine SX.sr ?_
      refine SL.mv ⟨rfl, rfl, rfl, rfl⟩ rfl ?_
      refine SL.asg ⟨rfl, rfl, rfl, rfl⟩ rfl ?_
      refine SL.nx ?_
      refine SX.ret ?_
      refine SQ.blkR ?_
      refine SQ.thnR ?_
      refine SQ.lpR ?_
      refine SQ.blkR ?_
      refine SQ.thnR ?_
      exact SQ.fret (res1 rfl rfl) (ret_of (M := B) ⟨by rw [findIdx_at hkey hc2 hb]; simp [hlt], rfl⟩ fun _ h => h)
    · skip
      refine SX.skip ?_
      refine SQ.blk ?_
      refine SQ.thn ?_
      refine SX.region ?_
      refine SL.bin ⟨rfl, rfl, rfl, rfl⟩ rfl rfl (Bin.addI (by omega) (by omega)) ?_
      refine SL.mv ⟨rfl, rfl, rfl, rfl⟩ rfl ?_
      refine SL.nil ?_
      refine SQ.again (i + 1) ⟨hlt, fun j y hj hy => ?_⟩ (by omega) ⟨rfl, rfl, rfl, rfl, trivial⟩
      rcases Nat.lt_or_ge j i with h | h
      · exact hb j y h hy
      · obtain rfl : j = i := by omega
        rw [hkey] at hy
        cases hy
        exact hc2
  · skip
    refine SX.exit ?_
    refine SQ.thnE ?_
    refine SQ.lpE ?_
    refine SQ.blkE ?_
    refine SQ.thn ?_
    refine SX.sr ?_
    refine SL.asg ⟨rfl, rfl, rfl, rfl⟩ rfl ?_
    refine SL.nx ?_
    refine SX.ret ?_
    have hle : i = ks.length := by simp at hc; omega
    exact SQ.fret (res1 rfl rfl) (ret_of (M := B) ⟨by rw [findIdx_no (fun j y hy => hb j y (by obtain ⟨h, _⟩ := List.getElem?_eq_some_iff.1 hy; omega) hy)]; simp, rfl⟩ fun _ h => h)

theorem c_keys_place (v : Value) (ks : List KeyA) (g : UInt32) (hk : SlOf K w0 encKey 2 v ks) (hn : ks.length ≤ 1099511627776) : Con Tryd.prog K w0 46 [v, vU32 g] [] H (fun r M => r = .tuple #[vI (placeA g ks), vB (thereA g ks)] ∧ M = []) := by
  refine Con.enter Tryd.func46 rfl rfl ?_
  refine SX.sr ?_
  refine SL.box ⟨rfl, rfl, rfl, rfl⟩ rfl (fun _ => trivial) fun b0 => ?_
  refine SL.asg ⟨rfl, rfl, rfl, rfl⟩ rfl ?_
  refine SL.asg ⟨rfl, rfl, rfl, rfl⟩ rfl ?_
  refine SL.nx ?_
  refine SX.sr ?_
  refine SL.mv ⟨rfl, rfl, rfl, rfl⟩ rfl ?_
  refine SL.mkf (fv := #[]) (cv := #[_]) ⟨rfl, rfl, rfl, rfl⟩ rfl rfl ?_
  refine SL.call (vs := [_, _]) (Hin := [_]) ⟨rfl, rfl, rfl, rfl⟩ rfl ⟨rfl, rfl, trivial⟩ cal60 rfl rfl (c_IndexFunc_Key v ks 61 [vP b0 0] [_] (fun k => decide (g ≤ k.gen)) hk hn cal61 (fun H k => c_keys_place_1 k g b0)) ?_
  rintro _ _ ⟨rfl, rfl⟩
  refine ⟨trivial, ?_⟩
  change SL _ _ _ _ _ _ _ _ _ _ ((9, vI (if placeA g ks < ks.length then (placeA g ks : Int) else -1)) :: _) _
  generalize hpl : placeA g ks = pl
  refine SL.asg ⟨rfl, rfl, rfl, rfl⟩ rfl ?_
  refine SL.nx ?_
  refine SX.seq ?_
  refine SX.sr ?_
  refine SL.mv ⟨rfl, rfl, rfl, rfl⟩ rfl ?_
  refine SL.bin ⟨rfl, rfl, rfl, rfl⟩ rfl rfl Bin.ltI ?_
  refine SL.nx ?_
  refine SX.cond rfl (fun hc => ?_) (fun hc => ?_)
  · skip
    refine SX.sr ?_
    have hnl : ¬ pl < ks.length := by intro h; simp [h] at hc; omega
    have hpe : pl = ks.length := by have := placeA_le g ks; omega
    refine SL.mv ⟨rfl, rfl, rfl, rfl⟩ rfl ?_
    refine SL.lenV hk ⟨rfl, rfl, rfl, rfl⟩ ty31 rfl ?_
    refine SL.asg ⟨rfl, rfl, rfl, rfl⟩ rfl ?_
    refine SL.asg ⟨rfl, rfl, rfl, rfl⟩ rfl ?_
    refine SL.nx ?_
    refine SX.ret ?_
    refine SQ.thnR ?_
    exact SQ.fret (res2 rfl rfl rfl) (ret_of (M := []) ⟨by simp [thereA, hpl, hpe], rfl⟩ fun _ h => h.skip [_])
  · skip
    have hlt : pl < ks.length := by
      rcases Nat.lt_or_ge pl ks.length with h | h
      · exact h
      · simp [Nat.not_lt.2 h] at hc
    rw [if_pos hlt]
    obtain ⟨key, hkey⟩ := get_of_lt hlt
    refine SX.skip ?_
    refine SQ.thn ?_
    refine SX.seq ?_
    refine SX.drawI mix [0] (Pl.of [(true, 0), (true, 1), (true, 2), (true, 3), (true, 4), (true, 5), (true, 6), (true, 7), (true, 8), (true, 9)]) (by kernel_rfl) ?_
    refine SL.mv ⟨rfl, rfl, rfl, rfl⟩ rfl ?_
    refine SL.mv ⟨rfl, rfl, rfl, rfl⟩ rfl ?_
    refine SL.mv ⟨rfl, rfl, rfl, rfl⟩ rfl ?_
    refine SL.iaV pl key hk ⟨rfl, rfl, rfl, rfl⟩ ty31 sz70 rfl rfl rfl hkey fun be off hcell => ?_
    refine SL.fa ⟨rfl, rfl, rfl, rfl⟩ rfl fo70_0 ?_
    refine SL.ld ⟨rfl, rfl, rfl, rfl⟩ sc22 rfl (fun w hw => hcell _ w hw 0 _ rfl) ?_
    refine SL.ld ⟨rfl, rfl, rfl, rfl⟩ sc22 rfl (cell_own 0 rfl rfl) ?_
    refine SL.bin ⟨rfl, rfl, rfl, rfl⟩ rfl rfl Bin.eq32 ?_
    refine SL.asg ⟨rfl, rfl, rfl, rfl⟩ rfl ?_
    refine SL.asg ⟨rfl, rfl, rfl, rfl⟩ rfl ?_
    refine SL.nx ?_
    refine SX.ret ?_
    exact SQ.fret (res2 rfl rfl rfl) (ret_of (M := []) ⟨by simp [thereA, hpl, hkey], rfl⟩ fun _ h => h.skip [_])

theorem c_keys_Find (v : Value) (ks : List KeyA) (g : UInt32) (hk : SlOf K w0 encKey 2 v ks) (hv : v.cells = #[v]) (hn : ks.length ≤ 1099511627776) : Con Tryd.prog K w0 28 [v, vU32 g] [] H (fun r M => r = .tuple #[.agg (encKey (findA ks g).1).toArray, vI (findA ks g).2] ∧ M = []) := by
  refine Con.enter Tryd.func28 rfl rfl ?_
  refine SX.sr ?_
  refine SL.alloc ⟨rfl, rfl, rfl, rfl⟩ ze70 (fun _ => trivial) fun b0 => ?_
  refine SL.asg ⟨rfl, rfl, rfl, rfl⟩ rfl ?_
  refine SL.nx ?_
  refine SX.seq ?_
  refine SX.sr ?_
  refine SL.mv ⟨rfl, rfl, rfl, rfl⟩ rfl ?_
  refine SL.call (vs := [_]) (Hin := []) ⟨rfl, rfl, rfl, rfl⟩ rfl ⟨rfl, trivial⟩ cal45 rfl rfl (c_keys_Right v ks hk hv hn) ?_
  rintro _ _ ⟨rfl, rfl⟩
  refine ⟨trivial, ?_⟩
  refine SL.not ⟨rfl, rfl, rfl, rfl⟩ rfl ?_
  refine SL.nx ?_
  refine SX.cond rfl (fun hc => ?_) (fun hc => ?_)
  · skip
    have hf : findA ks g = (key0, 40) := by unfold findA; rw [if_pos (by simpa using hc)]
    rw [hf]
    refine SX.sr ?_
    refine SL.bld [] ⟨rfl, rfl, rfl, rfl⟩ pl70 pk70 ze70 trivial rfl ?_
    refine SL.st 0 ⟨rfl, rfl, rfl⟩ rfl rfl rfl sz70 rfl rfl rfl trivial ?_
    refine SL.asg ⟨rfl, rfl, rfl, rfl⟩ rfl ?_
    refine SL.nx ?_
    refine SX.ret ?_
    refine SQ.thnR ?_
    exact SQ.fret (resv2 rfl (resv.ag 0 (encKey key0) ag70 rfl rfl rfl rfl) rfl) (ret_of (M := []) ⟨rfl, rfl⟩ fun _ h => h.skip [_])
  · skip
    have hr : rightA ks = true := by simpa using hc
    refine SX.skip ?_
    refine SQ.thn ?_
    refine SX.sr ?_
    refine SL.mv ⟨rfl, rfl, rfl, rfl⟩ rfl ?_
    refine SL.mv ⟨rfl, rfl, rfl, rfl⟩ rfl ?_
    refine SL.call (vs := [_, _]) (Hin := []) ⟨rfl, rfl, rfl, rfl⟩ rfl ⟨rfl, rfl, trivial⟩ cal46 rfl rfl (c_keys_place v ks g hk hn) ?_
    rintro _ _ ⟨rfl, rfl⟩
    refine ⟨trivial, ?_⟩
    refine SL.mv ⟨rfl, rfl, rfl, rfl⟩ rfl ?_
    refine SL.ext ⟨rfl, rfl, rfl, rfl⟩ rfl rfl ?_
    refine SL.ext ⟨rfl, rfl, rfl, rfl⟩ rfl rfl ?_
    refine SL.asg ⟨rfl, rfl, rfl, rfl⟩ rfl ?_
    refine SL.asg ⟨rfl, rfl, rfl, rfl⟩ rfl ?_
    refine SL.nx ?_
    refine SX.seq ?_
    refine SX.sr ?_
    refine SL.mv ⟨rfl, rfl, rfl, rfl⟩ rfl ?_
    refine SL.not ⟨rfl, rfl, rfl, rfl⟩ rfl ?_
    refine SL.nx ?_
    refine SX.cond rfl (fun hc => ?_) (fun hc => ?_)
    · skip
      have hf : findA ks g = (key0, 41) := by
        have : thereA g ks = false := by simpa using hc
        unfold thereA at this
        unfold findA
        rw [hr]
        cases h : ks[placeA g ks]? with
        | none => simp
        | some k => rw [h] at this; simp at this; simp [this]
      rw [hf]
      refine SX.sr ?_
      refine SL.bld [] ⟨rfl, rfl, rfl, rfl⟩ pl70 pk70 ze70 trivial rfl ?_
      refine SL.st 0 ⟨rfl, rfl, rfl⟩ rfl rfl rfl sz70 rfl rfl rfl trivial ?_
      refine SL.asg ⟨rfl, rfl, rfl, rfl⟩ rfl ?_
      refine SL.nx ?_
      refine SX.ret ?_
      refine SQ.thnR ?_
      exact SQ.fret (resv2 rfl (resv.ag 0 (encKey key0) ag70 rfl rfl rfl rfl) rfl) (ret_of (M := []) ⟨rfl, rfl⟩ fun _ h => h.skip [_])
    · skip
      have hth : thereA g ks = true := by simpa using hc
      obtain ⟨key, hkey, hg⟩ : ∃ key, ks[placeA g ks]? = some key ∧ key.gen = g := by
        unfold thereA at hth
        cases h : ks[placeA g ks]? with
        | none => rw [h] at hth; cases hth
        | some k => rw [h] at hth; exact ⟨k, rfl, by simpa using hth⟩
      have hf : findA ks g = (key, 0) := by
        unfold findA
        rw [hr]
        simp [hkey, hg]
      rw [hf]
      refine SX.skip ?_
      refine SQ.thn ?_
      refine SX.sr ?_
      refine SL.mv ⟨rfl, rfl, rfl, rfl⟩ rfl ?_
      refine SL.mv ⟨rfl, rfl, rfl, rfl⟩ rfl ?_
      refine SL.iaV (placeA g ks) key hk ⟨rfl, rfl, rfl, rfl⟩ ty31 sz70 rfl rfl rfl hkey fun be off hcell => ?_
      refine SL.ldA (encKey key) ⟨rfl, rfl, rfl, rfl⟩ ag70 rfl rfl (cells_at (hcell _)) ?_
      refine SL.st 0 ⟨rfl, rfl, rfl⟩ rfl rfl rfl sz70 rfl rfl rfl trivial ?_
      refine SL.asg ⟨rfl, rfl, rfl, rfl⟩ rfl ?_
      refine SL.nx ?_
      refine SX.ret ?_
      exact SQ.fret (resv2 rfl (resv.ag 0 (encKey key) ag70 rfl rfl rfl rfl) rfl) (ret_of (M := []) ⟨rfl, rfl⟩ fun _ h => h.skip [_])

end Go.Proofs.YtddjneafgddlcaaDoor

/- Walks of small functions: the tag of a block, words turned. No condition. -/
namespace Go.Proofs.YtddjneafgddlcaaDoor
open Go
variable {K : Nat → Prop} {w0 : World} {H : List Chunk}

theorem c_seal_Tag (b : List UInt8) (hb : b.length ≤ 9223372036854775807) : Con Tryd.prog K w0 52 [vS b] [] H (fun v M => v = vS (b.drop (b.length - 32)) ∧ M = []) := by
  refine Con.enter Tryd.func52 rfl rfl ?_
  refine SX.seq ?_
  refine SX.region ?_
  refine SL.asg ⟨rfl, rfl, rfl, rfl⟩ rfl ?_
  refine SL.nil ?_
  refine SQ.thn ?_
  refine SX.seq ?_
  refine SX.region ?_
  refine SL.mv ⟨rfl, rfl, rfl, rfl⟩ rfl ?_
  refine SL.mv ⟨rfl, rfl, rfl, rfl⟩ rfl ?_
  refine SL.lenS ⟨rfl, rfl, rfl, rfl⟩ ty9 rfl ?_
  refine SL.bin ⟨rfl, rfl, rfl, rfl⟩ rfl rfl (Bin.subI (by omega) (by omega)) ?_
  refine SL.maxI ⟨rfl, rfl, rfl, rfl⟩ rfl rfl ?_
  refine SL.slSl (b.length - 32) ⟨rfl, rfl, rfl, rfl⟩ ty9 rfl rfl (by omega) (by omega) ?_
  refine SL.asg ⟨rfl, rfl, rfl, rfl⟩ rfl ?_
  refine SL.nil ?_
  refine SQ.thn ?_
  refine SX.ret ?_
  exact SQ.fret (res1 rfl rfl) (ret_of (M := []) ⟨rfl, rfl⟩ fun _ h => h.skip [])

def rotl32 (x : UInt32) (k : Int) : UInt32 := shl32 x (toU64 k &&& 31).toNat ||| shr32 x (32 - (toU64 k &&& 31)).toNat
theorem c_math_bits_RotateLeft32 (x : UInt32) (k : Int) : Con Tryd.prog K w0 99 [vU32 x, vI k] [] H (fun v M => v = vU32 (rotl32 x k) ∧ M = []) := by
  refine Con.enter Tryd.func99 rfl rfl ?_
  refine SX.seq ?_
  refine SX.region ?_
  refine SL.asg ⟨rfl, rfl, rfl, rfl⟩ rfl ?_
  refine SL.nil ?_
  refine SQ.thn ?_
  refine SX.seq ?_
  refine SX.region ?_
  refine SL.mv ⟨rfl, rfl, rfl, rfl⟩ rfl ?_
  refine SL.cv ⟨rfl, rfl, rfl, rfl⟩ rfl (Cv.i_64 ty3 ty90) ?_
  refine SL.bin ⟨rfl, rfl, rfl, rfl⟩ rfl rfl (Bin.and64 (b := 31)) ?_
  refine SL.asg ⟨rfl, rfl, rfl, rfl⟩ rfl ?_
  refine SL.nil ?_
  refine SQ.thn ?_
  refine SX.seq ?_
  refine SX.region ?_
  refine SL.mv ⟨rfl, rfl, rfl, rfl⟩ rfl ?_
  refine SL.mv ⟨rfl, rfl, rfl, rfl⟩ rfl ?_
  refine SL.bin ⟨rfl, rfl, rfl, rfl⟩ rfl rfl Bin.shl32 ?_
  refine SL.mv ⟨rfl, rfl, rfl, rfl⟩ rfl ?_
  refine SL.mv ⟨rfl, rfl, rfl, rfl⟩ rfl ?_
  refine SL.bin ⟨rfl, rfl, rfl, rfl⟩ rfl rfl (Bin.sub64 (a := 32)) ?_
  refine SL.bin ⟨rfl, rfl, rfl, rfl⟩ rfl rfl Bin.shr32 ?_
  refine SL.bin ⟨rfl, rfl, rfl, rfl⟩ rfl rfl Bin.or32 ?_
  refine SL.asg ⟨rfl, rfl, rfl, rfl⟩ rfl ?_
  refine SL.nil ?_
  refine SQ.thn ?_
  refine SX.ret ?_
  exact SQ.fret (res1 rfl rfl) (ret_of (M := []) ⟨rfl, rfl⟩ fun _ h => h.skip [])
end Go.Proofs.YtddjneafgddlcaaDoor

/- Walks of SHA-256's words: a word turned, a part's sixty-four words. Condition: a part has sixty-four bytes. -/
namespace Go.Proofs.YtddjneafgddlcaaDoor
open Go
variable {K : Nat → Prop} {w0 : World} {H : List Chunk}

theorem turn_all : ∀ n : Fin 32, 0 < n.1 → (toU64 (-(n.1 : Int)) &&& 31).toNat = 32 - n.1 ∧ (32 - (toU64 (-(n.1 : Int)) &&& 31)).toNat = n.1 := by decide
theorem rotl_neg (x : UInt32) (n : Nat) (h0 : 0 < n) (h1 : n < 32) : rotl32 x (-(n : Int)) = rotr x n := by
  obtain ⟨e1, e2⟩ := turn_all ⟨n, h1⟩ h0
  simp only at e1 e2
  unfold rotl32 rotr
  rw [e1, e2, UInt32.or_comm]
theorem c_sha_turn (x : UInt32) (n : Nat) (h0 : 0 < n) (h1 : n < 32) : Con Tryd.prog K w0 101 [vU32 x, vI n] [] H (fun r M => r = vU32 (rotr x n) ∧ M = []) := by
  refine Con.enter Tryd.func101 rfl rfl ?_
  refine SX.sr ?_
  refine SL.asg ⟨rfl, rfl, rfl, rfl⟩ rfl ?_
  refine SL.nx ?_
  refine SX.sr ?_
  refine SL.mv ⟨rfl, rfl, rfl, rfl⟩ rfl ?_
  refine SL.mv ⟨rfl, rfl, rfl, rfl⟩ rfl ?_
  refine SL.negI ⟨rfl, rfl, rfl, rfl⟩ rfl (by omega) (by omega) ?_
  refine SL.call (vs := [_, _]) (Hin := []) ⟨rfl, rfl, rfl, rfl⟩ rfl ⟨rfl, rfl, trivial⟩ cal99 rfl rfl (c_math_bits_RotateLeft32 x (-(n : Int))) ?_
  rintro _ _ ⟨rfl, rfl⟩
  refine ⟨trivial, ?_⟩
  refine SL.asg ⟨rfl, rfl, rfl, rfl⟩ rfl ?_
  refine SL.nx ?_
  refine SX.ret ?_
  exact SQ.fret (res1 rfl rfl) (ret_of (M := []) ⟨by rw [rotl_neg x n h0 h1], rfl⟩ fun _ h => h.skip [])

theorem c_sha_spread (s : List UInt8) (hs : s.length = 64) : Con Tryd.prog K w0 100 [vS s] [] H (fun r M => r = .agg (arr vU32 (spreadA s)) ∧ M = []) := by
  refine Con.enter Tryd.func100 rfl rfl ?_
  refine SX.sr ?_
  refine SL.alloc ⟨rfl, rfl, rfl, rfl⟩ ze181 (fun _ => trivial) fun b0 => ?_
  refine SL.nx ?_
  refine SX.sr ?_
  refine SL.alloc ⟨rfl, rfl, rfl, rfl⟩ ze181 (fun _ => trivial) fun b1 => ?_
  refine SL.nx ?_
  refine SX.seq ?_
  refine SX.sr ?_
  refine SL.mv ⟨rfl, rfl, rfl, rfl⟩ rfl ?_
  refine SL.nx ?_
  refine SX.block ?_
  refine SX.mono (SX.loop (α := Nat) (fun i => i ≤ 64) (fun i => [(0, vS s), (2, vP b0 0), (3, vP b1 0), (8, vI i)]) (fun i => own b1 (.cells (arr vU32 (spreadN s i ++ List.replicate (64 - i) 0)) 181) :: own b0 (.cells (arr vU32 (List.replicate 64 0)) 181) :: H) (fun i => 64 - i) (fun i D hp => ?_) 0 (by omega)) (by repeat' (first | exact trivial | refine And.intro rfl ?_))
  have hlen := spreadN_length s i
  refine SX.sr ?_
  refine SL.bin ⟨rfl, rfl, rfl, rfl⟩ rfl rfl Bin.ltI ?_
  refine SL.nx ?_
  refine SX.seq ?_
  refine SX.cond rfl (fun hc1 => ?_) (fun hc1 => ?_)
  · skip
    have hi : i < 64 := by simp at hc1; omega
    refine SX.skip ?_
    refine SQ.thn ?_
    refine SX.seq ?_
    refine SX.block ?_
    refine SX.sr ?_
    refine SL.mv ⟨rfl, rfl, rfl, rfl⟩ rfl ?_
    refine SL.asg ⟨rfl, rfl, rfl, rfl⟩ rfl ?_
    refine SL.nx ?_
    refine SX.seq ?_
    refine SX.sr ?_
    refine SL.mv ⟨rfl, rfl, rfl, rfl⟩ rfl ?_
    refine SL.bin ⟨rfl, rfl, rfl, rfl⟩ rfl rfl Bin.ltI ?_
    refine SL.nx ?_
    refine SX.cond rfl (fun hc2 => ?_) (fun hc2 => ?_)
    · skip
      have h16 : i < 16 := by simp at hc2; omega
      refine SX.sr ?_
      refine SL.mv ⟨rfl, rfl, rfl, rfl⟩ rfl ?_
      refine SL.bin ⟨rfl, rfl, rfl, rfl⟩ rfl rfl (Bin.mulI (by omega) (by omega)) ?_
      refine SL.asg ⟨rfl, rfl, rfl, rfl⟩ rfl ?_
      refine SL.nx ?_
      refine SX.seq ?_
      refine SX.drawI mix [] (Pl.ap [(true, 0), (true, 1), (true, 2), (true, 3), (true, 4), (true, 5), (true, 6), (true, 7), (true, 8), (true, 9), (true, 10), (true, 11), (true, 12), (true, 13), (true, 14), (true, 15), (true, 16), (true, 17), (true, 18), (true, 19), (true, 20), (true, 21), (true, 22), (true, 23), (true, 24), (true, 25), (true, 26)] (.last 27 .nil)) (by kernel_rfl) ?_
      refine SL.mv ⟨rfl, rfl, rfl, rfl⟩ rfl ?_
      refine SL.mv ⟨rfl, rfl, rfl, rfl⟩ rfl ?_
      refine SL.mv ⟨rfl, rfl, rfl, rfl⟩ rfl ?_
      refine SL.ixS (4 * i) ⟨rfl, rfl, rfl, rfl⟩ ty9 rfl rfl (by omega) (by omega) ?_
      refine SL.cv ⟨rfl, rfl, rfl, rfl⟩ rfl (Cv.u8_32 ty5 ty22) ?_
      refine SL.bin ⟨rfl, rfl, rfl, rfl⟩ rfl rfl (Bin.shl32 (n := 24)) ?_
      refine SL.mv ⟨rfl, rfl, rfl, rfl⟩ rfl ?_
      refine SL.mv ⟨rfl, rfl, rfl, rfl⟩ rfl ?_
      refine SL.bin ⟨rfl, rfl, rfl, rfl⟩ rfl rfl (Bin.addI (by omega) (by omega)) ?_
      refine SL.ixS ((4 * i) + 1) ⟨rfl, rfl, rfl, rfl⟩ ty9 rfl rfl (by omega) (by omega) ?_
      refine SL.cv ⟨rfl, rfl, rfl, rfl⟩ rfl (Cv.u8_32 ty5 ty22) ?_
      refine SL.bin ⟨rfl, rfl, rfl, rfl⟩ rfl rfl (Bin.shl32 (n := 16)) ?_
      refine SL.bin ⟨rfl, rfl, rfl, rfl⟩ rfl rfl Bin.or32 ?_
      refine SL.mv ⟨rfl, rfl, rfl, rfl⟩ rfl ?_
      refine SL.mv ⟨rfl, rfl, rfl, rfl⟩ rfl ?_
      refine SL.bin ⟨rfl, rfl, rfl, rfl⟩ rfl rfl (Bin.addI (by omega) (by omega)) ?_
      refine SL.ixS ((4 * i) + 2) ⟨rfl, rfl, rfl, rfl⟩ ty9 rfl rfl (by omega) (by omega) ?_
      refine SL.cv ⟨rfl, rfl, rfl, rfl⟩ rfl (Cv.u8_32 ty5 ty22) ?_
      refine SL.bin ⟨rfl, rfl, rfl, rfl⟩ rfl rfl (Bin.shl32 (n := 8)) ?_
      refine SL.bin ⟨rfl, rfl, rfl, rfl⟩ rfl rfl Bin.or32 ?_
      refine SL.mv ⟨rfl, rfl, rfl, rfl⟩ rfl ?_
      refine SL.mv ⟨rfl, rfl, rfl, rfl⟩ rfl ?_
      refine SL.bin ⟨rfl, rfl, rfl, rfl⟩ rfl rfl (Bin.addI (by omega) (by omega)) ?_
      refine SL.ixS ((4 * i) + 3) ⟨rfl, rfl, rfl, rfl⟩ ty9 rfl rfl (by omega) (by omega) ?_
      refine SL.cv ⟨rfl, rfl, rfl, rfl⟩ rfl (Cv.u8_32 ty5 ty22) ?_
      refine SL.bin ⟨rfl, rfl, rfl, rfl⟩ rfl rfl Bin.or32 ?_
      refine SL.iaAp (n := i) ⟨rfl, rfl, rfl, rfl⟩ ty181 sz22 rfl rfl (by omega) (by omega) ?_
      refine SL.last ?_
      refine SL.stA (f := vU32) 0 ⟨rfl, rfl, rfl⟩ rfl rfl rfl sz22 rfl rfl (by simp; omega) trivial ?_
      rw [fill_set _ _ _ 64 i hlen hi]
      refine SL.nx ?_
      refine SX.exit ?_
      refine SQ.thnE ?_
      refine SQ.blkE ?_
      refine SQ.thn ?_
      refine SX.region ?_
      refine SL.bin ⟨rfl, rfl, rfl, rfl⟩ rfl rfl (Bin.addI (by omega) (by omega)) ?_
      refine SL.mv ⟨rfl, rfl, rfl, rfl⟩ rfl ?_
      refine SL.nil ?_
      refine SQ.again (i + 1) (by omega) (by omega) ⟨rfl, rfl, rfl, rfl, trivial⟩ (fun w h => by
        have e : nextW s (spreadN s i) = wordBE s (4 * i) := by unfold nextW; rw [hlen, if_pos h16]
        rw [spreadN, e]
        exact h)
    · skip
      have h16 : 16 ≤ i := by simp at hc2; omega
      refine SX.skip ?_
      refine SQ.thn ?_
      refine SX.seq ?_
      refine SX.drawI mix [0] (Pl.of [(true, 0), (true, 1), (true, 2), (true, 3), (true, 4), (true, 5), (true, 6), (true, 7), (true, 8), (true, 9)]) (by kernel_rfl) ?_
      refine SL.mv ⟨rfl, rfl, rfl, rfl⟩ rfl ?_
      refine SL.bin ⟨rfl, rfl, rfl, rfl⟩ rfl rfl (Bin.subI (by omega) (by omega)) ?_
      refine SL.iaAp (n := (i - 15)) ⟨rfl, rfl, rfl, rfl⟩ ty181 sz22 rfl rfl (by omega) (by omega) ?_
      refine SL.ld ⟨rfl, rfl, rfl, rfl⟩ sc22 rfl (cell_own 0 rfl (arr_app 0 (by omega))) ?_
      refine SL.mv ⟨rfl, rfl, rfl, rfl⟩ rfl ?_
      refine SL.bin ⟨rfl, rfl, rfl, rfl⟩ rfl rfl (Bin.subI (by omega) (by omega)) ?_
      refine SL.iaAp (n := (i - 2)) ⟨rfl, rfl, rfl, rfl⟩ ty181 sz22 rfl rfl (by omega) (by omega) ?_
      refine SL.ld ⟨rfl, rfl, rfl, rfl⟩ sc22 rfl (cell_own 0 rfl (arr_app 0 (by omega))) ?_
      refine SL.asg ⟨rfl, rfl, rfl, rfl⟩ rfl ?_
      refine SL.asg ⟨rfl, rfl, rfl, rfl⟩ rfl ?_
      refine SL.nx ?_
      refine SX.drawI mix [0] (Pl.ap [(true, 0), (true, 1), (true, 2), (true, 3), (true, 4), (true, 5), (true, 6), (true, 7), (true, 8), (true, 9), (true, 10), (true, 12), (true, 15), (true, 16), (true, 19), (true, 21), (true, 24), (true, 25), (false, 11), (false, 13), (true, 14), (true, 17), (true, 18), (false, 20), (false, 22), (true, 23), (true, 26), (true, 27), (true, 28)] (.last 29 .nil)) (by kernel_rfl) ?_
      refine SL.mv ⟨rfl, rfl, rfl, rfl⟩ rfl ?_
      refine SL.mv ⟨rfl, rfl, rfl, rfl⟩ rfl ?_
      refine SL.bin ⟨rfl, rfl, rfl, rfl⟩ rfl rfl (Bin.subI (by omega) (by omega)) ?_
      refine SL.iaAp (n := (i - 16)) ⟨rfl, rfl, rfl, rfl⟩ ty181 sz22 rfl rfl (by omega) (by omega) ?_
      refine SL.ld ⟨rfl, rfl, rfl, rfl⟩ sc22 rfl (cell_own 0 rfl (arr_app 0 (by omega))) ?_
      refine SL.mv ⟨rfl, rfl, rfl, rfl⟩ rfl ?_
      refine SL.bin ⟨rfl, rfl, rfl, rfl⟩ rfl rfl (Bin.subI (by omega) (by omega)) ?_
      refine SL.iaAp (n := (i - 7)) ⟨rfl, rfl, rfl, rfl⟩ ty181 sz22 rfl rfl (by omega) (by omega) ?_
      refine SL.ld ⟨rfl, rfl, rfl, rfl⟩ sc22 rfl (cell_own 0 rfl (arr_app 0 (by omega))) ?_
      refine SL.bin ⟨rfl, rfl, rfl, rfl⟩ rfl rfl Bin.add32 ?_
      refine SL.mv ⟨rfl, rfl, rfl, rfl⟩ rfl ?_
      refine SL.mv ⟨rfl, rfl, rfl, rfl⟩ rfl ?_
      refine SL.mv ⟨rfl, rfl, rfl, rfl⟩ rfl ?_
      refine SL.bin ⟨rfl, rfl, rfl, rfl⟩ rfl rfl (Bin.shr32 (n := 3)) ?_
      refine SL.mv ⟨rfl, rfl, rfl, rfl⟩ rfl ?_
      refine SL.mv ⟨rfl, rfl, rfl, rfl⟩ rfl ?_
      refine SL.mv ⟨rfl, rfl, rfl, rfl⟩ rfl ?_
      refine SL.bin ⟨rfl, rfl, rfl, rfl⟩ rfl rfl (Bin.shr32 (n := 10)) ?_
      refine SL.call (vs := [_, _]) (Hin := []) ⟨rfl, rfl, rfl, rfl⟩ rfl ⟨rfl, rfl, trivial⟩ cal101 rfl rfl (c_sha_turn _ 7 (by omega) (by omega)) ?_
      rintro _ _ ⟨rfl, rfl⟩
      refine ⟨⟨⟨0, rfl⟩, trivial⟩, ?_⟩
      refine SL.call (vs := [_, _]) (Hin := []) ⟨rfl, rfl, rfl, rfl⟩ rfl ⟨rfl, rfl, trivial⟩ cal101 rfl rfl (c_sha_turn _ 18 (by omega) (by omega)) ?_
      rintro _ _ ⟨rfl, rfl⟩
      refine ⟨⟨⟨0, rfl⟩, trivial⟩, ?_⟩
      refine SL.bin ⟨rfl, rfl, rfl, rfl⟩ rfl rfl Bin.xor32 ?_
      refine SL.bin ⟨rfl, rfl, rfl, rfl⟩ rfl rfl Bin.xor32 ?_
      refine SL.bin ⟨rfl, rfl, rfl, rfl⟩ rfl rfl Bin.add32 ?_
      refine SL.call (vs := [_, _]) (Hin := []) ⟨rfl, rfl, rfl, rfl⟩ rfl ⟨rfl, rfl, trivial⟩ cal101 rfl rfl (c_sha_turn _ 17 (by omega) (by omega)) ?_
      rintro _ _ ⟨rfl, rfl⟩
      refine ⟨⟨⟨0, rfl⟩, trivial⟩, ?_⟩
      refine SL.call (vs := [_, _]) (Hin := []) ⟨rfl, rfl, rfl, rfl⟩ rfl ⟨rfl, rfl, trivial⟩ cal101 rfl rfl (c_sha_turn _ 19 (by omega) (by omega)) ?_
      rintro _ _ ⟨rfl, rfl⟩
      refine ⟨⟨⟨0, rfl⟩, trivial⟩, ?_⟩
      refine SL.bin ⟨rfl, rfl, rfl, rfl⟩ rfl rfl Bin.xor32 ?_
      refine SL.bin ⟨rfl, rfl, rfl, rfl⟩ rfl rfl Bin.xor32 ?_
      refine SL.bin ⟨rfl, rfl, rfl, rfl⟩ rfl rfl Bin.add32 ?_
      refine SL.iaAp (n := i) ⟨rfl, rfl, rfl, rfl⟩ ty181 sz22 rfl rfl (by omega) (by omega) ?_
      refine SL.last ?_
      refine SL.stA (f := vU32) 0 ⟨rfl, rfl, rfl⟩ rfl rfl rfl sz22 rfl rfl (by simp; omega) trivial ?_
      rw [fill_set _ _ _ 64 i hlen hi]
      refine SL.nil ?_
      refine SQ.blk ?_
      refine SQ.thn ?_
      refine SX.region ?_
      refine SL.bin ⟨rfl, rfl, rfl, rfl⟩ rfl rfl (Bin.addI (by omega) (by omega)) ?_
      refine SL.mv ⟨rfl, rfl, rfl, rfl⟩ rfl ?_
      refine SL.nil ?_
      refine SQ.again (i + 1) (by omega) (by omega) ⟨rfl, rfl, rfl, rfl, trivial⟩ (fun w h => by
        have e : nextW s (spreadN s i) = (spreadN s i).getD (i - 16) 0 + (spreadN s i).getD (i - 7) 0 + sig0 ((spreadN s i).getD (i - 15) 0) + sig1 ((spreadN s i).getD (i - 2) 0) := by unfold nextW; rw [hlen, if_neg (by omega)]
        rw [spreadN, e]
        exact h)
  · skip
    have hi : i = 64 := by simp at hc1; omega
    subst hi
    refine SX.exit ?_
    refine SQ.thnE ?_
    refine SQ.lpE ?_
    refine SQ.blkE ?_
    refine SQ.thn ?_
    refine SX.sr ?_
    refine SL.ldA ((spreadA s).map vU32) ⟨rfl, rfl, rfl, rfl⟩ ag181 (by simp [spreadA, hlen]) rfl (cells_own 0 rfl (fun j u hu => by simpa [arr, spreadA] using hu)) ?_
    refine SL.stF 1 ⟨rfl, rfl, rfl⟩ rfl rfl rfl sz181 (by simp [spreadA, hlen]) (by simp [arr]) (arr_one (fun _ => rfl) (spreadA s)) trivial ?_
    refine SL.nx ?_
    refine SX.ret ?_
    exact SQ.fret (resv1 rfl (resv.ag 1 ((spreadA s).map vU32) ag181 (by simp [spreadA, hlen]) rfl rfl (by simp only [List.drop_zero]; exact List.take_of_length_le (by simp [spreadA, hlen])))) (ret_of (M := []) ⟨rfl, rfl⟩ fun _ h => h.skip [_, _])

end Go.Proofs.YtddjneafgddlcaaDoor

/- The walk of SHA-256's part: sixty-four bytes laid to eight words. Condition: the program's table is kept. -/
namespace Go.Proofs.YtddjneafgddlcaaDoor
open Go
variable {K : Nat → Prop} {w0 : World} {H : List Chunk}
theorem c_sha_laysL (T h : List UInt32) (tl : List Value) (s : List UInt8) (b : Nat) (e : TypeId) (hT : Tab K w0 2 T) (hTl : T.length = 64) (hh : h.length = 8) (hs : s.length = 64) : Con Tryd.prog K w0 94 [vP b 0, vS s] [own b (.cells (arrT vU32 h tl) e)] H (fun r M => r = .tuple #[] ∧ M = [own b (.cells (arrT vU32 (laysL T h s) tl) e)]) := by
  refine Con.enter Tryd.func94 rfl rfl ?_
  refine SX.seq ?_
  refine SX.drawI mix [0] (Pl.of [(true, 0), (true, 1), (true, 2), (true, 3), (true, 4), (true, 5), (true, 6), (true, 7), (true, 8), (true, 9), (true, 10), (true, 11), (true, 12), (true, 13), (true, 14), (true, 15), (true, 16), (true, 17), (true, 18), (true, 19), (true, 20), (true, 21), (true, 22), (true, 23), (true, 24), (true, 25), (true, 26), (true, 27), (true, 28), (true, 29), (true, 30), (true, 31), (true, 32), (true, 33), (true, 34), (true, 35), (true, 36), (true, 37), (true, 38), (true, 39)]) (by kernel_rfl) ?_
  refine SL.mv ⟨rfl, rfl, rfl, rfl⟩ rfl ?_
  refine SL.nchk ⟨rfl, rfl, rfl, rfl⟩ rfl ?_
  refine SL.iaAp (n := 0) ⟨rfl, rfl, rfl, rfl⟩ ty162 sz22 rfl rfl (by omega) (by omega) ?_
  refine SL.ld ⟨rfl, rfl, rfl, rfl⟩ sc22 rfl (cell_own 0 rfl (arrT_app 0 (by omega))) ?_
  refine SL.mv ⟨rfl, rfl, rfl, rfl⟩ rfl ?_
  refine SL.nchk ⟨rfl, rfl, rfl, rfl⟩ rfl ?_
  refine SL.iaAp (n := 1) ⟨rfl, rfl, rfl, rfl⟩ ty162 sz22 rfl rfl (by omega) (by omega) ?_
  refine SL.ld ⟨rfl, rfl, rfl, rfl⟩ sc22 rfl (cell_own 0 rfl (arrT_app 0 (by omega))) ?_
  refine SL.mv ⟨rfl, rfl, rfl, rfl⟩ rfl ?_
  refine SL.nchk ⟨rfl, rfl, rfl, rfl⟩ rfl ?_
  refine SL.iaAp (n := 2) ⟨rfl, rfl, rfl, rfl⟩ ty162 sz22 rfl rfl (by omega) (by omega) ?_
  refine SL.ld ⟨rfl, rfl, rfl, rfl⟩ sc22 rfl (cell_own 0 rfl (arrT_app 0 (by omega))) ?_
  refine SL.mv ⟨rfl, rfl, rfl, rfl⟩ rfl ?_
  refine SL.nchk ⟨rfl, rfl, rfl, rfl⟩ rfl ?_
  refine SL.iaAp (n := 3) ⟨rfl, rfl, rfl, rfl⟩ ty162 sz22 rfl rfl (by omega) (by omega) ?_
  refine SL.ld ⟨rfl, rfl, rfl, rfl⟩ sc22 rfl (cell_own 0 rfl (arrT_app 0 (by omega))) ?_
  refine SL.mv ⟨rfl, rfl, rfl, rfl⟩ rfl ?_
  refine SL.nchk ⟨rfl, rfl, rfl, rfl⟩ rfl ?_
  refine SL.iaAp (n := 4) ⟨rfl, rfl, rfl, rfl⟩ ty162 sz22 rfl rfl (by omega) (by omega) ?_
  refine SL.ld ⟨rfl, rfl, rfl, rfl⟩ sc22 rfl (cell_own 0 rfl (arrT_app 0 (by omega))) ?_
  refine SL.mv ⟨rfl, rfl, rfl, rfl⟩ rfl ?_
  refine SL.nchk ⟨rfl, rfl, rfl, rfl⟩ rfl ?_
  refine SL.iaAp (n := 5) ⟨rfl, rfl, rfl, rfl⟩ ty162 sz22 rfl rfl (by omega) (by omega) ?_
  refine SL.ld ⟨rfl, rfl, rfl, rfl⟩ sc22 rfl (cell_own 0 rfl (arrT_app 0 (by omega))) ?_
  refine SL.mv ⟨rfl, rfl, rfl, rfl⟩ rfl ?_
  refine SL.nchk ⟨rfl, rfl, rfl, rfl⟩ rfl ?_
  refine SL.iaAp (n := 6) ⟨rfl, rfl, rfl, rfl⟩ ty162 sz22 rfl rfl (by omega) (by omega) ?_
  refine SL.ld ⟨rfl, rfl, rfl, rfl⟩ sc22 rfl (cell_own 0 rfl (arrT_app 0 (by omega))) ?_
  refine SL.mv ⟨rfl, rfl, rfl, rfl⟩ rfl ?_
  refine SL.nchk ⟨rfl, rfl, rfl, rfl⟩ rfl ?_
  refine SL.iaAp (n := 7) ⟨rfl, rfl, rfl, rfl⟩ ty162 sz22 rfl rfl (by omega) (by omega) ?_
  refine SL.ld ⟨rfl, rfl, rfl, rfl⟩ sc22 rfl (cell_own 0 rfl (arrT_app 0 (by omega))) ?_
  refine SL.asg ⟨rfl, rfl, rfl, rfl⟩ rfl ?_
  refine SL.asg ⟨rfl, rfl, rfl, rfl⟩ rfl ?_
  refine SL.asg ⟨rfl, rfl, rfl, rfl⟩ rfl ?_
  refine SL.asg ⟨rfl, rfl, rfl, rfl⟩ rfl ?_
  refine SL.asg ⟨rfl, rfl, rfl, rfl⟩ rfl ?_
  refine SL.asg ⟨rfl, rfl, rfl, rfl⟩ rfl ?_
  refine SL.asg ⟨rfl, rfl, rfl, rfl⟩ rfl ?_
  refine SL.asg ⟨rfl, rfl, rfl, rfl⟩ rfl ?_
  refine SL.nx ?_
  refine SX.seq ?_
  refine SX.sr ?_
  refine SL.mv ⟨rfl, rfl, rfl, rfl⟩ rfl ?_
  refine SL.call (vs := [_]) (Hin := []) ⟨rfl, rfl, rfl, rfl⟩ rfl ⟨rfl, trivial⟩ cal100 rfl rfl (c_sha_spread s hs) ?_
  rintro _ _ ⟨rfl, rfl⟩
  refine ⟨trivial, ?_⟩
  refine SL.mv ⟨rfl, rfl, rfl, rfl⟩ rfl ?_
  refine SL.nx ?_
  refine SX.block ?_
  refine SX.mono (SX.loop (α := Nat) (fun i => i ≤ 64) (fun i => [(0, vP b 0), (4, vU32 (roundsN T (spreadA s) h i).a), (5, vU32 (roundsN T (spreadA s) h i).b), (6, vU32 (roundsN T (spreadA s) h i).c), (7, vU32 (roundsN T (spreadA s) h i).d), (8, vU32 (roundsN T (spreadA s) h i).e), (9, vU32 (roundsN T (spreadA s) h i).f), (10, vU32 (roundsN T (spreadA s) h i).g), (11, vU32 (roundsN T (spreadA s) h i).i), (51, .agg (arr vU32 (spreadA s))), (52, vI i)]) (fun i => own b (.cells (arrT vU32 h tl) e) :: H) (fun i => 64 - i) (fun i D hp => ?_) 0 (by omega)) (by repeat' (first | exact trivial | refine And.intro rfl ?_))
  refine SX.sr ?_
  refine SL.bin ⟨rfl, rfl, rfl, rfl⟩ rfl rfl Bin.ltI ?_
  refine SL.nx ?_
  refine SX.seq ?_
  refine SX.cond rfl (fun hc1 => ?_) (fun hc1 => ?_)
  · skip
    have hi : i < 64 := by simp at hc1; omega
    have hw : (spreadA s)[i]? = some ((spreadA s).getD i 0) := by
      rw [List.getD_eq_getElem?_getD, List.getElem?_eq_getElem (by rw [spreadA, spreadN_length]; exact hi)]
      rfl
    refine SX.skip ?_
    refine SQ.thn ?_
    refine SX.seq ?_
    refine SX.block ?_
    refine SX.sr ?_
    refine SL.mv ⟨rfl, rfl, rfl, rfl⟩ rfl ?_
    refine SL.ixA (i := i) ⟨rfl, rfl, rfl, rfl⟩ ty181 sc22 rfl rfl (by omega) (by omega) (arr_get hw) ?_
    refine SL.asg ⟨rfl, rfl, rfl, rfl⟩ rfl ?_
    refine SL.asg ⟨rfl, rfl, rfl, rfl⟩ rfl ?_
    refine SL.nx ?_
    refine SX.seq ?_
    refine SX.drawI mix [] (Pl.of [(true, 0), (true, 1), (true, 3), (true, 6), (true, 10), (true, 11), (true, 12), (true, 13), (true, 14), (true, 15), (true, 16), (true, 17), (true, 19), (true, 20), (true, 21), (true, 23), (false, 2), (false, 4), (true, 5), (false, 7), (true, 8), (true, 9), (true, 18), (true, 22), (true, 24), (true, 25)]) (by kernel_rfl) ?_
    refine SL.mv ⟨rfl, rfl, rfl, rfl⟩ rfl ?_
    refine SL.mv ⟨rfl, rfl, rfl, rfl⟩ rfl ?_
    refine SL.mv ⟨rfl, rfl, rfl, rfl⟩ rfl ?_
    refine SL.mv ⟨rfl, rfl, rfl, rfl⟩ rfl ?_
    refine SL.mv ⟨rfl, rfl, rfl, rfl⟩ rfl ?_
    refine SL.mv ⟨rfl, rfl, rfl, rfl⟩ rfl ?_
    refine SL.bin ⟨rfl, rfl, rfl, rfl⟩ rfl rfl Bin.and32 ?_
    refine SL.mv ⟨rfl, rfl, rfl, rfl⟩ rfl ?_
    refine SL.not32 ⟨rfl, rfl, rfl, rfl⟩ rfl ?_
    refine SL.mv ⟨rfl, rfl, rfl, rfl⟩ rfl ?_
    refine SL.bin ⟨rfl, rfl, rfl, rfl⟩ rfl rfl Bin.and32 ?_
    refine SL.bin ⟨rfl, rfl, rfl, rfl⟩ rfl rfl Bin.xor32 ?_
    refine SL.mv ⟨rfl, rfl, rfl, rfl⟩ rfl ?_
    refine SL.iaAp (b := 2) (n := i) ⟨rfl, rfl, rfl, rfl⟩ ty181 sz22 rfl rfl (by omega) (by omega) ?_
    refine SL.ld ⟨rfl, rfl, rfl, rfl⟩ sc22 rfl (hT.load (by omega)) ?_
    refine SL.mv ⟨rfl, rfl, rfl, rfl⟩ rfl ?_
    refine SL.call (vs := [_, _]) (Hin := []) ⟨rfl, rfl, rfl, rfl⟩ rfl ⟨rfl, rfl, trivial⟩ cal101 rfl rfl (c_sha_turn _ 6 (by omega) (by omega)) ?_
    rintro _ _ ⟨rfl, rfl⟩
    refine ⟨trivial, ?_⟩
    refine SL.call (vs := [_, _]) (Hin := []) ⟨rfl, rfl, rfl, rfl⟩ rfl ⟨rfl, rfl, trivial⟩ cal101 rfl rfl (c_sha_turn _ 11 (by omega) (by omega)) ?_
    rintro _ _ ⟨rfl, rfl⟩
    refine ⟨trivial, ?_⟩
    refine SL.bin ⟨rfl, rfl, rfl, rfl⟩ rfl rfl Bin.xor32 ?_
    refine SL.call (vs := [_, _]) (Hin := []) ⟨rfl, rfl, rfl, rfl⟩ rfl ⟨rfl, rfl, trivial⟩ cal101 rfl rfl (c_sha_turn _ 25 (by omega) (by omega)) ?_
    rintro _ _ ⟨rfl, rfl⟩
    refine ⟨trivial, ?_⟩
    refine SL.bin ⟨rfl, rfl, rfl, rfl⟩ rfl rfl Bin.xor32 ?_
    refine SL.bin ⟨rfl, rfl, rfl, rfl⟩ rfl rfl Bin.add32 ?_
    refine SL.bin ⟨rfl, rfl, rfl, rfl⟩ rfl rfl Bin.add32 ?_
    refine SL.bin ⟨rfl, rfl, rfl, rfl⟩ rfl rfl Bin.add32 ?_
    refine SL.bin ⟨rfl, rfl, rfl, rfl⟩ rfl rfl Bin.add32 ?_
    refine SL.asg ⟨rfl, rfl, rfl, rfl⟩ rfl ?_
    refine SL.nx ?_
    refine SX.sr ?_
    refine SL.mv ⟨rfl, rfl, rfl, rfl⟩ rfl ?_
    refine SL.call (vs := [_, _]) (Hin := []) ⟨rfl, rfl, rfl, rfl⟩ rfl ⟨rfl, rfl, trivial⟩ cal101 rfl rfl (c_sha_turn _ 2 (by omega) (by omega)) ?_
    rintro _ _ ⟨rfl, rfl⟩
    refine ⟨trivial, ?_⟩
    refine SL.mv ⟨rfl, rfl, rfl, rfl⟩ rfl ?_
    refine SL.call (vs := [_, _]) (Hin := []) ⟨rfl, rfl, rfl, rfl⟩ rfl ⟨rfl, rfl, trivial⟩ cal101 rfl rfl (c_sha_turn _ 13 (by omega) (by omega)) ?_
    rintro _ _ ⟨rfl, rfl⟩
    refine ⟨trivial, ?_⟩
    refine SL.bin ⟨rfl, rfl, rfl, rfl⟩ rfl rfl Bin.xor32 ?_
    refine SL.mv ⟨rfl, rfl, rfl, rfl⟩ rfl ?_
    refine SL.call (vs := [_, _]) (Hin := []) ⟨rfl, rfl, rfl, rfl⟩ rfl ⟨rfl, rfl, trivial⟩ cal101 rfl rfl (c_sha_turn _ 22 (by omega) (by omega)) ?_
    rintro _ _ ⟨rfl, rfl⟩
    refine ⟨trivial, ?_⟩
    refine SL.bin ⟨rfl, rfl, rfl, rfl⟩ rfl rfl Bin.xor32 ?_
    refine SL.mv ⟨rfl, rfl, rfl, rfl⟩ rfl ?_
    refine SL.mv ⟨rfl, rfl, rfl, rfl⟩ rfl ?_
    refine SL.bin ⟨rfl, rfl, rfl, rfl⟩ rfl rfl Bin.and32 ?_
    refine SL.mv ⟨rfl, rfl, rfl, rfl⟩ rfl ?_
    refine SL.mv ⟨rfl, rfl, rfl, rfl⟩ rfl ?_
    refine SL.bin ⟨rfl, rfl, rfl, rfl⟩ rfl rfl Bin.and32 ?_
    refine SL.bin ⟨rfl, rfl, rfl, rfl⟩ rfl rfl Bin.xor32 ?_
    refine SL.mv ⟨rfl, rfl, rfl, rfl⟩ rfl ?_
    refine SL.mv ⟨rfl, rfl, rfl, rfl⟩ rfl ?_
    refine SL.bin ⟨rfl, rfl, rfl, rfl⟩ rfl rfl Bin.and32 ?_
    refine SL.bin ⟨rfl, rfl, rfl, rfl⟩ rfl rfl Bin.xor32 ?_
    refine SL.bin ⟨rfl, rfl, rfl, rfl⟩ rfl rfl Bin.add32 ?_
    refine SL.asg ⟨rfl, rfl, rfl, rfl⟩ rfl ?_
    refine SL.nx ?_
    refine SX.region ?_
    refine SL.mv ⟨rfl, rfl, rfl, rfl⟩ rfl ?_
    refine SL.mv ⟨rfl, rfl, rfl, rfl⟩ rfl ?_
    refine SL.mv ⟨rfl, rfl, rfl, rfl⟩ rfl ?_
    refine SL.mv ⟨rfl, rfl, rfl, rfl⟩ rfl ?_
    refine SL.mv ⟨rfl, rfl, rfl, rfl⟩ rfl ?_
    refine SL.bin ⟨rfl, rfl, rfl, rfl⟩ rfl rfl Bin.add32 ?_
    refine SL.mv ⟨rfl, rfl, rfl, rfl⟩ rfl ?_
    refine SL.mv ⟨rfl, rfl, rfl, rfl⟩ rfl ?_
    refine SL.mv ⟨rfl, rfl, rfl, rfl⟩ rfl ?_
    refine SL.mv ⟨rfl, rfl, rfl, rfl⟩ rfl ?_
    refine SL.mv ⟨rfl, rfl, rfl, rfl⟩ rfl ?_
    refine SL.bin ⟨rfl, rfl, rfl, rfl⟩ rfl rfl Bin.add32 ?_
    refine SL.asg ⟨rfl, rfl, rfl, rfl⟩ rfl ?_
    refine SL.asg ⟨rfl, rfl, rfl, rfl⟩ rfl ?_
    refine SL.asg ⟨rfl, rfl, rfl, rfl⟩ rfl ?_
    refine SL.asg ⟨rfl, rfl, rfl, rfl⟩ rfl ?_
    refine SL.asg ⟨rfl, rfl, rfl, rfl⟩ rfl ?_
    refine SL.asg ⟨rfl, rfl, rfl, rfl⟩ rfl ?_
    refine SL.asg ⟨rfl, rfl, rfl, rfl⟩ rfl ?_
    refine SL.asg ⟨rfl, rfl, rfl, rfl⟩ rfl ?_
    refine SL.nil ?_
    refine SQ.blk ?_
    refine SQ.thn ?_
    refine SX.region ?_
    refine SL.bin ⟨rfl, rfl, rfl, rfl⟩ rfl rfl (Bin.addI (by omega) (by omega)) ?_
    refine SL.mv ⟨rfl, rfl, rfl, rfl⟩ rfl ?_
    refine SL.nil ?_
    exact SQ.again (i + 1) (by omega) (by omega) ⟨rfl, rfl, rfl, rfl, rfl, rfl, rfl, rfl, rfl, rfl, rfl, trivial⟩
  · skip
    have hi : i = 64 := by simp at hc1; omega
    subst hi
    generalize hfin : roundsN T (spreadA s) h 64 = fin
    refine SX.exit ?_
    refine SQ.thnE ?_
    refine SQ.lpE ?_
    refine SQ.blkE ?_
    refine SQ.thn ?_
    refine SX.sr ?_
    refine SL.mv ⟨rfl, rfl, rfl, rfl⟩ rfl ?_
    refine SL.mv ⟨rfl, rfl, rfl, rfl⟩ rfl ?_
    refine SL.mv ⟨rfl, rfl, rfl, rfl⟩ rfl ?_
    refine SL.mv ⟨rfl, rfl, rfl, rfl⟩ rfl ?_
    refine SL.mv ⟨rfl, rfl, rfl, rfl⟩ rfl ?_
    refine SL.mv ⟨rfl, rfl, rfl, rfl⟩ rfl ?_
    refine SL.mv ⟨rfl, rfl, rfl, rfl⟩ rfl ?_
    refine SL.mv ⟨rfl, rfl, rfl, rfl⟩ rfl ?_
    refine SL.bldU (fin.list.map vU32) ⟨rfl, rfl, rfl, rfl⟩ ty161 sz22 ze161 rfl ⟨rfl, rfl, rfl, rfl, rfl, rfl, rfl, rfl, trivial⟩ rfl rfl (fun v hv => by obtain ⟨x, _, rfl⟩ := List.mem_map.1 hv; rfl) ?_
    refine SL.mv ⟨rfl, rfl, rfl, rfl⟩ rfl ?_
    have hfl : fin.list.length = h.length := by rw [hh]; rfl
    refine SL.nx ?_
    refine SX.block ?_
    refine SX.mono (SX.loop (α := Nat) (fun i => i ≤ 8) (fun i => [(0, vP b 0), (122, .agg (arr vU32 fin.list)), (123, vI i)]) (fun i => own b (.cells (arrT vU32 (mixN h fin.list i) tl) e) :: H) (fun i => 8 - i) (fun i D hp => ?_) 0 (by omega)) (by repeat' (first | exact trivial | refine And.intro rfl ?_))
    refine SX.sr ?_
    refine SL.bin ⟨rfl, rfl, rfl, rfl⟩ rfl rfl Bin.ltI ?_
    refine SL.nx ?_
    refine SX.seq ?_
    refine SX.cond rfl (fun hc2 => ?_) (fun hc2 => ?_)
    · skip
      have hi : i < 8 := by simp at hc2; omega
      have hml := mixN_length h _ hfl i
      have hw : fin.list[i]? = some (fin.list.getD i 0) := by
        rw [List.getD_eq_getElem?_getD, List.getElem?_eq_getElem (by omega)]
        rfl
      refine SX.skip ?_
      refine SQ.thn ?_
      refine SX.seq ?_
      refine SX.block ?_
      refine SX.sr ?_
      refine SL.mv ⟨rfl, rfl, rfl, rfl⟩ rfl ?_
      refine SL.ixA (i := i) ⟨rfl, rfl, rfl, rfl⟩ ty161 sc22 rfl rfl (by omega) (by omega) (arr_get hw) ?_
      refine SL.asg ⟨rfl, rfl, rfl, rfl⟩ rfl ?_
      refine SL.asg ⟨rfl, rfl, rfl, rfl⟩ rfl ?_
      refine SL.nx ?_
      refine SX.drawI mix [0] (Pl.ap [(true, 0), (true, 1), (true, 2), (true, 3), (true, 4), (true, 5), (true, 6), (true, 7), (true, 8)] (.last 9 .nil)) (by kernel_rfl) ?_
      refine SL.mv ⟨rfl, rfl, rfl, rfl⟩ rfl ?_
      refine SL.mv ⟨rfl, rfl, rfl, rfl⟩ rfl ?_
      refine SL.nchk ⟨rfl, rfl, rfl, rfl⟩ rfl ?_
      refine SL.iaAp (n := i) ⟨rfl, rfl, rfl, rfl⟩ ty162 sz22 rfl rfl (by omega) (by omega) ?_
      refine SL.ld ⟨rfl, rfl, rfl, rfl⟩ sc22 rfl (cell_own 0 rfl (arrT_app 0 (by omega))) ?_
      rw [mixN_get h _ hfl i (by omega)]
      refine SL.mv ⟨rfl, rfl, rfl, rfl⟩ rfl ?_
      refine SL.bin ⟨rfl, rfl, rfl, rfl⟩ rfl rfl Bin.add32 ?_
      refine SL.nchk ⟨rfl, rfl, rfl, rfl⟩ rfl ?_
      refine SL.iaAp (n := i) ⟨rfl, rfl, rfl, rfl⟩ ty162 sz22 rfl rfl (by omega) (by omega) ?_
      refine SL.last ?_
      refine SL.stT (f := vU32) 0 ⟨rfl, rfl, rfl⟩ rfl rfl rfl sz22 rfl rfl (by omega) trivial ?_
      rw [mixN_set h _ hfl i (by omega)]
      refine SL.nil ?_
      refine SQ.blk ?_
      refine SQ.thn ?_
      refine SX.region ?_
      refine SL.bin ⟨rfl, rfl, rfl, rfl⟩ rfl rfl (Bin.addI (by omega) (by omega)) ?_
      refine SL.mv ⟨rfl, rfl, rfl, rfl⟩ rfl ?_
      refine SL.nil ?_
      exact SQ.again (i + 1) (by omega) (by omega) ⟨rfl, rfl, rfl, trivial⟩
    · skip
      have hi : i = 8 := by simp at hc2; omega
      subst hi
      refine SX.exit ?_
      refine SQ.thnE ?_
      refine SQ.lpE ?_
      refine SQ.blkE ?_
      have hfull := mixN_full h _ hfl
      rw [hh] at hfull
      rw [hfull, ← hfin]
      exact SQ.fend (res0 rfl) (ret_of (M := [_]) ⟨rfl, rfl⟩ fun _ h => h)
theorem c_sha_lays (T : List UInt32) (h : St8) (rest s : List UInt8) (n : Int) (b : Nat) (e : TypeId) (hT : Tab K w0 2 T) (hTl : T.length = 64) (hs : s.length = 64) : Con Tryd.prog K w0 94 [vP b 0, vS s] [own b (.cells (sumC h rest n) e)] H (fun r M => r = .tuple #[] ∧ M = [own b (.cells (sumC (laysA T h s) rest n) e)]) := by
  have h1 := c_sha_laysL (K := K) (w0 := w0) (H := H) T h.list [vS rest, vI n] s b e hT hTl rfl hs
  rw [← St8.of_list (laysL_length (T := T) (s := s) (show h.list.length = 8 from rfl))] at h1
  exact h1
end Go.Proofs.YtddjneafgddlcaaDoor

/- Walks of SHA-256's parts of a text, and of the words' bytes. Condition: texts of at most 2^40 bytes. -/
namespace Go.Proofs.YtddjneafgddlcaaDoor
open Go
variable {K : Nat → Prop} {w0 : World} {H : List Chunk}

def encPart (p : Nat × List UInt8) : List Value := [vI p.1, vS p.2]
theorem q_sha_parts (s : List UInt8) (b : Nat) (hn : s.length ≤ 1099511627776) : Seq Tryd.prog K w0 102 [vP b 0] [own b (.cells #[vS s] 9)] encPart (partsA s) := by
  intro lp J X T hy G h0
  refine Con.enter Tryd.func102 rfl rfl ?_
  refine SX.sr ?_
  refine SL.asg ⟨rfl, rfl, rfl, rfl⟩ rfl ?_
  refine SL.nx ?_
  refine SX.block ?_
  refine SX.mono (SX.loop (α := Nat × List Chunk) (fun x => x.1 ≤ s.length / 64 ∧ J ((partsA s).take x.1) x.2) (fun x => [(0, vY lp), (1, vP b 0), (3, vI (64 * (x.1 + 1) : Nat))]) (fun x => own b (.cells #[vS s] 9) :: (x.2 ++ T)) (fun x => s.length / 64 - x.1) (fun x D hp => ?_) (0, G) ⟨Nat.zero_le _, h0⟩) (by repeat' (first | exact trivial | refine And.intro rfl ?_))
  obtain ⟨i, G⟩ := x
  obtain ⟨hi, hJ⟩ := hp
  simp only at hi hJ
  refine SX.seq ?_
  refine SX.sr ?_
  refine SL.mv ⟨rfl, rfl, rfl, rfl⟩ rfl ?_
  refine SL.ld ⟨rfl, rfl, rfl, rfl⟩ sc9 rfl (cell_own 0 rfl rfl) ?_
  refine SL.lenS ⟨rfl, rfl, rfl, rfl⟩ ty9 rfl ?_
  refine SL.bin ⟨rfl, rfl, rfl, rfl⟩ rfl rfl Bin.leI ?_
  refine SL.nx ?_
  refine SX.cond rfl (fun hc1 => ?_) (fun hc1 => ?_)
  · skip
    have hlt : i < s.length / 64 := by simp at hc1; omega
    have hg := partsA_get s i hlt
    refine SX.skip ?_
    refine SQ.thn ?_
    refine SX.seq ?_
    refine SX.block ?_
    refine SX.sr ?_
    refine SL.mv ⟨rfl, rfl, rfl, rfl⟩ rfl ?_
    refine SL.mv ⟨rfl, rfl, rfl, rfl⟩ rfl ?_
    refine SL.ld ⟨rfl, rfl, rfl, rfl⟩ sc9 rfl (cell_own 0 rfl rfl) ?_
    refine SL.mv ⟨rfl, rfl, rfl, rfl⟩ rfl ?_
    refine SL.bin ⟨rfl, rfl, rfl, rfl⟩ rfl rfl (Bin.subI (by omega) (by omega)) ?_
    refine SL.mv ⟨rfl, rfl, rfl, rfl⟩ rfl ?_
    refine SL.slS (64 * i) (64 * (i + 1)) ⟨rfl, rfl, rfl, rfl⟩ ty9 rfl rfl rfl (by omega) (by omega) (by omega) (by omega) ?_
    have ht : 64 * (i + 1) - 64 * i = 64 := by omega
    rw [ht]
    refine SL.yld (M2 := [_]) (G := G) (T := T) (vs := [_, _]) (ok := fun G1 => J ((partsA s).take (i + 1)) G1) (no := X) ⟨rfl, rfl, rfl, rfl⟩ rfl ⟨rfl, rfl, trivial⟩ rfl ?_ (fun bb G1 hG1 => ⟨trivial, ?_⟩)
    · intro M
      have := hy _ _ _ (take_split hg).1 G hJ M
      rw [← (take_split hg).2] at this
      exact this
    refine SL.not ⟨rfl, rfl, rfl, rfl⟩ rfl ?_
    refine SL.nx ?_
    refine SX.cond rfl (fun hc2 => ?_) (fun hc2 => ?_)
    · skip
      obtain rfl : bb = false := by simpa using hc2
      refine SX.ret ?_
      refine SQ.blkR ?_
      refine SQ.thnR ?_
      refine SQ.lpR ?_
      refine SQ.blkR ?_
      exact SQ.fret (res0 rfl) (ret_of (M := G1) (.inr hG1) fun _ h => h.skip [_])
    · skip
      obtain rfl : bb = true := by simpa using hc2
      refine SX.skip ?_
      refine SQ.blk ?_
      refine SQ.thn ?_
      refine SX.region ?_
      refine SL.mv ⟨rfl, rfl, rfl, rfl⟩ rfl ?_
      refine SL.bin ⟨rfl, rfl, rfl, rfl⟩ rfl rfl (Bin.addI (by omega) (by omega)) ?_
      refine SL.asg ⟨rfl, rfl, rfl, rfl⟩ rfl ?_
      refine SL.nil ?_
      refine SQ.again (i + 1, G1) ⟨hlt, hG1⟩ (by simp only; omega) ⟨rfl, rfl, ?_, trivial⟩
      have e : ((64 * (i + 1) : Nat) : Int) + 64 = ((64 * (i + 1 + 1) : Nat) : Int) := by omega
      simp only [look, Nat.beq, cond_true]
      rw [← e]
  · skip
    refine SX.exit ?_
    refine SQ.thnE ?_
    refine SQ.lpE ?_
    refine SQ.blkE ?_
    have hle : i = s.length / 64 := by simp at hc1; omega
    exact SQ.fend (res0 rfl) (ret_of (M := G) (.inl (by rw [List.take_of_length_le (by rw [partsA_length]; omega)] at hJ; exact hJ)) fun _ h => h.skip [_])

theorem c_sha_parts (s : List UInt8) : Con Tryd.prog K w0 95 [vS s] [] H (fun r M => ∃ b, r = .func (.func 102) #[] #[vP b 0] ∧ M = [own b (.cells #[vS s] 9)]) := by
  refine Con.enter Tryd.func95 rfl rfl ?_
  refine SX.sr ?_
  refine SL.box ⟨rfl, rfl, rfl, rfl⟩ rfl (fun _ => trivial) fun b0 => ?_
  refine SL.asg ⟨rfl, rfl, rfl, rfl⟩ rfl ?_
  refine SL.nx ?_
  refine SX.sr ?_
  refine SL.mkf (fv := #[]) (cv := #[_]) ⟨rfl, rfl, rfl, rfl⟩ rfl rfl ?_
  refine SL.asg ⟨rfl, rfl, rfl, rfl⟩ rfl ?_
  refine SL.nx ?_
  refine SX.ret ?_
  exact SQ.fret (res1 rfl rfl) (ret_of (M := [_]) ⟨b0, rfl, rfl⟩ fun _ h => h)

theorem c_sha_bytes (h : St8) (tl : List Value) (b : Nat) (e : TypeId) : Con Tryd.prog K w0 96 [vP b 0] [own b (.cells (arrT vU32 h.list tl) e)] H (fun r M => r = vS (h.list.flatMap beBytes) ∧ M = [own b (.cells (arrT vU32 h.list tl) e)]) := by
  refine Con.enter Tryd.func96 rfl rfl ?_
  refine SX.sr ?_
  refine SL.asg ⟨rfl, rfl, rfl, rfl⟩ rfl ?_
  refine SL.nx ?_
  refine SX.sr ?_
  refine SL.asg ⟨rfl, rfl, rfl, rfl⟩ rfl ?_
  refine SL.nx ?_
  refine SX.seq ?_
  refine SX.sr ?_
  refine SL.mv ⟨rfl, rfl, rfl, rfl⟩ rfl ?_
  refine SL.mv ⟨rfl, rfl, rfl, rfl⟩ rfl ?_
  refine SL.nx ?_
  refine SX.block ?_
  refine SX.nilRow 5 1 ?_
  refine SX.mono (SX.loop (α := Nat × Value) (fun x => x.1 ≤ 8) (fun x => [(3, x.2), (6, vP b 0), (7, vI x.1)]) (fun x => rowC 5 1 x.2 (4 * x.1) (((h.list.take x.1).flatMap beBytes).map fun b => vU8 b) :: own b (.cells (arrT vU32 h.list tl) e) :: H) (fun x => 8 - x.1) (fun x D hp => ?_) (0, .slice none 0 0) (by decide)) (by repeat' (first | exact trivial | refine And.intro rfl ?_))
  obtain ⟨i, v⟩ := x
  simp only at hp
  refine SX.sr ?_
  refine SL.bin ⟨rfl, rfl, rfl, rfl⟩ rfl rfl Bin.ltI ?_
  refine SL.nx ?_
  refine SX.seq ?_
  refine SX.cond rfl (fun hc1 => ?_) (fun hc1 => ?_)
  · skip
    have hlt : i < 8 := by simp at hc1; omega
    refine SX.skip ?_
    refine SQ.thn ?_
    refine SX.seq ?_
    refine SX.block ?_
    refine SX.sr ?_
    refine SL.nchk ⟨rfl, rfl, rfl, rfl⟩ rfl ?_
    refine SL.iaAp (n := i) ⟨rfl, rfl, rfl, rfl⟩ ty162 sz22 rfl rfl (by omega) (by omega) ?_
    refine SL.ld ⟨rfl, rfl, rfl, rfl⟩ sc22 rfl (cell_own 1 rfl (arrT_app 0 hlt)) ?_
    refine SL.asg ⟨rfl, rfl, rfl, rfl⟩ rfl ?_
    refine SL.nx ?_
    refine SX.region ?_
    refine SL.mv ⟨rfl, rfl, rfl, rfl⟩ rfl ?_
    refine SL.mv ⟨rfl, rfl, rfl, rfl⟩ rfl ?_
    refine SL.bin ⟨rfl, rfl, rfl, rfl⟩ rfl rfl (Bin.shr32 (n := 24)) ?_
    refine SL.cv ⟨rfl, rfl, rfl, rfl⟩ rfl (Cv.u32_8 ty22 ty5) ?_
    refine SL.mv ⟨rfl, rfl, rfl, rfl⟩ rfl ?_
    refine SL.bin ⟨rfl, rfl, rfl, rfl⟩ rfl rfl (Bin.shr32 (n := 16)) ?_
    refine SL.cv ⟨rfl, rfl, rfl, rfl⟩ rfl (Cv.u32_8 ty22 ty5) ?_
    refine SL.mv ⟨rfl, rfl, rfl, rfl⟩ rfl ?_
    refine SL.bin ⟨rfl, rfl, rfl, rfl⟩ rfl rfl (Bin.shr32 (n := 8)) ?_
    refine SL.cv ⟨rfl, rfl, rfl, rfl⟩ rfl (Cv.u32_8 ty22 ty5) ?_
    refine SL.mv ⟨rfl, rfl, rfl, rfl⟩ rfl ?_
    refine SL.cv ⟨rfl, rfl, rfl, rfl⟩ rfl (Cv.u32_8 ty22 ty5) ?_
    refine SL.bsl [_, _, _, _] ⟨rfl, rfl, rfl, rfl⟩ ty51 sz5 ze5 ⟨rfl, rfl, rfl, rfl, trivial⟩ rfl rfl rfl (by simp [Value.cells]) rfl rfl (fun _ => trivial) fun b0 => ?_
    refine SL.app 1 ⟨rfl, rfl, rfl, rfl⟩ (m := 4) (news := (beBytes (h.list.getD i 0)).map fun b => vU8 b) ty51 sz5 by5 ze5 rfl (by decide) rfl rfl rfl rfl (cells_all 0 rfl) (by intro u hu; obtain ⟨x, _, rfl⟩ := List.mem_map.1 hu; rfl) (by omega) (by omega) (fun _ => trivial) fun v' => ?_
    refine SL.asg ⟨rfl, rfl, rfl, rfl⟩ rfl ?_
    refine SL.nil ?_
    refine SQ.blk ?_
    refine SQ.thn ?_
    refine SX.region ?_
    refine SL.bin ⟨rfl, rfl, rfl, rfl⟩ rfl rfl (Bin.addI (by omega) (by omega)) ?_
    refine SL.mv ⟨rfl, rfl, rfl, rfl⟩ rfl ?_
    refine SL.nil ?_
    refine SQ.again (i + 1, v') (by simp only; omega) (by simp only; omega) ⟨rfl, rfl, rfl, trivial⟩ (fun w hw => by
      have e1 : h.list.take (i + 1) = h.list.take i ++ [h.list.getD i 0] := by
        rw [List.take_add_one, List.getD_eq_getElem?_getD, List.getElem?_eq_getElem (show i < h.list.length from hlt)]
        rfl
      simp only
      rw [e1, List.flatMap_append, List.map_append]
      simp only [List.flatMap_cons, List.flatMap_nil, List.append_nil]
      exact hw.skip [_])
  · skip
    have hi : i = 8 := by simp at hc1; omega
    subst hi
    refine SX.exit ?_
    refine SQ.thnE ?_
    refine SQ.lpE ?_
    refine SQ.blkE ?_
    refine SQ.thn ?_
    refine SX.sr ?_
    refine SL.mv ⟨rfl, rfl, rfl, rfl⟩ rfl ?_
    refine SL.btsR (s := h.list.flatMap beBytes) 0 ⟨rfl, rfl, rfl, rfl⟩ ty51 ty5 ty9 rfl rfl ?_
    refine SL.asg ⟨rfl, rfl, rfl, rfl⟩ rfl ?_
    refine SL.nx ?_
    refine SX.ret ?_
    exact SQ.fret (res1 rfl rfl) (ret_of (M := [_]) ⟨rfl, rfl⟩ fun _ h => h.skip [_])

end Go.Proofs.YtddjneafgddlcaaDoor

/- The walk of what a sum takes in: bytes behind those that it has. Condition: texts of at most 2^40 bytes. -/
namespace Go.Proofs.YtddjneafgddlcaaDoor
open Go
variable {K : Nat → Prop} {w0 : World} {H : List Chunk}
theorem c_sha_takes (T : List UInt32) (h : St8) (rest s : List UInt8) (n : Int) (b : Nat) (e : TypeId) (hT : Tab K w0 2 T) (hTl : T.length = 64) (hr : rest.length < 64) (hn : s.length ≤ 1099511627776) : Con Tryd.prog K w0 87 [vP b 0, vS s] [own b (.cells (sumC h rest n) e)] H (fun r M => r = .tuple #[] ∧ M = [own b (.cells (sumC (absorb T h (rest ++ s)).1 (absorb T h (rest ++ s)).2 n) e)]) := by
  refine Con.enter Tryd.func87 rfl rfl ?_
  refine SX.sr ?_
  refine SL.box ⟨rfl, rfl, rfl, rfl⟩ rfl (fun _ => trivial) fun b0 => ?_
  refine SL.box ⟨rfl, rfl, rfl, rfl⟩ rfl (fun _ => trivial) fun b1 => ?_
  refine SL.nx ?_
  refine SX.scope ?_
  refine SX.meet (α := St8 × List UInt8 × List UInt8) (fun x => absorb T x.1 (x.2.1 ++ x.2.2) = absorb T h (rest ++ s) ∧ x.2.1.length < 64 ∧ (x.2.1 ≠ [] → (x.2.1 ++ x.2.2).length < 64) ∧ x.2.2.length ≤ s.length) (fun x => [(2, vP b0 0), (3, vP b1 0)]) (fun x => own b1 (.cells #[vS x.2.2] 9) :: own b0 (.cells #[vP b 0] 158) :: own b (.cells (sumC x.1 x.2.1 n) e) :: H) ?_ (fun x hx => ?_)
  · skip
    refine SX.seq ?_
    refine SX.drawI mix [0, 1, 2] (Pl.of [(true, 0), (true, 1), (true, 2), (true, 3), (true, 4), (true, 5), (true, 6), (true, 7), (true, 8), (true, 9), (true, 10), (true, 11), (true, 12), (true, 13), (true, 14), (true, 15)]) (by kernel_rfl) ?_
    refine SL.ld ⟨rfl, rfl, rfl, rfl⟩ sc158 rfl (cell_own 1 rfl rfl) ?_
    refine SL.nchk ⟨rfl, rfl, rfl, rfl⟩ rfl ?_
    refine SL.fa ⟨rfl, rfl, rfl, rfl⟩ rfl fo164_1 ?_
    refine SL.ld ⟨rfl, rfl, rfl, rfl⟩ sc9 rfl (cell_own 2 rfl rfl) ?_
    refine SL.bin ⟨rfl, rfl, rfl, rfl⟩ rfl rfl (Bin.neS (t := [])) ?_
    refine SL.mv ⟨rfl, rfl, rfl, rfl⟩ rfl ?_
    refine SL.and (c := decide ((64 : Int) ≤ (rest.length : Int) + s.length)) 13 10 23 rfl (fun hb k => ?_) (fun hb k => ?_) ?_
    · skip
      refine SL.ld ⟨rfl, rfl, rfl, rfl⟩ sc158 rfl (cell_own 1 rfl rfl) ?_
      refine SL.nchk ⟨rfl, rfl, rfl, rfl⟩ rfl ?_
      refine SL.fa ⟨rfl, rfl, rfl, rfl⟩ rfl fo164_1 ?_
      refine SL.ld ⟨rfl, rfl, rfl, rfl⟩ sc9 rfl (cell_own 2 rfl rfl) ?_
      refine SL.lenS ⟨rfl, rfl, rfl, rfl⟩ ty9 rfl ?_
      refine SL.ld ⟨rfl, rfl, rfl, rfl⟩ sc9 rfl (cell_own 0 rfl rfl) ?_
      refine SL.lenS ⟨rfl, rfl, rfl, rfl⟩ ty9 rfl ?_
      refine SL.bin ⟨rfl, rfl, rfl, rfl⟩ rfl rfl (Bin.addI (by omega) (by omega)) ?_
      refine SL.bin ⟨rfl, rfl, rfl, rfl⟩ rfl rfl Bin.geI ?_
      refine SL.pk ⟨rfl, rfl, rfl, rfl⟩ rfl rfl ?_
      exact k.mono (by repeat' (first | exact trivial | refine And.intro rfl ?_))
    · skip
      refine SL.pass rfl rfl rfl ?_
      refine SL.pass rfl rfl rfl ?_
      refine SL.pass rfl rfl rfl ?_
      refine SL.pass rfl rfl rfl ?_
      refine SL.pass rfl rfl rfl ?_
      refine SL.pass rfl rfl rfl ?_
      refine SL.pass rfl rfl rfl ?_
      refine SL.pass rfl rfl rfl ?_
      refine SL.pass rfl rfl rfl ?_
      refine SL.pk ⟨rfl, rfl, rfl, rfl⟩ rfl rfl ?_
      exact k.mono (by repeat' (first | exact trivial | refine And.intro rfl ?_))
    refine SL.nx ?_
    refine SX.cond rfl (fun hc1 => ?_) (fun hc1 => ?_)
    · skip
      have hne : rest ≠ [] ∧ 64 ≤ rest.length + s.length := by simp at hc1; exact ⟨hc1.1, by omega⟩
      refine SX.sr ?_
      refine SL.ld ⟨rfl, rfl, rfl, rfl⟩ sc158 rfl (cell_own 1 rfl rfl) ?_
      refine SL.nchk ⟨rfl, rfl, rfl, rfl⟩ rfl ?_
      refine SL.fa ⟨rfl, rfl, rfl, rfl⟩ rfl fo164_1 ?_
      refine SL.ld ⟨rfl, rfl, rfl, rfl⟩ sc9 rfl (cell_own 2 rfl rfl) ?_
      refine SL.lenS ⟨rfl, rfl, rfl, rfl⟩ ty9 rfl ?_
      refine SL.bin ⟨rfl, rfl, rfl, rfl⟩ rfl rfl (Bin.subI (by omega) (by omega)) ?_
      refine SL.asg ⟨rfl, rfl, rfl, rfl⟩ rfl ?_
      refine SL.nx ?_
      refine SX.seq ?_
      refine SX.drawI mix [0, 1, 2] (Pl.ap [(true, 0), (true, 1), (true, 2), (true, 3), (true, 4), (true, 5), (true, 6), (true, 7), (true, 8), (true, 9), (true, 10)] (.last 11 .nil)) (by kernel_rfl) ?_
      refine SL.ld ⟨rfl, rfl, rfl, rfl⟩ sc158 rfl (cell_own 1 rfl rfl) ?_
      refine SL.nchk ⟨rfl, rfl, rfl, rfl⟩ rfl ?_
      refine SL.fa ⟨rfl, rfl, rfl, rfl⟩ rfl fo164_0 ?_
      refine SL.ld ⟨rfl, rfl, rfl, rfl⟩ sc158 rfl (cell_own 1 rfl rfl) ?_
      refine SL.nchk ⟨rfl, rfl, rfl, rfl⟩ rfl ?_
      refine SL.fa ⟨rfl, rfl, rfl, rfl⟩ rfl fo164_1 ?_
      refine SL.ld ⟨rfl, rfl, rfl, rfl⟩ sc9 rfl (cell_own 2 rfl rfl) ?_
      refine SL.ld ⟨rfl, rfl, rfl, rfl⟩ sc9 rfl (cell_own 0 rfl rfl) ?_
      refine SL.mv ⟨rfl, rfl, rfl, rfl⟩ rfl ?_
      refine SL.slSh (64 - rest.length) ⟨rfl, rfl, rfl, rfl⟩ ty9 rfl rfl (by omega) (by omega) ?_
      refine SL.bin ⟨rfl, rfl, rfl, rfl⟩ rfl rfl (Bin.cat (by simp; omega)) ?_
      refine SL.last ?_
      refine SL.pick [2, 0, 1] 3 ?_
      refine SL.call (vs := [_, _]) (Hin := [_]) ⟨rfl, rfl, rfl, rfl⟩ rfl ⟨rfl, rfl, trivial⟩ cal94 rfl rfl (c_sha_lays T h rest (rest ++ s.take (64 - rest.length)) n b e hT hTl (by simp; omega)) ?_
      rintro _ _ ⟨rfl, rfl⟩
      refine ⟨trivial, ?_⟩
      refine SL.pick [1, 2, 0] 3 ?_
      refine SL.nx ?_
      refine SX.drawI mix [0, 1] (Pl.ap [(true, 0), (true, 1), (true, 2), (true, 3), (true, 4), (true, 5), (false, 6)] (.last 7 .nil)) (by kernel_rfl) ?_
      refine SL.ld ⟨rfl, rfl, rfl, rfl⟩ sc158 rfl (cell_own 1 rfl rfl) ?_
      refine SL.ld ⟨rfl, rfl, rfl, rfl⟩ sc9 rfl (cell_own 0 rfl rfl) ?_
      refine SL.mv ⟨rfl, rfl, rfl, rfl⟩ rfl ?_
      refine SL.slSl (64 - rest.length) ⟨rfl, rfl, rfl, rfl⟩ ty9 rfl rfl (by omega) (by omega) ?_
      refine SL.nchk ⟨rfl, rfl, rfl, rfl⟩ rfl ?_
      refine SL.fa ⟨rfl, rfl, rfl, rfl⟩ rfl fo164_1 ?_
      refine SL.st 2 ⟨rfl, rfl, rfl⟩ rfl rfl rfl sz9 rfl rfl rfl ⟨⟨0, rfl⟩, ⟨1, rfl⟩, trivial⟩ ?_
      refine SL.last ?_
      refine SL.st 0 ⟨rfl, rfl, rfl⟩ rfl rfl rfl sz9 rfl rfl rfl trivial ?_
      refine SL.nil ?_
      refine SQ.mid (laysA T h (rest ++ s.take (64 - rest.length)), [], s.drop (64 - rest.length)) ⟨?_, by simp, fun h => absurd rfl h, by simp⟩ (by repeat' (first | exact trivial | refine And.intro rfl ?_))
      have e1 : rest ++ s = (rest ++ s.take (64 - rest.length)) ++ s.drop (64 - rest.length) := by rw [List.append_assoc, List.take_append_drop]
      have e2 := absorb_part (T := T) (h := h) (p := rest ++ s.take (64 - rest.length)) (s := s.drop (64 - rest.length)) (by simp; omega)
      rw [e1, e2]
      rfl
    · skip
      refine SX.skip ?_
      refine SQ.mid (h, rest, s) ⟨rfl, hr, fun hne => ?_, Nat.le_refl _⟩ (by repeat' (first | exact trivial | refine And.intro rfl ?_))
      simp at hc1
      have := hc1 hne
      simp
      omega
  -- live: (2, vP b0 0), (3, vP b1 0)
  · skip
    obtain ⟨h1, r1, s1⟩ := x
    obtain ⟨hx1, hx2, hx3, hx4⟩ := hx
    simp only at hx1 hx2 hx3 hx4
    refine SX.seq ?_
    refine SX.sr ?_
    refine SL.ld ⟨rfl, rfl, rfl, rfl⟩ sc158 rfl (cell_own 1 rfl rfl) ?_
    refine SL.nchk ⟨rfl, rfl, rfl, rfl⟩ rfl ?_
    refine SL.fa ⟨rfl, rfl, rfl, rfl⟩ rfl fo164_1 ?_
    refine SL.ld ⟨rfl, rfl, rfl, rfl⟩ sc9 rfl (cell_own 2 rfl rfl) ?_
    refine SL.bin ⟨rfl, rfl, rfl, rfl⟩ rfl rfl (Bin.neS (t := [])) ?_
    refine SL.nx ?_
    refine SX.cond rfl (fun hc2 => ?_) (fun hc2 => ?_)
    · skip
      have hsh := hx3 (by simpa using hc2)
      rw [absorb_short hsh] at hx1
      rw [← hx1]
      refine SX.seq ?_
      refine SX.drawI mix [0, 1, 2] (Pl.ap [(true, 0), (true, 1), (true, 2), (true, 3), (true, 4), (true, 5), (true, 6), (true, 7)] (.last 8 .nil)) (by kernel_rfl) ?_
      refine SL.ld ⟨rfl, rfl, rfl, rfl⟩ sc158 rfl (cell_own 1 rfl rfl) ?_
      refine SL.nchk ⟨rfl, rfl, rfl, rfl⟩ rfl ?_
      refine SL.fa ⟨rfl, rfl, rfl, rfl⟩ rfl fo164_1 ?_
      refine SL.ld ⟨rfl, rfl, rfl, rfl⟩ sc9 rfl (cell_own 2 rfl rfl) ?_
      refine SL.ld ⟨rfl, rfl, rfl, rfl⟩ sc9 rfl (cell_own 0 rfl rfl) ?_
      refine SL.bin ⟨rfl, rfl, rfl, rfl⟩ rfl rfl (Bin.cat (by simp; omega)) ?_
      refine SL.nchk ⟨rfl, rfl, rfl, rfl⟩ rfl ?_
      refine SL.fa ⟨rfl, rfl, rfl, rfl⟩ rfl fo164_1 ?_
      refine SL.last ?_
      refine SL.st 2 ⟨rfl, rfl, rfl⟩ rfl rfl rfl sz9 rfl rfl rfl trivial ?_
      refine SL.nx ?_
      refine SX.ret ?_
      refine SQ.thnR ?_
      refine SQ.scpR ?_
      exact SQ.fret (res0 rfl) (ret_of (M := [_]) ⟨rfl, rfl⟩ fun _ h => h.skip [_, _])
    · skip
      have hr1 : r1 = [] := by simpa using hc2
      subst hr1
      rw [List.nil_append, absorb_parts] at hx1
      rw [← hx1]
      refine SX.skip ?_
      refine SQ.thn ?_
      refine SX.sr ?_
      refine SL.alloc ⟨rfl, rfl, rfl, rfl⟩ ze3 (fun _ => trivial) fun b2 => ?_
      refine SL.st 0 ⟨rfl, rfl, rfl⟩ rfl rfl rfl sz3 rfl rfl rfl trivial ?_
      refine SL.nx ?_
      refine SX.seq ?_
      refine SX.label ?_
      refine SQ.thn ?_
      refine SX.seq ?_
      refine SX.sr ?_
      refine SL.ld ⟨rfl, rfl, rfl, rfl⟩ sc9 rfl (cell_own 1 rfl rfl) ?_
      refine SL.call (vs := [_]) (Hin := []) ⟨rfl, rfl, rfl, rfl⟩ rfl ⟨rfl, trivial⟩ cal95 rfl rfl (c_sha_parts s1) ?_
      rintro _ _ ⟨bi, rfl, rfl⟩
      refine ⟨trivial, ?_⟩
      refine SL.nx ?_
      refine SX.block ?_
      refine SX.range (enc := encPart) (partsA s1) (fun pre G => G = own b2 (.cells #[vI (64 * pre.length : Nat)] 3) :: own b1 (.cells #[vS s1] 9) :: own b0 (.cells #[vP b 0] 158) :: own b (.cells (sumC (partsN T h1 s1 pre.length) [] n) e) :: H) (fun c G => c = .exit 0 ∧ G = own b2 (.cells #[vI (64 * (s1.length / 64) : Nat)] 3) :: own b1 (.cells #[vS s1] 9) :: own b0 (.cells #[vP b 0] 158) :: own b (.cells (sumC (partsN T h1 s1 (s1.length / 64)) [] n) e) :: H) rfl cal102 rfl (fun _ => rfl) (q_sha_parts s1 bi (by omega)) rfl rfl (fun pre x suf G hxs hJ r lp Rest => ?_) (fun G D hJ => ?_) (fun c G D hX => ?_)
      · obtain rfl := hJ
        have hget : (partsA s1)[pre.length]? = some x := by rw [hxs]; simp
        have hlt : pre.length < s1.length / 64 := by
          have := partsA_length s1
          rw [hxs] at this
          simp at this
          omega
        rw [partsA_get s1 _ hlt] at hget
        obtain rfl := Option.some.inj hget
        refine SX.sr ?_
        refine SL.asg ⟨rfl, rfl, rfl, rfl⟩ rfl ?_
        refine SL.nx ?_
        refine SX.region ?_
        refine SL.asg ⟨rfl, rfl, rfl, rfl⟩ rfl ?_
        refine SL.nil ?_
        refine SQ.bgn ?_
        refine SX.block ?_
        refine SX.sr ?_
        refine SL.ld ⟨rfl, rfl, rfl, rfl⟩ sc158 rfl (cell_own 2 rfl rfl) ?_
        refine SL.nchk ⟨rfl, rfl, rfl, rfl⟩ rfl ?_
        refine SL.fa ⟨rfl, rfl, rfl, rfl⟩ rfl fo164_0 ?_
        refine SL.mv ⟨rfl, rfl, rfl, rfl⟩ rfl ?_
        refine SL.pick [3, 0, 1, 2] 4 ?_
        refine SL.call (vs := [_, _]) (Hin := [_]) ⟨rfl, rfl, rfl, rfl⟩ rfl ⟨rfl, rfl, trivial⟩ cal94 rfl rfl (c_sha_lays T (partsN T h1 s1 pre.length) [] _ n b e hT hTl (by simp; omega)) ?_
        rintro _ _ ⟨rfl, rfl⟩
        refine ⟨trivial, ?_⟩
        refine SL.pick [1, 2, 3, 0] 4 ?_
        refine SL.nx ?_
        refine SX.sr ?_
        refine SL.mv ⟨rfl, rfl, rfl, rfl⟩ rfl ?_
        refine SL.st 0 ⟨rfl, rfl, rfl⟩ rfl rfl rfl sz3 rfl rfl rfl trivial ?_
        refine SL.nx ?_
        refine SX.sr ?_
        refine SL.ld ⟨rfl, rfl, rfl, rfl⟩ sc9 rfl (cell_own 1 rfl rfl) ?_
        refine SL.lenS ⟨rfl, rfl, rfl, rfl⟩ ty9 rfl ?_
        refine SL.mv ⟨rfl, rfl, rfl, rfl⟩ rfl ?_
        refine SL.bin ⟨rfl, rfl, rfl, rfl⟩ rfl rfl (Bin.subI (by omega) (by omega)) ?_
        refine SL.bin ⟨rfl, rfl, rfl, rfl⟩ rfl rfl Bin.ltI ?_
        refine SL.nx ?_
        refine SX.cond rfl (fun hc3 => ?_) (fun hc3 => ?_)
        · skip
          refine SX.exit ?_
          refine SQ.blkO ?_
          have e1 : pre.length + 1 = s1.length / 64 := by simp at hc3; omega
          exact SQ.rndE (G := _ :: _ :: _ :: _ :: H) (by rw [← e1]; exact ⟨rfl, rfl⟩) (fun _ h => h)
        · skip
          refine SX.skip ?_
          refine SQ.blk ?_
          exact SQ.rndN (G := _ :: _ :: _ :: _ :: H) (by rw [show (pre ++ [(64 * (pre.length + 1), (s1.drop (64 * pre.length)).take 64)]).length = pre.length + 1 by simp]; rfl) (fun _ h => h)
      · obtain rfl := hJ
        rw [partsA_length]
        refine SQ.blk ?_
        refine SQ.thn ?_
        refine SX.drawI mix [0, 1, 2] (Pl.ap [(true, 0), (true, 1), (true, 2), (true, 3), (true, 4), (true, 5)] (.last 6 .nil)) (by kernel_rfl) ?_
        refine SL.ld ⟨rfl, rfl, rfl, rfl⟩ sc158 rfl (cell_own 2 rfl rfl) ?_
        refine SL.ld ⟨rfl, rfl, rfl, rfl⟩ sc9 rfl (cell_own 1 rfl rfl) ?_
        refine SL.ld ⟨rfl, rfl, rfl, rfl⟩ sc3 rfl (cell_own 0 rfl rfl) ?_
        refine SL.slSl (64 * (s1.length / 64)) ⟨rfl, rfl, rfl, rfl⟩ ty9 rfl rfl (by omega) (by omega) ?_
        refine SL.nchk ⟨rfl, rfl, rfl, rfl⟩ rfl ?_
        refine SL.fa ⟨rfl, rfl, rfl, rfl⟩ rfl fo164_1 ?_
        refine SL.last ?_
        refine SL.st 3 ⟨rfl, rfl, rfl⟩ rfl rfl rfl sz9 rfl rfl rfl trivial ?_
        refine SL.nil ?_
        refine SQ.scp ?_
        exact SQ.fend (res0 rfl) (ret_of (M := [_]) ⟨rfl, rfl⟩ fun _ h => h.skip [_, _, _])
      · obtain ⟨rfl, rfl⟩ := hX
        refine SX.exit ?_
        refine SQ.blkE ?_
        refine SQ.thn ?_
        refine SX.drawI mix [0, 1, 2] (Pl.ap [(true, 0), (true, 1), (true, 2), (true, 3), (true, 4), (true, 5)] (.last 6 .nil)) (by kernel_rfl) ?_
        refine SL.ld ⟨rfl, rfl, rfl, rfl⟩ sc158 rfl (cell_own 2 rfl rfl) ?_
        refine SL.ld ⟨rfl, rfl, rfl, rfl⟩ sc9 rfl (cell_own 1 rfl rfl) ?_
        refine SL.ld ⟨rfl, rfl, rfl, rfl⟩ sc3 rfl (cell_own 0 rfl rfl) ?_
        refine SL.slSl (64 * (s1.length / 64)) ⟨rfl, rfl, rfl, rfl⟩ ty9 rfl rfl (by omega) (by omega) ?_
        refine SL.nchk ⟨rfl, rfl, rfl, rfl⟩ rfl ?_
        refine SL.fa ⟨rfl, rfl, rfl, rfl⟩ rfl fo164_1 ?_
        refine SL.last ?_
        refine SL.st 3 ⟨rfl, rfl, rfl⟩ rfl rfl rfl sz9 rfl rfl rfl trivial ?_
        refine SL.nil ?_
        refine SQ.scp ?_
        exact SQ.fend (res0 rfl) (ret_of (M := [_]) ⟨rfl, rfl⟩ fun _ h => h.skip [_, _, _])

end Go.Proofs.YtddjneafgddlcaaDoor

/- Walks of strings.Builder's methods: what is written is held, String hands it back. Condition: the bytes number at most 2^47. -/
namespace Go.Proofs.YtddjneafgddlcaaDoor
open Go
variable {K : Nat → Prop} {w0 : World} {H : List Chunk}

def lies (e : TypeId) : Prop := liesAt Tryd.prog Tryd.prog.depth e (2 / Tryd.prog.cellsOf e) 0 95 1 = true
theorem nesc (v : Value) (w : World) : (callFunc 73 [v].toArray).run Tryd.prog w = .ok (.value v) w := by
  rw [run_callFunc_extern (e := Extern.AbiNoEscape.same) Tryd.func73 (by kernel_rfl) (by kernel_rfl) (by kernel_rfl) (by kernel_rfl)]
  rfl

theorem c_copyCheck0 (e : TypeId) (b : Nat) (v : Value) (hl : lies e) : Con Tryd.prog K w0 57 [vP b 0] [own b (.cells #[.pointer none, v] e)] H (fun r M => r = .tuple #[] ∧ M = [own b (.cells #[vP b 0, v] e)]) := by
  refine Con.enter Tryd.func57 rfl rfl ?_
  refine SX.sr ?_
  refine SL.mv ⟨rfl, rfl, rfl, rfl⟩ rfl ?_
  refine SL.nchk ⟨rfl, rfl, rfl, rfl⟩ rfl ?_
  refine SL.fa ⟨rfl, rfl, rfl, rfl⟩ rfl fo95_0 ?_
  refine SL.ld ⟨rfl, rfl, rfl, rfl⟩ sc93 rfl (cell_own 0 rfl rfl) ?_
  refine SL.eqPN ⟨rfl, rfl, rfl, rfl⟩ ty93 rfl rfl ?_
  refine SL.nx ?_
  refine SX.condT rfl ?_
  refine SX.region ?_
  refine SL.mv ⟨rfl, rfl, rfl, rfl⟩ rfl ?_
  refine SL.mv ⟨rfl, rfl, rfl, rfl⟩ rfl ?_
  refine SL.toU 0 ⟨rfl, rfl, rfl, rfl⟩ ty93 ty134 sz95 rfl rfl rfl rfl ?_
  refine SL.extv ⟨rfl, rfl, rfl, rfl⟩ (vs := [_]) ⟨rfl, trivial⟩ (nesc _) ?_
  refine SL.frU 0 ⟨rfl, rfl, rfl, rfl⟩ ty134 ty93 sz95 rfl rfl hl ?_
  refine SL.nchk ⟨rfl, rfl, rfl, rfl⟩ rfl ?_
  refine SL.fa ⟨rfl, rfl, rfl, rfl⟩ rfl fo95_0 ?_
  refine SL.st 0 ⟨rfl, rfl, rfl⟩ rfl rfl rfl sz93 rfl rfl rfl trivial ?_
  refine SL.nil ?_
  exact SQ.fend (res0 rfl) (ret_of (M := [_]) ⟨rfl, rfl⟩ fun _ h => h)

theorem c_copyCheck1 (e : TypeId) (b : Nat) (v : Value) : Con Tryd.prog K w0 57 [vP b 0] [own b (.cells #[vP b 0, v] e)] H (fun r M => r = .tuple #[] ∧ M = [own b (.cells #[vP b 0, v] e)]) := by
  refine Con.enter Tryd.func57 rfl rfl ?_
  refine SX.sr ?_
  refine SL.mv ⟨rfl, rfl, rfl, rfl⟩ rfl ?_
  refine SL.nchk ⟨rfl, rfl, rfl, rfl⟩ rfl ?_
  refine SL.fa ⟨rfl, rfl, rfl, rfl⟩ rfl fo95_0 ?_
  refine SL.ld ⟨rfl, rfl, rfl, rfl⟩ sc93 rfl (cell_own 0 rfl rfl) ?_
  refine SL.eqPN ⟨rfl, rfl, rfl, rfl⟩ ty93 rfl rfl ?_
  refine SL.nx ?_
  refine SX.condF rfl ?_
  refine SX.sr ?_
  refine SL.mv ⟨rfl, rfl, rfl, rfl⟩ rfl ?_
  refine SL.nchk ⟨rfl, rfl, rfl, rfl⟩ rfl ?_
  refine SL.fa ⟨rfl, rfl, rfl, rfl⟩ rfl fo95_0 ?_
  refine SL.ld ⟨rfl, rfl, rfl, rfl⟩ sc93 rfl (cell_own 0 rfl rfl) ?_
  refine SL.mv ⟨rfl, rfl, rfl, rfl⟩ rfl ?_
  refine SL.nePP ⟨rfl, rfl, rfl, rfl⟩ ty93 sz95 rfl rfl ?_
  refine SL.nx ?_
  refine SX.condF rfl ?_
  refine SX.skip ?_
  exact SQ.fend (res0 rfl) (ret_of (M := [_]) ⟨rfl, rfl⟩ fun _ h => h)

/-- the builder's first field: nil, or its own address -/
def adr (b : Nat) (p : Value) : Prop := p = .pointer none ∨ p = vP b 0
theorem c_copyCheck (e : TypeId) (b : Nat) (p v : Value) (hp : adr b p) (hl : lies e) : Con Tryd.prog K w0 57 [vP b 0] [own b (.cells #[p, v] e)] H (fun r M => r = .tuple #[] ∧ M = [own b (.cells #[vP b 0, v] e)]) := by
  rcases hp with rfl | rfl
  · exact c_copyCheck0 e b v hl
  · exact c_copyCheck1 e b v

theorem c_WriteByte (e : TypeId) (b : Nat) (p v : Value) (n : Nat) (xs : List Value) (c : UInt8) (hp : adr b p) (hl : lies e) (hn : n + 1 ≤ 140737488355328) :
    Con Tryd.prog K w0 78 [vP b 0, vU8 c] [own b (.cells #[p, v] e), rowC 5 1 v n xs] H
      (fun r M => r = .nilIface ∧ ∃ v', M = [own b (.cells #[vP b 0, v'] e), rowC 5 1 v' (n + 1) (xs ++ [vU8 c])]) := by
  refine Con.enter Tryd.func78 rfl rfl ?_
  refine SX.sr ?_
  refine SL.asg ⟨rfl, rfl, rfl, rfl⟩ rfl ?_
  refine SL.nx ?_
  refine SX.sr ?_
  refine SL.mv ⟨rfl, rfl, rfl, rfl⟩ rfl ?_
  refine SL.call (vs := [_]) (Hin := [_]) ⟨rfl, rfl, rfl, rfl⟩ rfl ⟨rfl, trivial⟩ cal57 rfl rfl (c_copyCheck e b p v hp hl) ?_
  rintro _ _ ⟨rfl, rfl⟩
  refine ⟨trivial, ?_⟩
  refine SL.nx ?_
  refine SX.sr ?_
  refine SL.mv ⟨rfl, rfl, rfl, rfl⟩ rfl ?_
  refine SL.mv ⟨rfl, rfl, rfl, rfl⟩ rfl ?_
  refine SL.nchk ⟨rfl, rfl, rfl, rfl⟩ rfl ?_
  refine SL.fa ⟨rfl, rfl, rfl, rfl⟩ rfl fo95_1 ?_
  refine SL.ld ⟨rfl, rfl, rfl, rfl⟩ sc51 rfl (cell_own 0 rfl rfl) ?_
  refine SL.mv ⟨rfl, rfl, rfl, rfl⟩ rfl ?_
  refine SL.bsl [vU8 c] ⟨rfl, rfl, rfl, rfl⟩ ty51 sz5 ze5 ⟨rfl, trivial⟩ rfl rfl rfl (by simp [Value.cells]) rfl rfl (fun _ => trivial) fun b1 => ?_
  refine SL.app 2 ⟨rfl, rfl, rfl, rfl⟩ (news := [vU8 c]) ty51 sz5 by5 ze5 rfl (by decide) rfl rfl rfl rfl (cells_all 0 rfl) (by simp [Value.oneCell']) (by omega) (by omega) (fun _ => trivial) fun v' => ?_
  refine SL.nchk ⟨rfl, rfl, rfl, rfl⟩ rfl ?_
  refine SL.fa ⟨rfl, rfl, rfl, rfl⟩ rfl fo95_1 ?_
  refine SL.fact (fun w hw => row_shape (hw.holds _ (List.mem_append_left _ (List.mem_of_getElem? (i := 2) rfl)))) fun hsh => ?_
  have hc1 : v'.cells = #[v'] := by rcases hsh with ⟨rfl, _⟩ | ⟨g, cap, rfl, _⟩ <;> rfl
  have ho1 : v'.oneCell' = true := by rcases hsh with ⟨rfl, _⟩ | ⟨g, cap, rfl, _⟩ <;> rfl
  refine SL.st 1 ⟨rfl, rfl, rfl⟩ rfl rfl rfl sz51 (by rw [hc1]; rfl) (by rw [hc1]; simp [ho1]) rfl trivial ?_
  rw [hc1]
  refine SL.nx ?_
  refine SX.sr ?_
  refine SL.asg ⟨rfl, rfl, rfl, rfl⟩ rfl ?_
  refine SL.nx ?_
  refine SX.ret ?_
  exact SQ.fret (res1 rfl rfl) (ret_of (M := [_, _]) ⟨rfl, v', rfl⟩ fun _ h => h.skip [_])

theorem c_WriteString (e : TypeId) (b : Nat) (p v : Value) (n : Nat) (xs : List Value) (s : List UInt8) (hp : adr b p) (hl : lies e) (hn : n + s.length ≤ 140737488355328) :
    Con Tryd.prog K w0 42 [vP b 0, vS s] [own b (.cells #[p, v] e), rowC 5 1 v n xs] H
      (fun r M => r = .tuple #[vI s.length, .nilIface] ∧ ∃ v', M = [own b (.cells #[vP b 0, v'] e), rowC 5 1 v' (n + s.length) (xs ++ s.map fun b => vU8 b)]) := by
  refine Con.enter Tryd.func42 rfl rfl ?_
  refine SX.sr ?_
  refine SL.asg ⟨rfl, rfl, rfl, rfl⟩ rfl ?_
  refine SL.asg ⟨rfl, rfl, rfl, rfl⟩ rfl ?_
  refine SL.nx ?_
  refine SX.sr ?_
  refine SL.mv ⟨rfl, rfl, rfl, rfl⟩ rfl ?_
  refine SL.call (vs := [_]) (Hin := [_]) ⟨rfl, rfl, rfl, rfl⟩ rfl ⟨rfl, trivial⟩ cal57 rfl rfl (c_copyCheck e b p v hp hl) ?_
  rintro _ _ ⟨rfl, rfl⟩
  refine ⟨trivial, ?_⟩
  refine SL.nx ?_
  refine SX.sr ?_
  refine SL.mv ⟨rfl, rfl, rfl, rfl⟩ rfl ?_
  refine SL.mv ⟨rfl, rfl, rfl, rfl⟩ rfl ?_
  refine SL.nchk ⟨rfl, rfl, rfl, rfl⟩ rfl ?_
  refine SL.fa ⟨rfl, rfl, rfl, rfl⟩ rfl fo95_1 ?_
  refine SL.ld ⟨rfl, rfl, rfl, rfl⟩ sc51 rfl (cell_own 0 rfl rfl) ?_
  refine SL.mv ⟨rfl, rfl, rfl, rfl⟩ rfl ?_
  refine SL.appS 1 ⟨rfl, rfl, rfl, rfl⟩ ty51 ty9 sz5 by5 ze5 rfl rfl rfl hn (fun _ => trivial) fun v' => ?_
  refine SL.nchk ⟨rfl, rfl, rfl, rfl⟩ rfl ?_
  refine SL.fa ⟨rfl, rfl, rfl, rfl⟩ rfl fo95_1 ?_
  refine SL.fact (fun w hw => row_shape (hw.holds _ (List.mem_append_left _ (List.mem_of_getElem? (i := 1) rfl)))) fun hsh => ?_
  have hc1 : v'.cells = #[v'] := by rcases hsh with ⟨rfl, _⟩ | ⟨g, cap, rfl, _⟩ <;> rfl
  have ho1 : v'.oneCell' = true := by rcases hsh with ⟨rfl, _⟩ | ⟨g, cap, rfl, _⟩ <;> rfl
  refine SL.st 0 ⟨rfl, rfl, rfl⟩ rfl rfl rfl sz51 (by rw [hc1]; rfl) (by rw [hc1]; simp [ho1]) rfl trivial ?_
  rw [hc1]
  refine SL.nx ?_
  refine SX.sr ?_
  refine SL.mv ⟨rfl, rfl, rfl, rfl⟩ rfl ?_
  refine SL.lenS ⟨rfl, rfl, rfl, rfl⟩ ty9 rfl ?_
  refine SL.asg ⟨rfl, rfl, rfl, rfl⟩ rfl ?_
  refine SL.asg ⟨rfl, rfl, rfl, rfl⟩ rfl ?_
  refine SL.nx ?_
  refine SX.ret ?_
  exact SQ.fret (res2 rfl rfl rfl) (ret_of (M := [_, _]) ⟨rfl, v', rfl⟩ fun _ h => h)

theorem c_Len (e : TypeId) (b : Nat) (p v : Value) (n : Nat) (xs : List Value) :
    Con Tryd.prog K w0 43 [vP b 0] [own b (.cells #[p, v] e), rowC 5 1 v n xs] H
      (fun r M => r = vI n ∧ M = [own b (.cells #[p, v] e), rowC 5 1 v n xs]) := by
  refine Con.enter Tryd.func43 rfl rfl ?_
  refine SX.sr ?_
  refine SL.asg ⟨rfl, rfl, rfl, rfl⟩ rfl ?_
  refine SL.nx ?_
  refine SX.sr ?_
  refine SL.mv ⟨rfl, rfl, rfl, rfl⟩ rfl ?_
  refine SL.nchk ⟨rfl, rfl, rfl, rfl⟩ rfl ?_
  refine SL.fa ⟨rfl, rfl, rfl, rfl⟩ rfl fo95_1 ?_
  refine SL.ld ⟨rfl, rfl, rfl, rfl⟩ sc51 rfl (cell_own 0 rfl rfl) ?_
  refine SL.lenR 1 ⟨rfl, rfl, rfl, rfl⟩ ty51 rfl rfl ?_
  refine SL.asg ⟨rfl, rfl, rfl, rfl⟩ rfl ?_
  refine SL.nx ?_
  refine SX.ret ?_
  exact SQ.fret (res1 rfl rfl) (ret_of (M := [_, _]) ⟨rfl, rfl⟩ fun _ h => h)

theorem c_String (e : TypeId) (b : Nat) (p v : Value) (n : Nat) (s : List UInt8) (hn : n ≤ 140737488355328) :
    Con Tryd.prog K w0 44 [vP b 0] [own b (.cells #[p, v] e), rowC 5 1 v n (s.map fun b => vU8 b)] H
      (fun r M => r = vS s ∧ M = [own b (.cells #[p, v] e), rowC 5 1 v n (s.map fun b => vU8 b)]) := by
  refine Con.enter Tryd.func44 rfl rfl ?_
  refine SX.sr ?_
  refine SL.asg ⟨rfl, rfl, rfl, rfl⟩ rfl ?_
  refine SL.nx ?_
  refine SX.seq ?_
  refine SX.drawI mix [0, 1] (Pl.of [(true, 0), (true, 1), (true, 2), (true, 3), (true, 5), (true, 6), (true, 7), (true, 8), (true, 9), (false, 4), (false, 10), (true, 11)]) (by kernel_rfl) ?_
  refine SL.mv ⟨rfl, rfl, rfl, rfl⟩ rfl ?_
  refine SL.nchk ⟨rfl, rfl, rfl, rfl⟩ rfl ?_
  refine SL.fa ⟨rfl, rfl, rfl, rfl⟩ rfl fo95_1 ?_
  refine SL.ld ⟨rfl, rfl, rfl, rfl⟩ sc51 rfl (cell_own 0 rfl rfl) ?_
  refine SL.mv ⟨rfl, rfl, rfl, rfl⟩ rfl ?_
  refine SL.nchk ⟨rfl, rfl, rfl, rfl⟩ rfl ?_
  refine SL.fa ⟨rfl, rfl, rfl, rfl⟩ rfl fo95_1 ?_
  refine SL.ld ⟨rfl, rfl, rfl, rfl⟩ sc51 rfl (cell_own 0 rfl rfl) ?_
  refine SL.lenR 1 ⟨rfl, rfl, rfl, rfl⟩ ty51 rfl rfl ?_
  refine SL.usdR 1 ⟨rfl, rfl, rfl, rfl⟩ ty119 rfl rfl ⟨⟨0, rfl⟩, ⟨1, rfl⟩, trivial⟩ fun q hq => ?_
  refine SL.ustR 1 ⟨rfl, rfl, rfl, rfl⟩ ty119 ce5 rfl rfl hq rfl (by omega) ⟨⟨0, rfl⟩, ⟨1, rfl⟩, trivial⟩ ?_
  refine SL.asg ⟨rfl, rfl, rfl, rfl⟩ rfl ?_
  refine SL.nx ?_
  refine SX.ret ?_
  exact SQ.fret (res1 rfl rfl) (ret_of (M := [_, _]) ⟨rfl, rfl⟩ fun _ h => h)
end Go.Proofs.YtddjneafgddlcaaDoor

/- Walks of strings.Repeat at the text of one zero byte, and of what it calls. Condition: at most 8192 times. -/
namespace Go.Proofs.YtddjneafgddlcaaDoor
open Go
variable {K : Nat → Prop} {w0 : World} {H : List Chunk}

theorem shr64_small {y : UInt64} (h : y.toNat < 4294967296) : shr64 y 32 = 0 := by
  apply UInt64.toNat_inj.1
  have h1 : y.toNat / 4294967296 = 0 := Nat.div_eq_of_lt h
  simp [shr64, h1]
theorem big63 (n : Nat) (h : n < 9223372036854775808) : decide ((9223372036854775807 : UInt64) < toU64 n) = false := by
  rw [decide_eq_false_iff_not, UInt64.lt_iff_toNat_lt]
  have h1 : (9223372036854775807 : UInt64).toNat = 9223372036854775807 := by decide
  have h2 : (toU64 n).toNat = n := by simp only [toU64, UInt64.toNat_ofNat']; omega
  omega
theorem and64_small {y : UInt64} (h : y.toNat < 4294967296) : y &&& 4294967295 = y := by
  apply UInt64.toNat_inj.1
  rw [UInt64.toNat_and]
  exact Nat.and_two_pow_sub_one_of_lt_two_pow (n := 32) h
theorem c_Mul64 (y : UInt64) (hy : y.toNat < 4294967296) : Con Tryd.prog K w0 55 [vU64 1, vU64 y] [] H (fun r M => r = .tuple #[vU64 0, vU64 y] ∧ M = []) := by
  refine Con.enter Tryd.func55 rfl rfl ?_
  refine SX.sr ?_
  refine SL.asg ⟨rfl, rfl, rfl, rfl⟩ rfl ?_
  refine SL.asg ⟨rfl, rfl, rfl, rfl⟩ rfl ?_
  refine SL.nx ?_
  refine SX.sr ?_
  refine SL.mv ⟨rfl, rfl, rfl, rfl⟩ rfl ?_
  refine SL.bin ⟨rfl, rfl, rfl, rfl⟩ rfl rfl (Bin.and64 (b := 4294967295)) ?_
  refine SL.asg ⟨rfl, rfl, rfl, rfl⟩ rfl ?_
  refine SL.nx ?_
  refine SX.sr ?_
  refine SL.mv ⟨rfl, rfl, rfl, rfl⟩ rfl ?_
  refine SL.bin ⟨rfl, rfl, rfl, rfl⟩ rfl rfl (Bin.shr64 (n := 32)) ?_
  refine SL.asg ⟨rfl, rfl, rfl, rfl⟩ rfl ?_
  refine SL.nx ?_
  refine SX.sr ?_
  refine SL.mv ⟨rfl, rfl, rfl, rfl⟩ rfl ?_
  refine SL.bin ⟨rfl, rfl, rfl, rfl⟩ rfl rfl (Bin.and64 (b := 4294967295)) ?_
  refine SL.asg ⟨rfl, rfl, rfl, rfl⟩ rfl ?_
  refine SL.nx ?_
  refine SX.sr ?_
  refine SL.mv ⟨rfl, rfl, rfl, rfl⟩ rfl ?_
  refine SL.bin ⟨rfl, rfl, rfl, rfl⟩ rfl rfl (Bin.shr64 (n := 32)) ?_
  refine SL.asg ⟨rfl, rfl, rfl, rfl⟩ rfl ?_
  refine SL.nx ?_
  refine SX.sr ?_
  refine SL.mv ⟨rfl, rfl, rfl, rfl⟩ rfl ?_
  refine SL.mv ⟨rfl, rfl, rfl, rfl⟩ rfl ?_
  refine SL.bin ⟨rfl, rfl, rfl, rfl⟩ rfl rfl Bin.mul64 ?_
  refine SL.asg ⟨rfl, rfl, rfl, rfl⟩ rfl ?_
  refine SL.nx ?_
  refine SX.sr ?_
  refine SL.mv ⟨rfl, rfl, rfl, rfl⟩ rfl ?_
  refine SL.mv ⟨rfl, rfl, rfl, rfl⟩ rfl ?_
  refine SL.bin ⟨rfl, rfl, rfl, rfl⟩ rfl rfl Bin.mul64 ?_
  refine SL.mv ⟨rfl, rfl, rfl, rfl⟩ rfl ?_
  refine SL.bin ⟨rfl, rfl, rfl, rfl⟩ rfl rfl (Bin.shr64 (n := 32)) ?_
  refine SL.bin ⟨rfl, rfl, rfl, rfl⟩ rfl rfl Bin.add64 ?_
  refine SL.asg ⟨rfl, rfl, rfl, rfl⟩ rfl ?_
  refine SL.nx ?_
  refine SX.sr ?_
  refine SL.mv ⟨rfl, rfl, rfl, rfl⟩ rfl ?_
  refine SL.bin ⟨rfl, rfl, rfl, rfl⟩ rfl rfl (Bin.and64 (b := 4294967295)) ?_
  refine SL.asg ⟨rfl, rfl, rfl, rfl⟩ rfl ?_
  refine SL.nx ?_
  refine SX.sr ?_
  refine SL.mv ⟨rfl, rfl, rfl, rfl⟩ rfl ?_
  refine SL.bin ⟨rfl, rfl, rfl, rfl⟩ rfl rfl (Bin.shr64 (n := 32)) ?_
  refine SL.asg ⟨rfl, rfl, rfl, rfl⟩ rfl ?_
  refine SL.nx ?_
  refine SX.sr ?_
  refine SL.mv ⟨rfl, rfl, rfl, rfl⟩ rfl ?_
  refine SL.mv ⟨rfl, rfl, rfl, rfl⟩ rfl ?_
  refine SL.mv ⟨rfl, rfl, rfl, rfl⟩ rfl ?_
  refine SL.bin ⟨rfl, rfl, rfl, rfl⟩ rfl rfl Bin.mul64 ?_
  refine SL.bin ⟨rfl, rfl, rfl, rfl⟩ rfl rfl Bin.add64 ?_
  refine SL.asg ⟨rfl, rfl, rfl, rfl⟩ rfl ?_
  refine SL.nx ?_
  refine SX.sr ?_
  refine SL.mv ⟨rfl, rfl, rfl, rfl⟩ rfl ?_
  refine SL.mv ⟨rfl, rfl, rfl, rfl⟩ rfl ?_
  refine SL.bin ⟨rfl, rfl, rfl, rfl⟩ rfl rfl Bin.mul64 ?_
  refine SL.mv ⟨rfl, rfl, rfl, rfl⟩ rfl ?_
  refine SL.bin ⟨rfl, rfl, rfl, rfl⟩ rfl rfl Bin.add64 ?_
  refine SL.mv ⟨rfl, rfl, rfl, rfl⟩ rfl ?_
  refine SL.bin ⟨rfl, rfl, rfl, rfl⟩ rfl rfl (Bin.shr64 (n := 32)) ?_
  refine SL.bin ⟨rfl, rfl, rfl, rfl⟩ rfl rfl Bin.add64 ?_
  refine SL.asg ⟨rfl, rfl, rfl, rfl⟩ rfl ?_
  refine SL.nx ?_
  refine SX.sr ?_
  refine SL.mv ⟨rfl, rfl, rfl, rfl⟩ rfl ?_
  refine SL.mv ⟨rfl, rfl, rfl, rfl⟩ rfl ?_
  refine SL.bin ⟨rfl, rfl, rfl, rfl⟩ rfl rfl Bin.mul64 ?_
  refine SL.asg ⟨rfl, rfl, rfl, rfl⟩ rfl ?_
  refine SL.nx ?_
  refine SX.ret ?_
  have h1 : shr64 y 32 = 0 := shr64_small hy
  have h2 : y &&& 4294967295 = y := and64_small hy
  have h3 : shr64 (1 : UInt64) 32 = 0 := by decide
  have h4 : (1 : UInt64) &&& 4294967295 = 1 := by decide
  have h5 : shr64 (0 : UInt64) 32 = 0 := by decide
  have h6 : (0 : UInt64) &&& 4294967295 = 0 := by decide
  refine SQ.fret (res2 rfl rfl rfl) (ret_of (M := []) ⟨?_, rfl⟩ fun _ h => h.skip [])
  simp [h1, h2, h3, h4, h5, h6]

theorem c_Mul (y : UInt64) (hy : y.toNat < 4294967296) : Con Tryd.prog K w0 39 [vU64 1, vU64 y] [] H (fun r M => r = .tuple #[vU64 0, vU64 y] ∧ M = []) := by
  refine Con.enter Tryd.func39 rfl rfl ?_
  refine SX.sr ?_
  refine SL.asg ⟨rfl, rfl, rfl, rfl⟩ rfl ?_
  refine SL.asg ⟨rfl, rfl, rfl, rfl⟩ rfl ?_
  refine SL.nx ?_
  refine SX.seq ?_
  refine SX.cond rfl (fun hc1 => absurd hc1 (by decide)) (fun hc1 => ?_)
  refine SX.skip ?_
  refine SQ.thn ?_
  refine SX.sr ?_
  refine SL.mv ⟨rfl, rfl, rfl, rfl⟩ rfl ?_
  refine SL.mv ⟨rfl, rfl, rfl, rfl⟩ rfl ?_
  refine SL.call (vs := [_, _]) (Hin := []) ⟨rfl, rfl, rfl, rfl⟩ rfl ⟨rfl, rfl, trivial⟩ cal55 rfl rfl (c_Mul64 y hy) ?_
  rintro _ _ ⟨rfl, rfl⟩
  refine ⟨trivial, ?_⟩
  refine SL.mv ⟨rfl, rfl, rfl, rfl⟩ rfl ?_
  refine SL.ext ⟨rfl, rfl, rfl, rfl⟩ rfl rfl ?_
  refine SL.ext ⟨rfl, rfl, rfl, rfl⟩ rfl rfl ?_
  refine SL.asg ⟨rfl, rfl, rfl, rfl⟩ rfl ?_
  refine SL.asg ⟨rfl, rfl, rfl, rfl⟩ rfl ?_
  refine SL.nx ?_
  refine SX.sr ?_
  refine SL.mv ⟨rfl, rfl, rfl, rfl⟩ rfl ?_
  refine SL.mv ⟨rfl, rfl, rfl, rfl⟩ rfl ?_
  refine SL.asg ⟨rfl, rfl, rfl, rfl⟩ rfl ?_
  refine SL.asg ⟨rfl, rfl, rfl, rfl⟩ rfl ?_
  refine SL.nx ?_
  refine SX.ret ?_
  exact SQ.fret (res2 rfl rfl rfl) (ret_of (M := []) ⟨rfl, rfl⟩ fun _ h => h.skip [])

theorem c_grow0 (b n : Nat) (hn : n ≤ 281474976710656) : Con Tryd.prog K w0 58 [vP b 0, vI n] [own b (.cells #[vP b 0, .slice none 0 0] 95)] H (fun r M => r = .tuple #[] ∧ ∃ v, M = [own b (.cells #[vP b 0, v] 95), rowC 5 1 v 0 []]) := by
  refine Con.enter Tryd.func58 rfl rfl ?_
  refine SX.seq ?_
  refine SX.drawI mix [0] (Pl.of [(true, 0), (true, 1), (true, 2), (true, 3), (true, 4), (true, 5), (true, 6), (true, 7), (true, 9), (true, 10), (true, 11), (true, 12), (true, 13), (false, 8), (true, 14), (true, 15)]) (by kernel_rfl) ?_
  refine SL.mv ⟨rfl, rfl, rfl, rfl⟩ rfl ?_
  refine SL.nchk ⟨rfl, rfl, rfl, rfl⟩ rfl ?_
  refine SL.fa ⟨rfl, rfl, rfl, rfl⟩ rfl fo95_1 ?_
  refine SL.ld ⟨rfl, rfl, rfl, rfl⟩ sc51 rfl (cell_own 0 rfl rfl) ?_
  refine SL.capL ⟨rfl, rfl, rfl, rfl⟩ ty51 rfl ?_
  refine SL.bin ⟨rfl, rfl, rfl, rfl⟩ rfl rfl (Bin.mulI (by omega) (by omega)) ?_
  refine SL.mv ⟨rfl, rfl, rfl, rfl⟩ rfl ?_
  refine SL.bin ⟨rfl, rfl, rfl, rfl⟩ rfl rfl (Bin.addI (by omega) (by omega)) ?_
  refine SL.mv ⟨rfl, rfl, rfl, rfl⟩ rfl ?_
  refine SL.nchk ⟨rfl, rfl, rfl, rfl⟩ rfl ?_
  refine SL.fa ⟨rfl, rfl, rfl, rfl⟩ rfl fo95_1 ?_
  refine SL.ld ⟨rfl, rfl, rfl, rfl⟩ sc51 rfl (cell_own 0 rfl rfl) ?_
  refine SL.lenL ⟨rfl, rfl, rfl, rfl⟩ ty51 rfl ?_
  refine SL.mnz (n := n) (fn := Tryd.f74) ⟨rfl, rfl, rfl, rfl⟩ rfl (by omega) hn ty51 (fun w r w' hr => by rw [run_callFunc_extern (e := Extern.BytealgMakeNoZero.makeNoZero #[3] #[51]) Tryd.func74 (by kernel_rfl) (by kernel_rfl) (by kernel_rfl) (by kernel_rfl)]; rw [show (Extern.BytealgMakeNoZero.makeNoZero #[3] #[51] #[vI n]).run Tryd.prog w = .ok r w' from hr]; rfl) (fun _ _ => ⟨⟨1, rfl⟩, trivial⟩) fun b1 cs hcs hcm => ?_
  refine SL.slHR 0 ⟨rfl, rfl, rfl, rfl⟩ ty51 sz5 rfl rfl rfl (by omega) ?_
  refine SL.asg ⟨rfl, rfl, rfl, rfl⟩ rfl ?_
  refine SL.nx ?_
  refine SX.sr ?_
  refine SL.mv ⟨rfl, rfl, rfl, rfl⟩ rfl ?_
  refine SL.mv ⟨rfl, rfl, rfl, rfl⟩ rfl ?_
  refine SL.nchk ⟨rfl, rfl, rfl, rfl⟩ rfl ?_
  refine SL.fa ⟨rfl, rfl, rfl, rfl⟩ rfl fo95_1 ?_
  refine SL.ld ⟨rfl, rfl, rfl, rfl⟩ sc51 rfl (cell_own 1 rfl rfl) ?_
  refine SL.cpN ⟨rfl, rfl, rfl, rfl⟩ ty51 sz5 rfl rfl ?_
  refine SL.nx ?_
  refine SX.region ?_
  refine SL.mv ⟨rfl, rfl, rfl, rfl⟩ rfl ?_
  refine SL.mv ⟨rfl, rfl, rfl, rfl⟩ rfl ?_
  refine SL.nchk ⟨rfl, rfl, rfl, rfl⟩ rfl ?_
  refine SL.fa ⟨rfl, rfl, rfl, rfl⟩ rfl fo95_1 ?_
  refine SL.st 1 ⟨rfl, rfl, rfl⟩ rfl rfl rfl sz51 rfl rfl rfl trivial ?_
  refine SL.nil ?_
  refine SQ.heap (H' := rowC 5 1 (.slice (some ⟨b1, 0, none⟩) 0 cs.size) 0 [] :: own b (.cells #[vP b 0, .slice (some ⟨b1, 0, none⟩) 0 cs.size] 95) :: H) ?_ fun w hw => HpOk.asRow hw (by simp) (by omega)
  exact SQ.fend (res0 rfl) (ret_of (M := [_, _]) ⟨rfl, _, rfl⟩ fun _ h => h.perm (List.Perm.swap _ _ _))

theorem c_Grow0 (b n : Nat) (p : Value) (hp : adr b p) (h0 : 0 < n) (hn : n ≤ 281474976710656) : Con Tryd.prog K w0 41 [vP b 0, vI n] [own b (.cells #[p, .slice none 0 0] 95)] H (fun r M => r = .tuple #[] ∧ ∃ v, M = [own b (.cells #[vP b 0, v] 95), rowC 5 1 v 0 []]) := by
  refine Con.enter Tryd.func41 rfl rfl ?_
  refine SX.sr ?_
  refine SL.mv ⟨rfl, rfl, rfl, rfl⟩ rfl ?_
  refine SL.call (vs := [_]) (Hin := [_]) ⟨rfl, rfl, rfl, rfl⟩ rfl ⟨rfl, trivial⟩ cal57 rfl rfl (c_copyCheck 95 b p (.slice none 0 0) hp li95) ?_
  rintro _ _ ⟨rfl, rfl⟩
  refine ⟨trivial, ?_⟩
  refine SL.nx ?_
  refine SX.seq ?_
  refine SX.sr ?_
  refine SL.mv ⟨rfl, rfl, rfl, rfl⟩ rfl ?_
  refine SL.bin ⟨rfl, rfl, rfl, rfl⟩ rfl rfl Bin.ltI ?_
  refine SL.nx ?_
  refine SX.cond rfl (fun hc1 => absurd hc1 (by simp)) (fun hc1 => ?_)
  refine SX.skip ?_
  refine SQ.thn ?_
  refine SX.seq ?_
  refine SX.drawI mix [0] (Pl.of [(true, 0), (true, 1), (true, 2), (true, 3), (true, 4), (true, 5), (true, 6), (true, 7), (true, 8), (true, 9), (true, 10), (true, 11), (true, 12)]) (by kernel_rfl) ?_
  refine SL.mv ⟨rfl, rfl, rfl, rfl⟩ rfl ?_
  refine SL.nchk ⟨rfl, rfl, rfl, rfl⟩ rfl ?_
  refine SL.fa ⟨rfl, rfl, rfl, rfl⟩ rfl fo95_1 ?_
  refine SL.ld ⟨rfl, rfl, rfl, rfl⟩ sc51 rfl (cell_own 0 rfl rfl) ?_
  refine SL.capL ⟨rfl, rfl, rfl, rfl⟩ ty51 rfl ?_
  refine SL.mv ⟨rfl, rfl, rfl, rfl⟩ rfl ?_
  refine SL.nchk ⟨rfl, rfl, rfl, rfl⟩ rfl ?_
  refine SL.fa ⟨rfl, rfl, rfl, rfl⟩ rfl fo95_1 ?_
  refine SL.ld ⟨rfl, rfl, rfl, rfl⟩ sc51 rfl (cell_own 0 rfl rfl) ?_
  refine SL.lenL ⟨rfl, rfl, rfl, rfl⟩ ty51 rfl ?_
  refine SL.bin ⟨rfl, rfl, rfl, rfl⟩ rfl rfl (Bin.subI (by omega) (by omega)) ?_
  refine SL.mv ⟨rfl, rfl, rfl, rfl⟩ rfl ?_
  refine SL.bin ⟨rfl, rfl, rfl, rfl⟩ rfl rfl Bin.ltI ?_
  refine SL.nx ?_
  refine SX.cond rfl (fun hc2 => ?_) (fun hc2 => absurd hc2 (by simp; omega))
  refine SX.region ?_
  refine SL.mv ⟨rfl, rfl, rfl, rfl⟩ rfl ?_
  refine SL.mv ⟨rfl, rfl, rfl, rfl⟩ rfl ?_
  refine SL.call (vs := [_, _]) (Hin := [_]) ⟨rfl, rfl, rfl, rfl⟩ rfl ⟨rfl, rfl, trivial⟩ cal58 rfl rfl (c_grow0 b n hn) ?_
  rintro _ _ ⟨rfl, v, rfl⟩
  refine ⟨trivial, ?_⟩
  refine SL.nil ?_
  exact SQ.fend (res0 rfl) (ret_of (M := [_, _]) ⟨rfl, v, rfl⟩ fun _ h => h)

theorem c_Repeat0 (n : Nat) (hn : n ≤ 8192) : Con Tryd.prog K w0 26 [vS [0], vI n] [] H (fun r M => r = vS (List.replicate n 0) ∧ M = []) := by
  refine Con.enter Tryd.func26 rfl rfl ?_
  refine SX.sr ?_
  refine SL.asg ⟨rfl, rfl, rfl, rfl⟩ rfl ?_
  refine SL.nx ?_
  refine SX.seq ?_
  refine SX.sr ?_
  refine SL.mv ⟨rfl, rfl, rfl, rfl⟩ rfl ?_
  refine SL.nx ?_
  refine SX.block ?_
  refine SX.sr ?_
  refine SL.bin ⟨rfl, rfl, rfl, rfl⟩ rfl rfl Bin.eqI ?_
  refine SL.asg ⟨rfl, rfl, rfl, rfl⟩ rfl ?_
  refine SL.nx ?_
  refine SX.cond rfl (fun hc1 => ?_) (fun hc1 => ?_)
  · skip
    refine SX.sr ?_
    refine SL.asg ⟨rfl, rfl, rfl, rfl⟩ rfl ?_
    refine SL.nx ?_
    refine SX.ret ?_
    refine SQ.blkR ?_
    refine SQ.thnR ?_
    exact SQ.fret (res1 rfl rfl) (ret_of (M := []) ⟨by have h0 : n = 0 := (by simpa using hc1); subst h0; rfl, rfl⟩ fun _ h => h.skip [])
  · skip
    have h0 : n ≠ 0 := by intro h; subst h; simp at hc1
    refine SX.sr ?_
    refine SL.bin ⟨rfl, rfl, rfl, rfl⟩ rfl rfl Bin.eqI ?_
    refine SL.asg ⟨rfl, rfl, rfl, rfl⟩ rfl ?_
    refine SL.nx ?_
    refine SX.cond rfl (fun hc2 => ?_) (fun hc2 => ?_)
    · skip
      refine SX.sr ?_
      refine SL.mv ⟨rfl, rfl, rfl, rfl⟩ rfl ?_
      refine SL.asg ⟨rfl, rfl, rfl, rfl⟩ rfl ?_
      refine SL.nx ?_
      refine SX.ret ?_
      refine SQ.blkR ?_
      refine SQ.thnR ?_
      exact SQ.fret (res1 rfl rfl) (ret_of (M := []) ⟨by have h1 : n = 1 := (by simp at hc2; omega); subst h1; rfl, rfl⟩ fun _ h => h.skip [])
    · skip
      refine SX.skip ?_
      refine SQ.blk ?_
      refine SQ.thn ?_
      refine SX.seq ?_
      refine SX.sr ?_
      refine SL.mv ⟨rfl, rfl, rfl, rfl⟩ rfl ?_
      refine SL.bin ⟨rfl, rfl, rfl, rfl⟩ rfl rfl Bin.ltI ?_
      refine SL.nx ?_
      refine SX.cond rfl (fun hc3 => absurd hc3 (by simp)) (fun hc3 => ?_)
      refine SX.skip ?_
      refine SQ.thn ?_
      refine SX.sr ?_
      refine SL.mv ⟨rfl, rfl, rfl, rfl⟩ rfl ?_
      refine SL.lenS ⟨rfl, rfl, rfl, rfl⟩ ty9 rfl ?_
      refine SL.cv ⟨rfl, rfl, rfl, rfl⟩ rfl (Cv.i_64 ty3 ty90) ?_
      refine SL.mv ⟨rfl, rfl, rfl, rfl⟩ rfl ?_
      refine SL.cv ⟨rfl, rfl, rfl, rfl⟩ rfl (Cv.i_64 ty3 ty90) ?_
      refine SL.call (vs := [_, _]) (Hin := []) ⟨rfl, rfl, rfl, rfl⟩ rfl ⟨rfl, rfl, trivial⟩ cal39 rfl rfl (c_Mul (toU64 n) (by simp [toU64]; omega)) ?_
      rintro _ _ ⟨rfl, rfl⟩
      refine ⟨trivial, ?_⟩
      refine SL.mv ⟨rfl, rfl, rfl, rfl⟩ rfl ?_
      refine SL.ext ⟨rfl, rfl, rfl, rfl⟩ rfl rfl ?_
      refine SL.ext ⟨rfl, rfl, rfl, rfl⟩ rfl rfl ?_
      refine SL.asg ⟨rfl, rfl, rfl, rfl⟩ rfl ?_
      refine SL.asg ⟨rfl, rfl, rfl, rfl⟩ rfl ?_
      refine SL.nx ?_
      refine SX.seq ?_
      refine SX.sr ?_
      refine SL.mv ⟨rfl, rfl, rfl, rfl⟩ rfl ?_
      refine SL.bin ⟨rfl, rfl, rfl, rfl⟩ rfl rfl (Bin.gt64 (b := 0)) ?_
      refine SL.mv ⟨rfl, rfl, rfl, rfl⟩ rfl ?_
      refine SL.or (c := false) 31 3 34 rfl (fun hb k => ?_) (fun hb k => ?_) ?_
      · skip
        refine SL.pass rfl rfl rfl ?_
        refine SL.pass rfl rfl rfl ?_
        refine SL.pk ⟨rfl, rfl, rfl, rfl⟩ rfl rfl ?_
        exact k.mono (by repeat' (first | exact trivial | refine And.intro rfl ?_))
      · skip
        refine SL.mv ⟨rfl, rfl, rfl, rfl⟩ rfl ?_
        refine SL.bin ⟨rfl, rfl, rfl, rfl⟩ rfl rfl (Bin.gt64 (b := 9223372036854775807)) ?_
        rw [big63 n (by omega)]
        refine SL.pk ⟨rfl, rfl, rfl, rfl⟩ rfl rfl ?_
        exact k.mono (by repeat' (first | exact trivial | refine And.intro rfl ?_))
      refine SL.nx ?_
      refine SX.cond rfl (fun hc4 => absurd hc4 (by decide)) (fun hc4 => ?_)
      refine SX.skip ?_
      refine SQ.thn ?_
      refine SX.sr ?_
      refine SL.mv ⟨rfl, rfl, rfl, rfl⟩ rfl ?_
      have hto : ((toU64 n).toNat : Int) = n := by simp only [toU64, UInt64.toNat_ofNat']; omega
      refine SL.cv ⟨rfl, rfl, rfl, rfl⟩ rfl (Cv.i_I (n := ((toU64 n).toNat : Int)) ty90 ty3 (by omega) (by omega)) ?_
      rw [hto]
      refine SL.asg ⟨rfl, rfl, rfl, rfl⟩ rfl ?_
      refine SL.nx ?_
      refine SX.seq ?_
      refine SX.sr ?_
      refine SL.mv ⟨rfl, rfl, rfl, rfl⟩ rfl ?_
      refine SL.lenS ⟨rfl, rfl, rfl, rfl⟩ ty9 rfl ?_
      refine SL.bin ⟨rfl, rfl, rfl, rfl⟩ rfl rfl Bin.eqI ?_
      refine SL.nx ?_
      refine SX.cond rfl (fun hc5 => absurd hc5 (by decide)) (fun hc5 => ?_)
      refine SX.skip ?_
      refine SQ.thn ?_
      refine SX.seq ?_
      refine SX.sr ?_
      refine SL.mv ⟨rfl, rfl, rfl, rfl⟩ rfl ?_
      refine SL.ixS 0 ⟨rfl, rfl, rfl, rfl⟩ ty9 rfl rfl (by decide) (by decide) ?_
      refine SL.nx ?_
      refine SX.block ?_
      refine SX.seq ?_
      refine SX.sr ?_
      refine SL.bin ⟨rfl, rfl, rfl, rfl⟩ rfl rfl (Bin.eq8 (b := 32)) ?_
      refine SL.asg ⟨rfl, rfl, rfl, rfl⟩ rfl ?_
      refine SL.nx ?_
      refine SX.cond rfl (fun hc6 => absurd hc6 (by decide)) (fun hc6 => ?_)
      refine SX.sr ?_
      refine SL.bin ⟨rfl, rfl, rfl, rfl⟩ rfl rfl (Bin.eq8 (b := 45)) ?_
      refine SL.asg ⟨rfl, rfl, rfl, rfl⟩ rfl ?_
      refine SL.nx ?_
      refine SX.cond rfl (fun hc7 => absurd hc7 (by decide)) (fun hc7 => ?_)
      refine SX.sr ?_
      refine SL.bin ⟨rfl, rfl, rfl, rfl⟩ rfl rfl (Bin.eq8 (b := 48)) ?_
      refine SL.asg ⟨rfl, rfl, rfl, rfl⟩ rfl ?_
      refine SL.nx ?_
      refine SX.cond rfl (fun hc8 => absurd hc8 (by decide)) (fun hc8 => ?_)
      refine SX.sr ?_
      refine SL.bin ⟨rfl, rfl, rfl, rfl⟩ rfl rfl (Bin.eq8 (b := 61)) ?_
      refine SL.asg ⟨rfl, rfl, rfl, rfl⟩ rfl ?_
      refine SL.nx ?_
      refine SX.cond rfl (fun hc9 => absurd hc9 (by decide)) (fun hc9 => ?_)
      refine SX.region ?_
      refine SL.bin ⟨rfl, rfl, rfl, rfl⟩ rfl rfl (Bin.eq8 (b := 9)) ?_
      refine SL.asg ⟨rfl, rfl, rfl, rfl⟩ rfl ?_
      refine SL.nx ?_
      refine SX.cond rfl (fun hc10 => absurd hc10 (by decide)) (fun hc10 => ?_)
      refine SX.skip ?_
      refine SQ.blk ?_
      refine SQ.thn ?_
      refine SX.sr ?_
      refine SL.mv ⟨rfl, rfl, rfl, rfl⟩ rfl ?_
      refine SL.asg ⟨rfl, rfl, rfl, rfl⟩ rfl ?_
      refine SL.nx ?_
      refine SX.seq ?_
      refine SX.sr ?_
      refine SL.mv ⟨rfl, rfl, rfl, rfl⟩ rfl ?_
      refine SL.bin ⟨rfl, rfl, rfl, rfl⟩ rfl rfl Bin.gtI ?_
      refine SL.nx ?_
      refine SX.cond rfl (fun hc11 => absurd hc11 (by simp; omega)) (fun hc11 => ?_)
      refine SX.skip ?_
      refine SQ.thn ?_
      refine SX.sr ?_
      refine SL.alloc ⟨rfl, rfl, rfl, rfl⟩ ze95 (fun _ => trivial) fun b0 => ?_
      refine SL.nx ?_
      refine SX.sr ?_
      refine SL.mv ⟨rfl, rfl, rfl, rfl⟩ rfl ?_
      refine SL.call (vs := [_, _]) (Hin := [_]) ⟨rfl, rfl, rfl, rfl⟩ rfl ⟨rfl, rfl, trivial⟩ cal41 rfl rfl (c_Grow0 b0 n _ (.inl rfl) (by omega) (by omega)) ?_
      rintro _ _ ⟨rfl, v1, rfl⟩
      refine ⟨trivial, ?_⟩
      refine SL.nx ?_
      refine SX.sr ?_
      refine SL.mv ⟨rfl, rfl, rfl, rfl⟩ rfl ?_
      refine SL.call (vs := [_, _]) (Hin := [_, _]) ⟨rfl, rfl, rfl, rfl⟩ rfl ⟨rfl, rfl, trivial⟩ cal42 rfl rfl (c_WriteString 95 b0 _ v1 0 [] [0] (.inr rfl) li95 (by simp)) ?_
      rintro _ _ ⟨rfl, v2, rfl⟩
      refine ⟨trivial, ?_⟩
      refine SL.nx ?_
      refine SX.seq ?_
      refine SX.block ?_
      refine SX.mono (SX.loop (α := Nat × Value) (fun x => 1 ≤ x.1 ∧ x.1 ≤ n) (fun x => [(0, vS [0]), (7, vI n), (8, vI n), (9, vP b0 0)]) (fun x => own b0 (.cells #[vP b0 0, x.2] 95) :: rowC 5 1 x.2 x.1 ((List.replicate x.1 0).map fun b => vU8 b) :: H) (fun x => n - x.1) (fun x D hp => ?_) (1, v2) ⟨Nat.le_refl _, by simp only; omega⟩) (by repeat' (first | exact trivial | refine And.intro rfl ?_))
      obtain ⟨m, v⟩ := x
      obtain ⟨h1, h2⟩ := hp
      simp only at h1 h2
      refine SX.seq ?_
      refine SX.sr ?_
      refine SL.call (vs := [_]) (Hin := [_, _]) ⟨rfl, rfl, rfl, rfl⟩ rfl ⟨rfl, trivial⟩ cal43 rfl rfl (c_Len 95 b0 (vP b0 0) v m _) ?_
      rintro _ _ ⟨rfl, rfl⟩
      refine ⟨trivial, ?_⟩
      refine SL.mv ⟨rfl, rfl, rfl, rfl⟩ rfl ?_
      refine SL.bin ⟨rfl, rfl, rfl, rfl⟩ rfl rfl Bin.ltI ?_
      refine SL.nx ?_
      refine SX.cond rfl (fun hc12 => ?_) (fun hc12 => ?_)
      · skip
        refine SX.skip ?_
        refine SQ.thn ?_
        refine SX.block ?_
        refine SX.sr ?_
        refine SL.mv ⟨rfl, rfl, rfl, rfl⟩ rfl ?_
        refine SL.call (vs := [_]) (Hin := [_, _]) ⟨rfl, rfl, rfl, rfl⟩ rfl ⟨rfl, trivial⟩ cal43 rfl rfl (c_Len 95 b0 (vP b0 0) v m _) ?_
        rintro _ _ ⟨rfl, rfl⟩
        refine ⟨trivial, ?_⟩
        refine SL.bin ⟨rfl, rfl, rfl, rfl⟩ rfl rfl (Bin.subI (by omega) (by omega)) ?_
        refine SL.call (vs := [_]) (Hin := [_, _]) ⟨rfl, rfl, rfl, rfl⟩ rfl ⟨rfl, trivial⟩ cal43 rfl rfl (c_Len 95 b0 (vP b0 0) v m _) ?_
        rintro _ _ ⟨rfl, rfl⟩
        refine ⟨trivial, ?_⟩
        refine SL.mv ⟨rfl, rfl, rfl, rfl⟩ rfl ?_
        refine SL.minI3 ⟨rfl, rfl, rfl, rfl⟩ rfl rfl rfl ?_
        refine SL.asg ⟨rfl, rfl, rfl, rfl⟩ rfl ?_
        refine SL.nx ?_
        refine SX.region ?_
        refine SL.call (vs := [_]) (Hin := [_, _]) ⟨rfl, rfl, rfl, rfl⟩ rfl ⟨rfl, trivial⟩ cal44 rfl rfl (c_String 95 b0 (vP b0 0) v m (List.replicate m 0) (by omega)) ?_
        rintro _ _ ⟨rfl, rfl⟩
        refine ⟨trivial, ?_⟩
        refine SL.mv ⟨rfl, rfl, rfl, rfl⟩ rfl ?_
        refine SL.slSh (min (n - m) m) ⟨rfl, rfl, rfl, rfl⟩ ty9 rfl rfl (by omega) (by simp; omega) ?_
        refine SL.call (vs := [_, _]) (Hin := [_, _]) ⟨rfl, rfl, rfl, rfl⟩ rfl ⟨rfl, rfl, trivial⟩ cal42 rfl rfl (c_WriteString 95 b0 _ v m _ ((List.replicate m 0).take (min (n - m) m)) (.inr rfl) li95 (by simp; omega)) ?_
        rintro _ _ ⟨rfl, v', rfl⟩
        refine ⟨trivial, ?_⟩
        refine SL.nil ?_
        refine SQ.blk ?_
        exact SQ.again (m + min (n - m) m, v') ⟨by simp only; omega, by simp only; omega⟩ (by simp at hc12; simp only; omega) ⟨rfl, rfl, rfl, rfl, trivial⟩ (fun w h => by
          have e : (List.replicate m 0).map (fun b => vU8 b) ++ ((List.replicate m 0).take (min (n - m) m)).map (fun b => vU8 b) = (List.replicate (m + min (n - m) m) 0).map fun b => vU8 b := by
            rw [← List.map_append, List.take_replicate, List.replicate_append_replicate]; congr 2; omega
          have e2 : ((List.replicate m (0 : UInt8)).take (min (n - m) m)).length = min (n - m) m := by simp
          rw [e, e2] at h
          exact h)
      · skip
        refine SX.exit ?_
        refine SQ.thnE ?_
        refine SQ.lpE ?_
        refine SQ.blkE ?_
        refine SQ.thn ?_
        refine SX.sr ?_
        refine SL.call (vs := [_]) (Hin := [_, _]) ⟨rfl, rfl, rfl, rfl⟩ rfl ⟨rfl, trivial⟩ cal44 rfl rfl (c_String 95 b0 (vP b0 0) v m (List.replicate m 0) (by omega)) ?_
        rintro _ _ ⟨rfl, rfl⟩
        refine ⟨trivial, ?_⟩
        refine SL.asg ⟨rfl, rfl, rfl, rfl⟩ rfl ?_
        refine SL.nx ?_
        refine SX.ret ?_
        exact SQ.fret (res1 rfl rfl) (ret_of (M := []) ⟨by have h3 : m = n := (by simp at hc12; omega); subst h3; rfl, rfl⟩ fun _ h => h.skip [_, _])
end Go.Proofs.YtddjneafgddlcaaDoor

/- Walks of SHA-256's sum: of what was taken in, of texts behind each other, of a text. Condition: texts of at most 2^40 bytes together. -/
namespace Go.Proofs.YtddjneafgddlcaaDoor
open Go
variable {K : Nat → Prop} {w0 : World} {H : List Chunk}

theorem be64_step (n : UInt64) (i : Nat) (h : i < 8) : (be64 n).take (i + 1) = (be64 n).take i ++ [(shr64 n (56 - 8 * i)).toUInt8] := by
  have : i = 0 ∨ i = 1 ∨ i = 2 ∨ i = 3 ∨ i = 4 ∨ i = 5 ∨ i = 6 ∨ i = 7 := by omega
  rcases this with rfl | rfl | rfl | rfl | rfl | rfl | rfl | rfl <;> rfl
theorem absorb_rest_len (T : List UInt32) (h : St8) (s : List UInt8) : (absorb T h s).2.length = s.length % 64 := by
  rw [absorb_parts]
  simp
  omega
theorem c_sha_SumOf (T : List UInt32) (h : St8) (rest : List UInt8) (n : Nat) (b : Nat) (e : TypeId) (hT : Tab K w0 2 T) (hTl : T.length = 64) (hr : rest.length = n % 64) (hn : n ≤ 1099511627776) : Con Tryd.prog K w0 88 [vP b 0] [own b (.cells (sumC h rest n) e)] H (fun r M => r = vS ((absorb T h (rest ++ tailA n)).1.list.flatMap beBytes) ∧ M = [own b (.cells (sumC h rest n) e)]) := by
  refine Con.enter Tryd.func88 rfl rfl ?_
  refine SX.sr ?_
  refine SL.asg ⟨rfl, rfl, rfl, rfl⟩ rfl ?_
  refine SL.nx ?_
  refine SX.seq ?_
  refine SX.sr ?_
  refine SL.mv ⟨rfl, rfl, rfl, rfl⟩ rfl ?_
  refine SL.eqPN ⟨rfl, rfl, rfl, rfl⟩ ty158 rfl rfl ?_
  refine SL.nx ?_
  refine SX.cond rfl (fun hc1 => absurd hc1 (by simp)) (fun hc1 => ?_)
  refine SX.skip ?_
  refine SQ.thn ?_
  refine SX.sr ?_
  refine SL.mv ⟨rfl, rfl, rfl, rfl⟩ rfl ?_
  refine SL.nchk ⟨rfl, rfl, rfl, rfl⟩ rfl ?_
  refine SL.ldA (sumC h rest n).toList ⟨rfl, rfl, rfl, rfl⟩ ag164 rfl rfl (cells_own 0 rfl (fun j u hu => by simpa using hu)) ?_
  refine SL.alloc ⟨rfl, rfl, rfl, rfl⟩ ze164 (fun _ => trivial) fun b0 => ?_
  refine SL.stF (c' := sumC h rest n) 0 ⟨rfl, rfl, rfl⟩ rfl rfl rfl sz164 rfl rfl (List.all_eq_true.1 (show (sumC h rest n).toList.all (·.oneCell') = true from rfl)) trivial ?_
  refine SL.nx ?_
  refine SX.sr ?_
  refine SL.mv ⟨rfl, rfl, rfl, rfl⟩ rfl ?_
  refine SL.nchk ⟨rfl, rfl, rfl, rfl⟩ rfl ?_
  refine SL.fa ⟨rfl, rfl, rfl, rfl⟩ rfl fo164_2 ?_
  refine SL.ld ⟨rfl, rfl, rfl, rfl⟩ sc3 rfl (cell_own 1 rfl rfl) ?_
  refine SL.cv ⟨rfl, rfl, rfl, rfl⟩ rfl (Cv.i_64 ty3 ty34) ?_
  refine SL.bin ⟨rfl, rfl, rfl, rfl⟩ rfl rfl (Bin.mul64 (b := 8)) ?_
  refine SL.asg ⟨rfl, rfl, rfl, rfl⟩ rfl ?_
  refine SL.nx ?_
  refine SX.sr ?_
  refine SL.mv ⟨rfl, rfl, rfl, rfl⟩ rfl ?_
  refine SL.nchk ⟨rfl, rfl, rfl, rfl⟩ rfl ?_
  refine SL.fa ⟨rfl, rfl, rfl, rfl⟩ rfl fo164_2 ?_
  refine SL.ld ⟨rfl, rfl, rfl, rfl⟩ sc3 rfl (cell_own 1 rfl rfl) ?_
  refine SL.bin ⟨rfl, rfl, rfl, rfl⟩ rfl rfl (Bin.modI (by omega) (by omega)) ?_
  refine SL.bin ⟨rfl, rfl, rfl, rfl⟩ rfl rfl (Bin.subI (by omega) (by omega)) ?_
  refine SL.bin ⟨rfl, rfl, rfl, rfl⟩ rfl rfl (Bin.modI (by omega) (by omega)) ?_
  refine SL.asg ⟨rfl, rfl, rfl, rfl⟩ rfl ?_
  refine SL.nx ?_
  refine SX.sr ?_
  refine SL.asg ⟨rfl, rfl, rfl, rfl⟩ rfl ?_
  refine SL.nx ?_
  refine SX.seq ?_
  refine SX.sr ?_
  refine SL.asg ⟨rfl, rfl, rfl, rfl⟩ rfl ?_
  refine SL.nx ?_
  refine SX.block ?_
  refine SX.nilRow 5 1 ?_
  refine SX.mono (SX.loop (α := Nat × Value) (fun x => x.1 ≤ 8) (fun x => [(3, vP b0 0), (4, vU64 (toU64 n * 8)), (5, vI (padZ n)), (6, x.2), (7, vI (56 - 8 * (x.1 : Int)))]) (fun x => rowC 5 1 x.2 x.1 (((be64 (toU64 n * 8)).take x.1).map fun b => vU8 b) :: own b0 (.cells (sumC h rest n) 164) :: own b (.cells (sumC h rest n) e) :: H) (fun x => 8 - x.1) (fun x D hp => ?_) (0, .slice none 0 0) (by decide)) ⟨rfl, rfl, ?_, rfl, rfl, trivial⟩
  rotate_left
  · have e1 : ((119 - (n : Int) % 64) % 64) = (padZ n : Int) := by unfold padZ; omega
    rw [← e1]
    rfl
  obtain ⟨i, v⟩ := x
  simp only at hp
  refine SX.seq ?_
  refine SX.sr ?_
  refine SL.mv ⟨rfl, rfl, rfl, rfl⟩ rfl ?_
  refine SL.bin ⟨rfl, rfl, rfl, rfl⟩ rfl rfl Bin.geI ?_
  refine SL.nx ?_
  refine SX.cond rfl (fun hc2 => ?_) (fun hc2 => ?_)
  · skip
    have hi : i < 8 := by simp at hc2; omega
    have e1 : (56 - 8 * (i : Int)) = ((56 - 8 * i : Nat) : Int) := by omega
    refine SX.skip ?_
    refine SQ.thn ?_
    refine SX.seq ?_
    refine SX.block ?_
    refine SX.region ?_
    refine SL.mv ⟨rfl, rfl, rfl, rfl⟩ rfl ?_
    refine SL.mv ⟨rfl, rfl, rfl, rfl⟩ rfl ?_
    refine SL.mv ⟨rfl, rfl, rfl, rfl⟩ rfl ?_
    refine SL.bin ⟨rfl, rfl, rfl, rfl⟩ rfl (congrArg (fun z => some (vI z)) e1) (Bin.shr64 (n := 56 - 8 * i)) ?_
    refine SL.cv ⟨rfl, rfl, rfl, rfl⟩ rfl (Cv.u64_8 ty34 ty5) ?_
    refine SL.bsl [_] ⟨rfl, rfl, rfl, rfl⟩ ty51 sz5 ze5 ⟨rfl, trivial⟩ rfl rfl rfl (by simp [Value.cells]) rfl rfl (fun _ => trivial) fun b1 => ?_
    refine SL.app 1 ⟨rfl, rfl, rfl, rfl⟩ (m := 1) (news := [vU8 (shr64 (toU64 n * 8) (56 - 8 * i)).toUInt8]) ty51 sz5 by5 ze5 rfl (by decide) rfl rfl rfl rfl (cells_all 0 rfl) (by simp [Value.oneCell']) (by omega) (by omega) (fun _ => trivial) fun v' => ?_
    refine SL.asg ⟨rfl, rfl, rfl, rfl⟩ rfl ?_
    refine SL.nil ?_
    refine SQ.blk ?_
    refine SQ.thn ?_
    refine SX.region ?_
    refine SL.mv ⟨rfl, rfl, rfl, rfl⟩ rfl ?_
    refine SL.bin ⟨rfl, rfl, rfl, rfl⟩ rfl rfl (Bin.subI (by omega) (by omega)) ?_
    refine SL.asg ⟨rfl, rfl, rfl, rfl⟩ rfl ?_
    refine SL.nil ?_
    refine SQ.again (i + 1, v') (by simp only; omega) (by simp only; omega) ⟨rfl, rfl, rfl, rfl, ?_, trivial⟩ (fun w hw => by
      simp only
      rw [be64_step _ _ hi, List.map_append]
      exact hw.skip [_])
    have e2 : (56 - 8 * ((i + 1 : Nat) : Int)) = 56 - 8 * (i : Int) - 8 := by omega
    simp only [e2]
    rfl
  · skip
    have hi : i = 8 := by simp at hc2; omega
    subst hi
    refine SX.exit ?_
    refine SQ.thnE ?_
    refine SQ.lpE ?_
    refine SQ.blkE ?_
    refine SQ.thn ?_
    refine SX.seq ?_
    refine SX.drawI mix [0] (Pl.ap [(true, 0), (true, 3), (true, 4), (false, 1), (true, 2), (true, 5)] (.last 6 .nil)) (by kernel_rfl) ?_
    refine SL.mv ⟨rfl, rfl, rfl, rfl⟩ rfl ?_
    refine SL.mv ⟨rfl, rfl, rfl, rfl⟩ rfl ?_
    refine SL.btsR (s := be64 (toU64 n * 8)) 0 ⟨rfl, rfl, rfl, rfl⟩ ty51 ty5 ty9 rfl rfl ?_
    refine SL.call (vs := [_, _]) (Hin := []) ⟨rfl, rfl, rfl, rfl⟩ rfl ⟨rfl, rfl, trivial⟩ cal26 rfl rfl (c_Repeat0 (padZ n) (by unfold padZ; omega)) ?_
    rintro _ _ ⟨rfl, rfl⟩
    refine ⟨⟨⟨0, rfl⟩, trivial⟩, ?_⟩
    refine SL.bin ⟨rfl, rfl, rfl, rfl⟩ rfl rfl (Bin.cat (by simp [padZ]; omega)) ?_
    refine SL.bin ⟨rfl, rfl, rfl, rfl⟩ rfl rfl (Bin.cat (by simp [padZ, be64]; omega)) ?_
    refine SL.last ?_
    refine SL.pick [1] 2 ?_
    refine SL.call (vs := [_, _]) (Hin := [_]) ⟨rfl, rfl, rfl, rfl⟩ rfl ⟨rfl, rfl, trivial⟩ cal87 rfl rfl (c_sha_takes T h rest (tailA n) n b0 164 hT hTl (by omega) (by simp [tailA, padZ, be64]; omega)) ?_
    rintro _ _ ⟨rfl, rfl⟩
    refine ⟨trivial, ?_⟩
    refine SL.nx ?_
    refine SX.sr ?_
    refine SL.fa ⟨rfl, rfl, rfl, rfl⟩ rfl fo164_0 ?_
    refine SL.call (vs := [_]) (Hin := [_]) ⟨rfl, rfl, rfl, rfl⟩ rfl ⟨rfl, trivial⟩ cal96 rfl rfl (c_sha_bytes (absorb T h (rest ++ tailA n)).1 [vS (absorb T h (rest ++ tailA n)).2, vI n] b0 164) ?_
    rintro _ _ ⟨rfl, rfl⟩
    refine ⟨trivial, ?_⟩
    refine SL.asg ⟨rfl, rfl, rfl, rfl⟩ rfl ?_
    refine SL.nx ?_
    refine SX.ret ?_
    exact SQ.fret (res1 rfl rfl) (ret_of (M := [_]) ⟨rfl, rfl⟩ fun _ h => h.skip [_])

theorem c_sha_New (hF : Tab K w0 1 firstA.list) : Con Tryd.prog K w0 86 [] [] H (fun r M => ∃ b, r = vP b 0 ∧ M = [own b (.cells (sumC firstA [] 0) 164)]) := by
  refine Con.enter Tryd.func86 rfl rfl ?_
  refine SX.sr ?_
  refine SL.asg ⟨rfl, rfl, rfl, rfl⟩ rfl ?_
  refine SL.nx ?_
  refine SX.sr ?_
  refine SL.ldA (ad := ⟨1, 0, none⟩) (firstA.list.map vU32) ⟨rfl, rfl, rfl, rfl⟩ ag162 rfl rfl (fun w hw j u hu => by
    rw [Addr.add_mk, Nat.zero_add]
    rw [List.getElem?_map] at hu
    cases hx : firstA.list[j]? with
    | none => rw [hx] at hu; cases hu
    | some x =>
      rw [hx] at hu
      obtain rfl := Option.some.inj hu
      exact cell_base (ad := ⟨1, j, none⟩) hF.keep (hF.cell j x hx) w hw) ?_
  refine SL.bld [_] ⟨rfl, rfl, rfl, rfl⟩ pl164 pk164 ze164 ⟨rfl, trivial⟩ rfl ?_
  refine SL.box ⟨rfl, rfl, rfl, rfl⟩ rfl (fun _ => trivial) fun b0 => ?_
  refine SL.asg ⟨rfl, rfl, rfl, rfl⟩ rfl ?_
  refine SL.nx ?_
  refine SX.ret ?_
  exact SQ.fret (res1 rfl rfl) (ret_of (M := [_]) ⟨b0, rfl, rfl⟩ fun _ h => h)

theorem c_sha_Add (T : List UInt32) (v : Value) (ls : List (List UInt8)) (hT : Tab K w0 2 T) (hTl : T.length = 64) (hF : Tab K w0 1 firstA.list) (hk : SlOf K w0 encS 1 v ls) (hn : ls.flatten.length ≤ 1099511627776) (hl : ls.length ≤ 1099511627776) : Con Tryd.prog K w0 80 [v] [] H (fun r M => r = vS (sumA T ls.flatten) ∧ M = []) := by
  refine Con.enter Tryd.func80 rfl rfl ?_
  refine SX.sr ?_
  refine SL.asg ⟨rfl, rfl, rfl, rfl⟩ rfl ?_
  refine SL.nx ?_
  refine SX.sr ?_
  refine SL.call (vs := []) (Hin := []) ⟨rfl, rfl, rfl, rfl⟩ rfl trivial cal86 rfl rfl (c_sha_New hF) ?_
  rintro _ _ ⟨b0, rfl, rfl⟩
  refine ⟨trivial, ?_⟩
  refine SL.asg ⟨rfl, rfl, rfl, rfl⟩ rfl ?_
  refine SL.nx ?_
  refine SX.seq ?_
  refine SX.sr ?_
  refine SL.mv ⟨rfl, rfl, rfl, rfl⟩ rfl ?_
  refine SL.lenV hk ⟨rfl, rfl, rfl, rfl⟩ ty49 rfl ?_
  refine SL.mv ⟨rfl, rfl, rfl, rfl⟩ rfl ?_
  refine SL.nx ?_
  refine SX.block ?_
  have h0 : absorb T firstA (ls.take 0).flatten = (firstA, []) := absorb_short (by simp)
  refine SX.heap (H' := own b0 (.cells (sumC (absorb T firstA (ls.take 0).flatten).1 (absorb T firstA (ls.take 0).flatten).2 ((ls.take 0).flatten.length : Nat)) 164) :: H) ?_ (fun w hw => by rw [h0]; exact hw)
  refine SX.mono (SX.loop (α := Nat) (fun i => i ≤ ls.length) (fun i => [(3, vP b0 0), (7, v), (8, vI ls.length), (9, vI i)]) (fun i => own b0 (.cells (sumC (absorb T firstA (ls.take i).flatten).1 (absorb T firstA (ls.take i).flatten).2 ((ls.take i).flatten.length : Nat)) 164) :: H) (fun i => ls.length - i) (fun i D hp => ?_) 0 (Nat.zero_le _)) (by repeat' (first | exact trivial | refine And.intro rfl ?_))
  refine SX.sr ?_
  refine SL.bin ⟨rfl, rfl, rfl, rfl⟩ rfl rfl Bin.ltI ?_
  refine SL.nx ?_
  refine SX.seq ?_
  refine SX.cond rfl (fun hc1 => ?_) (fun hc1 => ?_)
  · skip
    have hlt : i < ls.length := by simpa using hc1
    obtain ⟨s, hs⟩ := get_of_lt hlt
    have hts := (take_split hs).2
    have hfl : (ls.take (i + 1)).flatten = (ls.take i).flatten ++ s := by rw [hts]; simp
    have hle : (ls.take (i + 1)).flatten.length ≤ 1099511627776 := by
      have : ls.flatten = (ls.take (i + 1)).flatten ++ (ls.drop (i + 1)).flatten := by rw [← List.flatten_append, List.take_append_drop]
      rw [this] at hn
      simp only [List.length_append] at hn
      omega
    rw [hfl, List.length_append] at hle
    refine SX.skip ?_
    refine SQ.thn ?_
    refine SX.seq ?_
    refine SX.block ?_
    refine SX.sr ?_
    refine SL.iaV i s hk ⟨rfl, rfl, rfl, rfl⟩ ty49 sz9 rfl rfl rfl hs fun be off hcell => ?_
    refine SL.ld ⟨rfl, rfl, rfl, rfl⟩ sc9 rfl (fun w hw => hcell _ w hw 0 _ rfl) ?_
    refine SL.asg ⟨rfl, rfl, rfl, rfl⟩ rfl ?_
    refine SL.nx ?_
    refine SX.sr ?_
    refine SL.mv ⟨rfl, rfl, rfl, rfl⟩ rfl ?_
    refine SL.mv ⟨rfl, rfl, rfl, rfl⟩ rfl ?_
    refine SL.call (vs := [_, _]) (Hin := [_]) ⟨rfl, rfl, rfl, rfl⟩ rfl ⟨rfl, rfl, trivial⟩ cal87 rfl rfl (c_sha_takes T _ _ s _ b0 164 hT hTl (absorb_rest T firstA _) (by omega)) ?_
    rintro _ _ ⟨rfl, rfl⟩
    refine ⟨trivial, ?_⟩
    refine SL.nx ?_
    refine SX.region ?_
    refine SL.mv ⟨rfl, rfl, rfl, rfl⟩ rfl ?_
    refine SL.nchk ⟨rfl, rfl, rfl, rfl⟩ rfl ?_
    refine SL.fa ⟨rfl, rfl, rfl, rfl⟩ rfl fo164_2 ?_
    refine SL.ld ⟨rfl, rfl, rfl, rfl⟩ sc3 rfl (cell_own 0 rfl rfl) ?_
    refine SL.mv ⟨rfl, rfl, rfl, rfl⟩ rfl ?_
    refine SL.lenS ⟨rfl, rfl, rfl, rfl⟩ ty9 rfl ?_
    refine SL.bin ⟨rfl, rfl, rfl, rfl⟩ rfl rfl (Bin.addI (by omega) (by omega)) ?_
    refine SL.nchk ⟨rfl, rfl, rfl, rfl⟩ rfl ?_
    refine SL.fa ⟨rfl, rfl, rfl, rfl⟩ rfl fo164_2 ?_
    refine SL.st 0 ⟨rfl, rfl, rfl⟩ rfl rfl rfl sz3 rfl rfl rfl trivial ?_
    refine SL.nil ?_
    refine SQ.blk ?_
    refine SQ.thn ?_
    refine SX.region ?_
    refine SL.bin ⟨rfl, rfl, rfl, rfl⟩ rfl rfl (Bin.addI (by omega) (by omega)) ?_
    refine SL.mv ⟨rfl, rfl, rfl, rfl⟩ rfl ?_
    refine SL.nil ?_
    refine SQ.again (i + 1) hlt (by omega) (by repeat' (first | exact trivial | refine And.intro rfl ?_)) (fun w hw => by
      rw [hfl, absorb_append T firstA (ls.take i).flatten s, List.length_append]
      exact hw)
  · skip
    have hi : i = ls.length := by simp at hc1; omega
    have ht : ls.take i = ls := by rw [hi]; exact List.take_length
    rw [ht]
    refine SX.exit ?_
    refine SQ.thnE ?_
    refine SQ.lpE ?_
    refine SQ.blkE ?_
    refine SQ.thn ?_
    refine SX.sr ?_
    refine SL.mv ⟨rfl, rfl, rfl, rfl⟩ rfl ?_
    refine SL.call (vs := [_]) (Hin := [_]) ⟨rfl, rfl, rfl, rfl⟩ rfl ⟨rfl, trivial⟩ cal88 rfl rfl (c_sha_SumOf T _ _ ls.flatten.length b0 164 hT hTl (absorb_rest_len T firstA ls.flatten) hn) ?_
    rintro _ _ ⟨rfl, rfl⟩
    refine ⟨trivial, ?_⟩
    refine SL.asg ⟨rfl, rfl, rfl, rfl⟩ rfl ?_
    refine SL.nx ?_
    refine SX.ret ?_
    exact SQ.fret (res1 rfl rfl) (ret_of (M := []) ⟨by unfold sumA; rw [absorb_append T firstA ls.flatten], rfl⟩ fun _ h => h.skip [_])

theorem c_sha_Sum (T : List UInt32) (s : List UInt8) (hT : Tab K w0 2 T) (hTl : T.length = 64) (hF : Tab K w0 1 firstA.list) (hn : s.length ≤ 1099511627776) : Con Tryd.prog K w0 89 [vS s] [] H (fun r M => r = vS (sumA T s) ∧ M = []) := by
  refine Con.enter Tryd.func89 rfl rfl ?_
  refine SX.sr ?_
  refine SL.asg ⟨rfl, rfl, rfl, rfl⟩ rfl ?_
  refine SL.nx ?_
  refine SX.sr ?_
  refine SL.mv ⟨rfl, rfl, rfl, rfl⟩ rfl ?_
  refine SL.bsl [_] ⟨rfl, rfl, rfl, rfl⟩ ty49 sz9 ze9 ⟨rfl, trivial⟩ rfl rfl rfl (by simp [Value.cells]) rfl rfl (fun _ => trivial) fun b0 => ?_
  refine SL.call (vs := [_]) (Hin := [_]) ⟨rfl, rfl, rfl, rfl⟩ rfl ⟨rfl, trivial⟩ cal80 rfl rfl (Con.lend (B := [own b0 (.cells #[vS s] 9)]) (Hin := []) fun K' w1 hk hB => (c_sha_Add T _ [s] (hT.keeps hk) hTl (hF.keeps hk) (SlOf.lent (enc := encS) (sz := 1) (xs := [s]) (fun _ => rfl) (Nat.le_refl 1) rfl (hB _ (List.mem_cons_self ..))) (by simpa using hn) (by simp))) ?_
  rintro _ _ ⟨M', rfl, rfl, rfl⟩
  refine ⟨trivial, ?_⟩
  refine SL.asg ⟨rfl, rfl, rfl, rfl⟩ rfl ?_
  refine SL.nx ?_
  refine SX.ret ?_
  exact SQ.fret (res1 rfl rfl) (ret_of (M := []) ⟨by simp, rfl⟩ fun _ h => h.skip [_])

end Go.Proofs.YtddjneafgddlcaaDoor
