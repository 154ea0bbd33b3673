/- The engine's arrays and a few more operators. Each under its own bounds. -/
import Derived.Test.YtnpnmdbleopikaaDoorS11
namespace Go.Proofs.YtnpnmdbleopikaaDoor
open Go

variable {P : Program} {ro : Option Nat} {K : Nat → Prop} {w0 : World} {N : Nat} {Q : Post} {D : List Nat} {l l' : Tm} {H H' Hs L : List Chunk} {ops : Array Oper} {items : Its}
variable {tk : Bool} {o : Oper} {t : Nat} {v : Value} {x y z : Operand}

theorem SL.negI {a : Int} {ty : TypeId} (ho : At ops N l o t (.unOp .neg ty x)) (hx : evl l x = some (vI a)) (h1 : -9223372036854775807 ≤ a) (h2 : a ≤ 9223372036854775807) (h : SL P ro K w0 N ops Hs items Q D ((t, vI (-a)) :: l) H) : SL P ro K w0 N ops Hs (.cons (tk, o) items) Q D l H :=
  SL.val ho rfl (fun a' w ha _ => by
    have hw : IntKind.i64.wrap (0 - a) = -a := by
      rw [wrap_of (k := .i64) (by show (-9223372036854775808 : Int) ≤ _; omega) (by show _ ≤ (9223372036854775807 : Int); omega)]
      omega
    simp only [execOp, ho.op, ha.eval hx, Op.unary, Op.intArith, hw, Sem.run_bind, Sem.run_pure, Result.andThen_ok]) h
theorem SL.not32 {a : UInt32} {ty : TypeId} (ho : At ops N l o t (.unOp .xor ty x)) (hx : evl l x = some (vU32 a)) (h : SL P ro K w0 N ops Hs items Q D ((t, vU32 (4294967295 ^^^ a)) :: l) H) : SL P ro K w0 N ops Hs (.cons (tk, o) items) Q D l H :=
  SL.val ho rfl (fun a' w ha _ => by
    have h1 := (Bin.xor32 (a := 4294967295) (b := a) P w 0 (.tmp 0) (.tmp 0)).2
    simp only [binOp] at h1
    have hm : (if IntKind.u32.signed = true then (-1 : Int) else IntKind.u32.max) = ((4294967295 : UInt32).toNat : Int) := by decide
    simp only [execOp, ho.op, ha.eval hx, Op.unary, Sem.run_bind, hm]
    simp only [ne_eq, not_true_eq_false, if_false] at h1
    rw [h1]
    rfl) h

/-! ### Arrays of one-cell elements -/
def arr {α : Type} (f : α → Value) (xs : List α) : Array Value := (xs.map f).toArray
theorem arr_get {α : Type} {f : α → Value} {xs : List α} {i : Nat} {a : α} (h : xs[i]? = some a) : (arr f xs)[i]? = some (f a) := by simp [arr, h]
theorem arr_size {α : Type} (f : α → Value) (xs : List α) : (arr f xs).size = xs.length := by simp [arr]
theorem arr_set {α : Type} (f : α → Value) (xs : List α) (i : Nat) (a : α) : setL (arr f xs) i [f a] = arr f (xs.set i a) := by
  simp only [setL, arr]
  apply Array.ext'
  simp [List.map_set]
theorem arr_toList {α : Type} (f : α → Value) (xs : List α) : (arr f xs).toList = xs.map f := by simp [arr]
/-- an element of an array in a register -/
theorem SL.ixA {n i : Nat} {k : IntKind} {j : Int} {ty e : TypeId} {cs : Array Value} (ho : At ops N l o t (.index ty x y)) (hty : P.underlying ty = some (.array n e)) (hs : scl P e = true) (hx : evl l x = some (.agg cs)) (hy : evl l y = some (.int k j))
    (hj : j = (i : Int)) (hlt : i < n) (hc : cs[i]? = some v) (h : SL P ro K w0 N ops Hs items Q D ((t, v) :: l) H) : SL P ro K w0 N ops Hs (.cons (tk, o) items) Q D l H :=
  SL.val ho rfl (fun a w ha _ => by
    subst hj
    obtain ⟨h1, h2⟩ := scl_spec hs w
    have h3 : (isAgg e).run P w = .ok false w := h1
    simp only [execOp, ho.op, Instr.index, Sem.run_bind, ha.eval hx, ha.eval hy, asIntOf, Sem.run_pure, Result.andThen_ok, run_underlying hty]
    have h4 : (0 : Int) ≤ (i : Int) ∧ (i : Int) < (n : Int) := by omega
    simp only [if_pos h4, Sem.run_bind, run_sizeOf h2, Result.andThen_ok, Int.toNat_natCast, Nat.mul_one]
    simp [part, h3, hc]) h
theorem arr_app {α : Type} {f : α → Value} {xs ys : List α} {j : Nat} (d : α) (h : j < xs.length) : (arr f (xs ++ ys))[j]? = some (f (xs.getD j d)) := by
  refine arr_get ?_
  rw [List.getElem?_append_left h, List.getD_eq_getElem?_getD, List.getElem?_eq_getElem h]
  rfl
theorem fill_set {α : Type} (xs : List α) (z x : α) (n i : Nat) (h : xs.length = i) (hn : i < n) : (xs ++ List.replicate (n - i) z).set i x = (xs ++ [x]) ++ List.replicate (n - (i + 1)) z := by
  subst h
  rw [List.set_append_right _ _ (Nat.le_refl _), Nat.sub_self]
  have e : n - xs.length = (n - (xs.length + 1)) + 1 := by omega
  rw [e, List.replicate_succ, List.set_cons_zero, List.append_assoc]
  rfl
/-- an element's address, where the elements have one cell -/
theorem SL.iaAp {b n m : Nat} {k : IntKind} {i : Int} {ty e : TypeId} (ho : At ops N l o t (.indexAddr ty x y)) (hty : P.underlying ty = some (.array m e)) (hsz : tsz P e = some 1) (hx : evl l x = some (vP b 0)) (hy : evl l y = some (.int k i))
    (hi : i = (n : Int)) (hlt : n < m) (h : SL P ro K w0 N ops Hs items Q D ((t, vP b n) :: l) H) : SL P ro K w0 N ops Hs (.cons (tk, o) items) Q D l H :=
  SL.iaA ho hty hsz hx hy hi hlt (by rw [Nat.zero_add, Nat.mul_one]; exact h)
theorem SL.iap {b n len cap : Nat} {k : IntKind} {i : Int} {ty e : TypeId} (ho : At ops N l o t (.indexAddr ty x y)) (hty : P.underlying ty = some (.slice e)) (hsz : tsz P e = some 1) (hx : evl l x = some (.slice (some ⟨b, 0, none⟩) len cap)) (hy : evl l y = some (.int k i))
    (hi : i = (n : Int)) (hlt : n < len) (h : SL P ro K w0 N ops Hs items Q D ((t, vP b n) :: l) H) : SL P ro K w0 N ops Hs (.cons (tk, o) items) Q D l H :=
  SL.ia ho hty hsz hx hy hi hlt (by rw [Nat.zero_add, Nat.mul_one]; exact h)
/-- a store into an array of one-cell elements -/
theorem SL.stA {α : Type} {f : α → Value} {a : α} {xs : List α} {b k : Nat} {e ty : TypeId} (i : Nat) (ho : At0 ops l o (.store ty x y)) (hx : evl l x = some (vP b k)) (hy : evl l y = some (f a)) (hi : H[i]? = some (own b (.cells (arr f xs) e)))
    (hn : tsz P ty = some 1) (hc : (f a).cells = #[f a]) (h1 : (f a).oneCell' = true) (hk : k < xs.length)
    (hs : SubI Hs (H.set i (own b (.cells (arr f (xs.set k a)) e)))) (h : SL P ro K w0 N ops Hs items Q D l (H.set i (own b (.cells (arr f (xs.set k a)) e)))) : SL P ro K w0 N ops Hs (.cons (false, o) items) Q D l H := by
  have e1 : setL (arr f xs) k (f a).cells.toList = arr f (xs.set k a) := by rw [hc]; exact arr_set f xs k a
  refine SL.stP i ho hx hy hi hn (by rw [hc]; rfl) (by rw [hc]; simp [h1]) (by rw [arr_size]; omega) ?_ ?_
  · rw [e1]; exact hs
  · rw [e1]; exact h
theorem setL_full {c : Array Value} {vs : List Value} (h : c.size = vs.length) : setL c 0 vs = vs.toArray := by
  apply Array.ext'
  rw [setL_toList _ _ _ (by omega)]
  have : c.toList.drop (0 + vs.length) = [] := List.drop_eq_nil_of_le (by simp; omega)
  rw [this]
  simp
/-- a store of a whole array or struct -/
theorem SL.stF {b n : Nat} {c c' : Array Value} {e ty : TypeId} (i : Nat) (ho : At0 ops l o (.store ty x y)) (hx : evl l x = some (vP b 0)) (hy : evl l y = some (.agg c')) (hi : H[i]? = some (own b (.cells c e)))
    (hn : tsz P ty = some n) (hv : c'.size = n) (hc : c.size = n) (h1 : ∀ u ∈ c'.toList, u.oneCell' = true)
    (hs : SubI Hs (H.set i (own b (.cells c' e)))) (h : SL P ro K w0 N ops Hs items Q D l (H.set i (own b (.cells c' e)))) : SL P ro K w0 N ops Hs (.cons (false, o) items) Q D l H := by
  have e1 : setL c 0 (Value.agg c').cells.toList = c' := by
    have := setL_full (c := c) (vs := c'.toList) (by simp; omega)
    exact this
  refine SL.stP i ho hx hy hi hn hv (List.all_eq_true.2 h1) (by omega) ?_ ?_
  · rw [e1]; exact hs
  · rw [e1]; exact h
theorem arr_one {α : Type} {f : α → Value} (hf : ∀ a, (f a).oneCell' = true) (xs : List α) : ∀ u ∈ (arr f xs).toList, u.oneCell' = true := by
  intro u hu
  rw [arr_toList] at hu
  obtain ⟨a, _, rfl⟩ := List.mem_map.1 hu
  exact hf a

/-! ### .. with other cells behind them -/
def arrT {α : Type} (f : α → Value) (xs : List α) (tl : List Value) : Array Value := (xs.map f ++ tl).toArray
theorem arrT_app {α : Type} {f : α → Value} {xs : List α} {tl : List Value} {j : Nat} (d : α) (h : j < xs.length) : (arrT f xs tl)[j]? = some (f (xs.getD j d)) := by
  simp only [arrT, List.getElem?_toArray]
  rw [List.getElem?_append_left (by simpa using h), List.getElem?_map, List.getD_eq_getElem?_getD, List.getElem?_eq_getElem h]
  rfl
theorem arrT_set {α : Type} (f : α → Value) (xs : List α) (tl : List Value) (i : Nat) (a : α) (h : i < xs.length) : setL (arrT f xs tl) i [f a] = arrT f (xs.set i a) tl := by
  simp only [setL, arrT]
  apply Array.ext'
  simp only [Array.toList_setIfInBounds]
  rw [List.set_append_left _ _ (by simpa using h), List.map_set]
theorem SL.stT {α : Type} {f : α → Value} {a : α} {xs : List α} {tl : List Value} {b k : Nat} {e ty : TypeId} (i : Nat) (ho : At0 ops l o (.store ty x y)) (hx : evl l x = some (vP b k)) (hy : evl l y = some (f a)) (hi : H[i]? = some (own b (.cells (arrT f xs tl) e)))
    (hn : tsz P ty = some 1) (hc : (f a).cells = #[f a]) (h1 : (f a).oneCell' = true) (hk : k < xs.length)
    (hs : SubI Hs (H.set i (own b (.cells (arrT f (xs.set k a) tl) e)))) (h : SL P ro K w0 N ops Hs items Q D l (H.set i (own b (.cells (arrT f (xs.set k a) tl) e)))) : SL P ro K w0 N ops Hs (.cons (false, o) items) Q D l H := by
  have e1 : setL (arrT f xs tl) k (f a).cells.toList = arrT f (xs.set k a) tl := by rw [hc]; exact arrT_set f xs tl k a hk
  refine SL.stP i ho hx hy hi hn (by rw [hc]; rfl) (by rw [hc]; simp [h1]) (by simp [arrT]; omega) ?_ ?_
  · rw [e1]; exact hs
  · rw [e1]; exact h
/-- a table of the program's, in the memory that is kept -/
structure Tab (K : Nat → Prop) (w0 : World) (g : Nat) (T : List UInt32) : Prop where
  keep : K g
  cell : ∀ i x, T[i]? = some x → w0.cell? ⟨g, i, none⟩ = some (vU32 x)
theorem Tab.keeps {g : Nat} {T : List UInt32} {K' : Nat → Prop} {w1 : World} (h : Tab K w0 g T) (hk : Keeps K w0 K' w1) : Tab K' w1 g T :=
  ⟨(hk g h.keep).1, fun i x hx => by rw [World.cell?_of_block (w := w0) (hk g h.keep).2]; exact h.cell i x hx⟩
theorem Tab.load {g n : Nat} {T : List UInt32} (h : Tab K w0 g T) (hn : n < T.length) : ∀ w, HpS K w0 L w → w.cell? ⟨g, n, none⟩ = some (vU32 (T.getD n 0)) :=
  cell_base (ad := ⟨g, n, none⟩) h.keep (h.cell n _ (by rw [List.getD_eq_getElem?_getD, List.getElem?_eq_getElem hn]; rfl))
/-- an array's literal, all of whose one-cell elements are given -/
theorem SL.bldU {ty e : TypeId} {n : Nat} {parts : Array (Nat × Operand)} {zv : Value} (vs : List Value) (ho : At ops N l o t (.build ty parts)) (hty : P.underlying ty = some (.array n e)) (hsz : tsz P e = some 1) (hz : zer P ty = some zv) (hzs : zv.cells.size = n)
    (hv : evs l (parts.toList.map (·.2)) vs) (hi : parts.toList.map (·.1) = List.range' 0 n) (hlen : vs.length = n) (h1 : ∀ v ∈ vs, v.cells = #[v]) (h : SL P ro K w0 N ops Hs items Q D ((t, .agg vs.toArray) :: l) H) : SL P ro K w0 N ops Hs (.cons (tk, o) items) Q D l H :=
  SL.val ho rfl (fun a w ha _ => by
    have hev := evs.eval ha hv
    have hp : (parts.map fun (i, x) => (i, a.eval x)).toList = (List.range' 0 vs.length).zip vs := by
      rw [Array.toList_map, zip_parts, hev, hi, hlen]
    have hfm : (vs.flatMap fun v => v.cells.toList) = vs := by
      clear hlen hv hev hp h
      induction vs with
      | nil => rfl
      | cons u us ih => rw [List.flatMap_cons, ih (fun v hv => h1 v (List.mem_cons_of_mem _ hv)), h1 u (List.mem_cons_self ..)]; rfl
    have hf := fill_full 1 vs 0 zv.cells (fun v hv => by rw [h1 v hv]; rfl) (by omega)
    rw [hfm, Nat.zero_mul, setL_full (by omega)] at hf
    simp only [execOp, ho.op, Sem.run_bind, Instr.build, run_zero hz, Result.andThen_ok, run_underlying hty, run_sizeOf hsz, hp, hf, Sem.run_pure]) h

/-! ### Signed shifts and unions -/
theorem Bin.shlI {a : Int} {k : IntKind} {n : Nat} (h0 : -9223372036854775808 ≤ a * 2 ^ (min n 64)) (h1 : a * 2 ^ (min n 64) ≤ 9223372036854775807) : Bin .shl (vI a) (.int k (n : Int)) (vI (a * 2 ^ (min n 64))) := fun P w ty x y => ⟨eqGuard_int .., by
  have hn : ¬ ((n : Int) < 0) := by omega
  have h := wrap_of (k := .i64) h0 h1
  simp [binOp, Op.shift, hn, IntKind.bits, h]⟩
theorem Bin.orI {a b : Nat} (ha : a < 9223372036854775808) (hb : b < 9223372036854775808) : Bin .or (vI a) (vI b) (vI (a ||| b : Nat)) := fun P w ty x y => ⟨eqGuard_int .., by
  have e1 : (BitVec.ofInt IntKind.i64.bits ((a : Nat) : Int)).toNat = a := by rw [ofInt_nat]; simp [IntKind.bits]; omega
  have e2 : (BitVec.ofInt IntKind.i64.bits ((b : Nat) : Int)).toNat = b := by rw [ofInt_nat]; simp [IntKind.bits]; omega
  have hlt : a ||| b < 2 ^ 63 := Nat.or_lt_two_pow ha hb
  have h : IntKind.i64.wrap (((BitVec.ofInt IntKind.i64.bits (a : Int) ||| BitVec.ofInt IntKind.i64.bits (b : Int)).toNat : Nat) : Int) = ((a ||| b : Nat) : Int) := by
    rw [BitVec.toNat_or, e1, e2]
    exact wrap_of (k := .i64) (by show (-9223372036854775808 : Int) ≤ _; omega) (by show _ ≤ (9223372036854775807 : Int); omega)
  simp only [binOp, Op.intBits, ne_eq, not_true_eq_false, if_false]
  exact congrArg (fun z => Result.ok (Value.int .i64 z) w) h⟩
/-- an element of an array of arrays (or structs) in a register -/
theorem SL.ixAA {n i sz : Nat} {k : IntKind} {j : Int} {ty e : TypeId} {cs c' : Array Value} (ho : At ops N l o t (.index ty x y)) (hty : P.underlying ty = some (.array n e)) (hs : agz P e = some sz) (hx : evl l x = some (.agg cs)) (hy : evl l y = some (.int k j))
    (hj : j = (i : Int)) (hlt : i < n) (hc : cs.extract (i * sz) (i * sz + sz) = c') (h : SL P ro K w0 N ops Hs items Q D ((t, .agg c') :: l) H) : SL P ro K w0 N ops Hs (.cons (tk, o) items) Q D l H :=
  SL.val ho rfl (fun a w ha _ => by
    subst hj
    obtain ⟨h1, h2⟩ := agz_spec hs w
    have h3 : (isAgg e).run P w = .ok true w := h1
    simp only [execOp, ho.op, Instr.index, Sem.run_bind, ha.eval hx, ha.eval hy, asIntOf, Sem.run_pure, Result.andThen_ok, run_underlying hty]
    have h4 : (0 : Int) ≤ (i : Int) ∧ (i : Int) < (n : Int) := by omega
    simp only [if_pos h4, Sem.run_bind, run_sizeOf h2, Result.andThen_ok, Int.toNat_natCast]
    simp [part, h3, run_sizeOf h2, hc]) h
theorem get_getD {α : Type} {xs : List α} {n : Nat} (d : α) (h : n < xs.length) : xs[n]? = some (xs.getD n d) := by
  rw [List.getD_eq_getElem?_getD, List.getElem?_eq_getElem h]; rfl
/-- a slice of a whole array -/
theorem SL.slA {b n sz : Nat} {ty e : TypeId} (ho : At ops N l o t (.slice ty x none none none)) (hty : P.underlying ty = some (.array n e)) (hsz : tsz P e = some sz) (hx : evl l x = some (vP b 0)) (h0 : n ≠ 0)
    (h : SL P ro K w0 N ops Hs items Q D ((t, .slice (some ⟨b, 0, none⟩) n n) :: l) H) : SL P ro K w0 N ops Hs (.cons (tk, o) items) Q D l H :=
  SL.val ho rfl (fun a w ha _ => by
    simp only [execOp, ho.op, Instr.sliceAt, Option.map]
    simp [ha.eval hx, run_underlying hty, run_sizeOf hsz, Instr.sliceBounds, Instr.sureAddr, Addr.add_mk]) h
/-- a copy of one array of words over another -/
theorem SL.cpA {α : Type} {f : α → Value} {xs ys : List α} {b b' n : Nat} {ty e e' : TypeId} {cc cc' : Nat} (i i' : Nat) (ho : At ops N l o t (.call { callee := .builtin .copy, args := #[x, y], argTypes := #[ty, ty] })) (hty : P.underlying ty = some (.slice e)) (hsz : tsz P e = some 1)
    (hx : evl l x = some (.slice (some ⟨b, 0, none⟩) n cc)) (hy : evl l y = some (.slice (some ⟨b', 0, none⟩) n cc')) (hi : H[i]? = some (own b (.cells (arr f xs) e'))) (hi' : H[i']? = some (own b' (.cells (arr f ys) e'))) (hxs : xs.length = n) (hys : ys.length = n) (h1 : ∀ a, (f a).oneCell' = true)
    (hs : SubI Hs (H.set i (own b (.cells (arr f ys) e')))) (h : SL P ro K w0 N ops Hs items Q D ((t, vI n) :: l) (H.set i (own b (.cells (arr f ys) e')))) : SL P ro K w0 N ops Hs (.cons (false, o) items) Q D l H :=
  SL.step (fun _ : Unit => vI n) (fun _ => H.set i (own b (.cells (arr f ys) e'))) ho rfl (fun a w ha hw => by
    have hg : w.heap[b]? = some (.cells (arr f xs) e' (0, 0)) := hw.holds _ (List.mem_append_left _ (List.mem_of_getElem? hi))
    have hg' : w.heap[b']? = some (.cells (arr f ys) e' (0, 0)) := hw.holds _ (List.mem_append_left _ (List.mem_of_getElem? hi'))
    have hr := run_copy_row (P := P) w ty ty o.type e b 0 n cc ⟨b', 0, none⟩ n cc' (arr f xs) e' (ys.map f) hty hsz hg (by simp [hys]) (fun j v hj => by
      rw [Addr.add_mk]
      simp only [World.cell?, hg', Nat.zero_add, arr]
      simpa using hj) (by simp [arr, hxs, hys]) (fun v hv => by obtain ⟨z, _, rfl⟩ := List.mem_map.1 hv; exact h1 z)
    have hset := hw.putAt (o' := .cells (arr f ys) e') i hi
    have e4 : w.setRow b ((arr f xs).toList.take 0 ++ ys.map f ++ (arr f xs).toList.drop (0 + (ys.map f).length)).toArray = w.putObj b (.cells (arr f ys) e') := by
      have e5 : ((arr f xs).toList.take 0 ++ ys.map f ++ (arr f xs).toList.drop (0 + (ys.map f).length)).toArray = arr f ys := by
        apply Array.ext'
        simp [arr, hxs, hys]
      rw [e5]
      unfold World.setRow World.putObj
      congr 1
      obtain ⟨hlt, hget⟩ := Array.getElem?_eq_some_iff.1 hg
      apply Array.ext_getElem?
      intro k
      rw [Array.getElem?_modify, Array.getElem?_setIfInBounds]
      by_cases hk : b = k
      · subst hk
        simp [hlt, hget]
      · simp [hk]
    rw [e4] at hr
    refine ⟨(), w.putObj b (.cells (arr f ys) e'), ?_, hset⟩
    unfold execOp
    simp only [ho.op, resolve, invoke, builtin, Sem.run_bind, Sem.run_pure, Result.andThen_ok, List.map_toArray, List.map_cons, List.map_nil, ha.eval hx, ha.eval hy, hr]
    simp [goInt, hys]) (fun _ => hs) (fun _ => h)
theorem Con.mono {f : FuncId} {args : List Value} {Hin : List Chunk} {post post' : Value → List Chunk → Prop} (h : Con P K w0 f args Hin H post) (hp : ∀ v M, post v M → post' v M) : Con P K w0 f args Hin H post' := by
  intro w hw
  refine (h w hw).mono ?_
  rintro e w' ⟨v, M, rfl, hq, hw'⟩
  exact ⟨v, M, rfl, hp v M hq, hw'⟩
end Go.Proofs.YtnpnmdbleopikaaDoor
