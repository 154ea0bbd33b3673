/- The engine's operations on memory and texts, in one sentence: conversions, lengths, indexes, slices, addresses, loads, stores, new blocks, calls. Each under its own side conditions. -/
import Derived.Test.YtnpnmdbleopikaaDoorS3
namespace Go.Proofs.YtnpnmdbleopikaaDoor
open Go

/-! ### Facts of types, as closed terms -/
def fo (P : Program) (t : TypeId) (f : Nat) : Option Nat :=
  match P.underlying t with
  | some (.struct fs) => match fs[f]? with
    | some fd => match P.info? fd.type with
      | some i => if i.size = 0 then none else some fd.offset
      | none => none
    | none => none
  | _ => none
def scl (P : Program) (t : TypeId) : Bool :=
  match P.underlying t, P.info? t with
  | some (.struct _), _ => false
  | some (.array _ _), _ => false
  | some _, some i => i.size == 1
  | _, _ => false
def agz (P : Program) (t : TypeId) : Option Nat :=
  match P.underlying t, P.info? t with
  | some (.struct _), some i => some i.size
  | some (.array _ _), some i => some i.size
  | _, _ => none
def tsz (P : Program) (t : TypeId) : Option Nat := (P.info? t).map (·.size)
def zer (P : Program) (t : TypeId) : Option Value := (P.info? t).bind (·.zero)

variable {P : Program} {ro : Option Nat} {K : Nat → Prop} {w0 : World} {N : Nat} {Q : Post} {D : List Nat} {l l' : Tm} {H H' Hs L : List Chunk} {ops : Array Oper} {items : Its}
variable {tk : Bool} {o : Oper} {t : Nat} {v : Value} {x y z : Operand}

theorem run_underlying {ty : TypeId} {d : TypeDesc} (h : P.underlying ty = some d) (w : World) : (underlying ty).run P w = .ok d w := by
  simp [underlying, h]
theorem run_sizeOf {ty : TypeId} {n : Nat} (h : tsz P ty = some n) (w : World) : (sizeOf ty).run P w = .ok n w := by
  unfold tsz at h
  cases hi : P.info? ty with
  | none => simp [hi] at h
  | some i =>
    simp [hi] at h
    simp [sizeOf, typeInfo, hi, h]
theorem run_zero {ty : TypeId} {v : Value} (h : zer P ty = some v) (w : World) : (zeroValue ty).run P w = .ok v w := by
  unfold zer at h
  cases hi : P.info? ty with
  | none => simp [hi] at h
  | some i =>
    simp [hi] at h
    simp [zeroValue, typeInfo, hi, h]
theorem scl_spec {ty : TypeId} (h : scl P ty = true) (w : World) : (isAgg ty).run P w = .ok false w ∧ tsz P ty = some 1 := by
  unfold scl at h
  unfold isAgg tsz
  cases hu : P.underlying ty with
  | none => simp [hu] at h
  | some d =>
    cases hi : P.info? ty with
    | none => cases d <;> simp [hu, hi] at h
    | some i =>
      cases d <;> simp_all [underlying]
theorem agz_spec {ty : TypeId} {n : Nat} (h : agz P ty = some n) (w : World) : (isAgg ty).run P w = .ok true w ∧ tsz P ty = some n := by
  unfold agz at h
  unfold isAgg tsz
  cases hu : P.underlying ty with
  | none => simp [hu] at h
  | some d =>
    cases hi : P.info? ty with
    | none => cases d <;> simp [hu, hi] at h
    | some i =>
      cases d <;> simp_all [underlying]

/-! ### Conversions -/
def toU8 (x : Int) : UInt8 := UInt8.ofNat (x % 256).toNat
def toU32 (x : Int) : UInt32 := UInt32.ofNat (x % 4294967296).toNat
def toU64 (x : Int) : UInt64 := UInt64.ofNat (x % 18446744073709551616).toNat
theorem toU8_wrap (x : Int) : IntKind.u8.wrap x = ((toU8 x).toNat : Int) := by
  rw [wrap_u8]; simp only [toU8, UInt8.toNat_ofNat']; omega
theorem toU32_wrap (x : Int) : IntKind.u32.wrap x = ((toU32 x).toNat : Int) := by
  rw [wrap_u32]; simp only [toU32, UInt32.toNat_ofNat']; omega
theorem toU64_wrap (x : Int) : IntKind.u64.wrap x = ((toU64 x).toNat : Int) := by
  rw [wrap_u64]; simp only [toU64, UInt64.toNat_ofNat']; omega
def Cv (P : Program) (src dst : TypeId) (a v : Value) : Prop := ∀ w : World, (convert src dst a).run P w = .ok v w
theorem SL.cv {src dst : TypeId} {a : Value} (ho : At ops N l o t (.convert src dst x)) (hx : evl l x = some a) (hc : Cv P src dst a v) (h : SL P ro K w0 N ops Hs items Q D ((t, v) :: l) H) :
    SL P ro K w0 N ops Hs (.cons (tk, o) items) Q D l H :=
  SL.val ho rfl (fun a w ha _ => by simp [execOp, ho.op, ha.eval hx, hc w]) h
theorem Cv.int {src dst : TypeId} {d : TypeDesc} {k k' : IntKind} {n m : Int} (hs : P.underlying src = some d) (hd : P.underlying dst = some (.int k)) (h : k.wrap n = m) : Cv P src dst (.int k' n) (.int k m) := fun w => by
  simp only [convert, Sem.run_bind, run_underlying hs, run_underlying hd, Result.andThen_ok]
  cases d <;> simp [Conv.intToInt, h]
section cv
variable {src dst : TypeId} {d : TypeDesc}
theorem Cv.i_8 {n : Int} {k : IntKind} (hs : P.underlying src = some d) (hd : P.underlying dst = some (.int .u8)) : Cv P src dst (.int k n) (vU8 (toU8 n)) := Cv.int hs hd (toU8_wrap n)
theorem Cv.i_32 {n : Int} {k : IntKind} (hs : P.underlying src = some d) (hd : P.underlying dst = some (.int .u32)) : Cv P src dst (.int k n) (vU32 (toU32 n)) := Cv.int hs hd (toU32_wrap n)
theorem Cv.i_64 {n : Int} {k : IntKind} (hs : P.underlying src = some d) (hd : P.underlying dst = some (.int .u64)) : Cv P src dst (.int k n) (vU64 (toU64 n)) := Cv.int hs hd (toU64_wrap n)
theorem Cv.i_I {n : Int} {k : IntKind} (hs : P.underlying src = some d) (hd : P.underlying dst = some (.int .i64)) (h1 : -9223372036854775808 ≤ n) (h2 : n ≤ 9223372036854775807) : Cv P src dst (.int k n) (vI n) := Cv.int hs hd (wrap_of (k := .i64) h1 h2)
theorem Cv.u8_32 {a : UInt8} (hs : P.underlying src = some d) (hd : P.underlying dst = some (.int .u32)) : Cv P src dst (vU8 a) (vU32 a.toUInt32) := Cv.int hs hd (by
  rw [wrap_u32]; have := a.toNat_lt; simp only [UInt8.toNat_toUInt32]; omega)
theorem Cv.u8_64 {a : UInt8} (hs : P.underlying src = some d) (hd : P.underlying dst = some (.int .u64)) : Cv P src dst (vU8 a) (vU64 a.toUInt64) := Cv.int hs hd (by
  rw [wrap_u64]; have := a.toNat_lt; simp only [UInt8.toNat_toUInt64]; omega)
theorem Cv.u8_I {a : UInt8} (hs : P.underlying src = some d) (hd : P.underlying dst = some (.int .i64)) : Cv P src dst (vU8 a) (vI a.toNat) := Cv.int hs hd (wrap_of (k := .i64) (by show (-9223372036854775808 : Int) ≤ _; omega) (by have := a.toNat_lt; show _ ≤ (9223372036854775807 : Int); omega))
theorem Cv.u32_64 {a : UInt32} (hs : P.underlying src = some d) (hd : P.underlying dst = some (.int .u64)) : Cv P src dst (vU32 a) (vU64 a.toUInt64) := Cv.int hs hd (by
  rw [wrap_u64]; have := a.toNat_lt; simp only [UInt32.toNat_toUInt64]; omega)
theorem Cv.u32_8 {a : UInt32} (hs : P.underlying src = some d) (hd : P.underlying dst = some (.int .u8)) : Cv P src dst (vU32 a) (vU8 a.toUInt8) := Cv.int hs hd (by
  rw [wrap_u8]; simp only [UInt32.toNat_toUInt8]; omega)
theorem Cv.u32_I {a : UInt32} (hs : P.underlying src = some d) (hd : P.underlying dst = some (.int .i64)) : Cv P src dst (vU32 a) (vI a.toNat) := Cv.int hs hd (wrap_of (k := .i64) (by show (-9223372036854775808 : Int) ≤ _; omega) (by have := a.toNat_lt; show _ ≤ (9223372036854775807 : Int); omega))
theorem Cv.u64_8 {a : UInt64} (hs : P.underlying src = some d) (hd : P.underlying dst = some (.int .u8)) : Cv P src dst (vU64 a) (vU8 a.toUInt8) := Cv.int hs hd (by
  rw [wrap_u8]; simp only [UInt64.toNat_toUInt8]; omega)
theorem Cv.u64_32 {a : UInt64} (hs : P.underlying src = some d) (hd : P.underlying dst = some (.int .u32)) : Cv P src dst (vU64 a) (vU32 a.toUInt32) := Cv.int hs hd (by
  rw [wrap_u32]; simp only [UInt64.toNat_toUInt32]; omega)
theorem Cv.u32_32 {a : UInt32} (hs : P.underlying src = some d) (hd : P.underlying dst = some (.int .u32)) : Cv P src dst (vU32 a) (vU32 a) := Cv.int hs hd (by
  rw [wrap_u32]; have := a.toNat_lt; omega)
theorem Cv.u64_64 {a : UInt64} (hs : P.underlying src = some d) (hd : P.underlying dst = some (.int .u64)) : Cv P src dst (vU64 a) (vU64 a) := Cv.int hs hd (by
  rw [wrap_u64]; have := a.toNat_lt; omega)
theorem Cv.S_S {s : List UInt8} (hs : P.underlying src = some d) (hd : P.underlying dst = some .string) : Cv P src dst (vS s) (vS s) := fun w => by
  simp only [convert, Sem.run_bind, run_underlying hs, run_underlying hd, Result.andThen_ok]
  cases d <;> simp
end cv

/-! ### Lengths, indexes, slices of texts -/
theorem SL.lenS {s : List UInt8} {ty : TypeId} (ho : At ops N l o t (.call { callee := .builtin .len, args := #[x], argTypes := #[ty] })) (hty : P.underlying ty = some .string) (hx : evl l x = some (vS s))
    (h : SL P ro K w0 N ops Hs items Q D ((t, vI s.length) :: l) H) : SL P ro K w0 N ops Hs (.cons (tk, o) items) Q D l H :=
  SL.val ho rfl (fun a w ha _ => by
    simp only [execOp, ho.op, resolve, invoke, builtin, Builtin.len_]
    simp [ha.eval hx, run_underlying hty, goInt]
    rfl) h
theorem SL.lenL {b : Option Addr} {n c : Nat} {e ty : TypeId} (ho : At ops N l o t (.call { callee := .builtin .len, args := #[x], argTypes := #[ty] })) (hty : P.underlying ty = some (.slice e)) (hx : evl l x = some (.slice b n c))
    (h : SL P ro K w0 N ops Hs items Q D ((t, vI n) :: l) H) : SL P ro K w0 N ops Hs (.cons (tk, o) items) Q D l H :=
  SL.val ho rfl (fun a w ha _ => by
    simp only [execOp, ho.op, resolve, invoke, builtin, Builtin.len_]
    simp [ha.eval hx, run_underlying hty, goInt]) h
theorem SL.lenA {n : Nat} {e ty : TypeId} {u : Value} (ho : At ops N l o t (.call { callee := .builtin .len, args := #[x], argTypes := #[ty] })) (hty : P.underlying ty = some (.array n e)) (hx : evl l x = some u)
    (h : SL P ro K w0 N ops Hs items Q D ((t, vI n) :: l) H) : SL P ro K w0 N ops Hs (.cons (tk, o) items) Q D l H :=
  SL.val ho rfl (fun a w ha _ => by
    simp only [execOp, ho.op, resolve, invoke, builtin, Builtin.len_]
    simp [ha.eval hx, run_underlying hty, goInt]) h
theorem SL.minI {a b : Int} {ty : Array TypeId} (ho : At ops N l o t (.call { callee := .builtin .min, args := #[x, y], argTypes := ty })) (hx : evl l x = some (vI a)) (hy : evl l y = some (vI b))
    (h : SL P ro K w0 N ops Hs items Q D ((t, vI (min a b)) :: l) H) : SL P ro K w0 N ops Hs (.cons (tk, o) items) Q D l H :=
  SL.val ho rfl (fun a' w ha _ => by
    simp only [execOp, ho.op, resolve, invoke, builtin, Builtin.min_]
    simp [ha.eval hx, ha.eval hy, Builtin.min2]
    omega) h
theorem SL.maxI {a b : Int} {ty : Array TypeId} (ho : At ops N l o t (.call { callee := .builtin .max, args := #[x, y], argTypes := ty })) (hx : evl l x = some (vI a)) (hy : evl l y = some (vI b))
    (h : SL P ro K w0 N ops Hs items Q D ((t, vI (max a b)) :: l) H) : SL P ro K w0 N ops Hs (.cons (tk, o) items) Q D l H :=
  SL.val ho rfl (fun a' w ha _ => by
    simp only [execOp, ho.op, resolve, invoke, builtin, Builtin.max_]
    simp [ha.eval hx, ha.eval hy, Builtin.max2]
    omega) h
theorem SL.ixS {s : List UInt8} {ty : TypeId} {k : IntKind} {i : Int} (n : Nat) (ho : At ops N l o t (.index ty x y)) (hty : P.underlying ty = some .string) (hx : evl l x = some (vS s)) (hy : evl l y = some (.int k i))
    (hi : i = (n : Int)) (hlt : n < s.length) (h : SL P ro K w0 N ops Hs items Q D ((t, vU8 (s.getD n 0)) :: l) H) : SL P ro K w0 N ops Hs (.cons (tk, o) items) Q D l H :=
  SL.val ho rfl (fun a w ha _ => by
    subst hi
    have h0 : (ByteArray.mk ⟨s⟩)[n]? = some s[n] := by
      have hs : n < (ByteArray.mk ⟨s⟩).size := hlt
      rw [getElem?_pos (ByteArray.mk ⟨s⟩) n hs]
      rfl
    have h1 : s.getD n 0 = s[n] := by simp [List.getD_eq_getElem?_getD, hlt]
    simp only [execOp, ho.op, Instr.index]
    simp only [ha.eval hx, ha.eval hy, asIntOf, Sem.run_bind, Sem.run_pure, Result.andThen_ok, run_underlying hty, Int.natCast_nonneg, if_true, Int.toNat_natCast, h0, h1]) h
theorem extract_mk (s : List UInt8) (i j : Nat) : (ByteArray.mk ⟨s⟩).extract i j = ⟨⟨(s.drop i).take (j - i)⟩⟩ := by
  apply ByteArray.ext
  apply Array.ext'
  exact Lib.extract_data (ByteArray.mk ⟨s⟩) i j
theorem SL.slS {s : List UInt8} {ty : TypeId} {k k' : IntKind} {i j : Int} (p q : Nat) (ho : At ops N l o t (.slice ty x (some y) (some z) none)) (hty : P.underlying ty = some .string) (hx : evl l x = some (vS s)) (hy : evl l y = some (.int k i)) (hz : evl l z = some (.int k' j))
    (hi : i = (p : Int)) (hj : j = (q : Int)) (h1 : p ≤ q) (h2 : q ≤ s.length) (h : SL P ro K w0 N ops Hs items Q D ((t, vS ((s.drop p).take (q - p))) :: l) H) : SL P ro K w0 N ops Hs (.cons (tk, o) items) Q D l H :=
  SL.val ho rfl (fun a w ha _ => by
    subst hi; subst hj
    have hsz : (ByteArray.mk ⟨s⟩).size = s.length := rfl
    simp only [execOp, ho.op, Instr.sliceAt, Instr.slice, Option.map]
    simp [ha.eval hx, ha.eval hy, ha.eval hz, run_underlying hty, Instr.sliceBounds, Instr.sliceBound, asIntOf, hsz, h1, h2, extract_mk]) h
theorem SL.slSl {s : List UInt8} {ty : TypeId} {k : IntKind} {i : Int} (p : Nat) (ho : At ops N l o t (.slice ty x (some y) none none)) (hty : P.underlying ty = some .string) (hx : evl l x = some (vS s)) (hy : evl l y = some (.int k i))
    (hi : i = (p : Int)) (h1 : p ≤ s.length) (h : SL P ro K w0 N ops Hs items Q D ((t, vS (s.drop p)) :: l) H) : SL P ro K w0 N ops Hs (.cons (tk, o) items) Q D l H :=
  SL.val ho rfl (fun a w ha _ => by
    subst hi
    have hsz : (ByteArray.mk ⟨s⟩).size = s.length := rfl
    have ht : (s.drop p).take (s.length - p) = s.drop p := List.take_of_length_le (by simp)
    simp only [execOp, ho.op, Instr.sliceAt, Instr.slice, Option.map]
    simp [ha.eval hx, ha.eval hy, run_underlying hty, Instr.sliceBounds, Instr.sliceBound, asIntOf, hsz, h1, extract_mk, ht]) h
theorem SL.slSh {s : List UInt8} {ty : TypeId} {k : IntKind} {j : Int} (q : Nat) (ho : At ops N l o t (.slice ty x none (some z) none)) (hty : P.underlying ty = some .string) (hx : evl l x = some (vS s)) (hz : evl l z = some (.int k j))
    (hj : j = (q : Int)) (h2 : q ≤ s.length) (h : SL P ro K w0 N ops Hs items Q D ((t, vS (s.take q)) :: l) H) : SL P ro K w0 N ops Hs (.cons (tk, o) items) Q D l H :=
  SL.val ho rfl (fun a w ha _ => by
    subst hj
    have hsz : (ByteArray.mk ⟨s⟩).size = s.length := rfl
    simp only [execOp, ho.op, Instr.sliceAt, Instr.slice, Option.map]
    simp [ha.eval hx, ha.eval hz, run_underlying hty, Instr.sliceBounds, Instr.sliceBound, asIntOf, hsz, h2, extract_mk]) h

/-! ### Addresses -/
theorem Addr.add_mk (b off d : Nat) : Addr.add ⟨b, off, none⟩ d = ⟨b, off + d, none⟩ := by
  unfold Addr.add; split
  · rename_i h; simp [h]
  · rfl
theorem SL.fa {b off d f : Nat} {ty : TypeId} (ho : At ops N l o t (.fieldAddr ty x f)) (hx : evl l x = some (vP b off)) (hf : fo P ty f = some d) (h : SL P ro K w0 N ops Hs items Q D ((t, vP b (off + d)) :: l) H) :
    SL P ro K w0 N ops Hs (.cons (tk, o) items) Q D l H :=
  SL.val ho rfl (fun a w ha _ => by
    unfold fo at hf
    cases hu : P.underlying ty with
    | none => simp [hu] at hf
    | some ds =>
      cases ds <;> simp only [hu] at hf <;> try cases hf
      rename_i fs
      cases hfd : fs[f]? with
      | none => simp [hfd] at hf
      | some fd =>
        simp only [hfd] at hf
        cases hi : P.info? fd.type with
        | none => simp [hi] at hf
        | some ii =>
          simp only [hi] at hf
          by_cases hz : ii.size = 0
          · simp [hz] at hf
          · simp only [hz, if_false, Option.some.injEq] at hf
            have hsz : ∀ w, (sizeOf fd.type).run P w = .ok ii.size w := fun w => run_sizeOf (by simp [tsz, hi]) w
            simp [execOp, ho.op, Instr.fieldAt, ha.eval hx, run_underlying hu, hfd, Instr.sureAddr, fieldPlace, hsz, hz, Addr.add_mk, hf]) h
/-- an element of a slice: cell number off + n * (cells of an element) -/
theorem SL.ia {b off len cap sz n : Nat} {k : IntKind} {i : Int} {ty e : TypeId} (ho : At ops N l o t (.indexAddr ty x y)) (hty : P.underlying ty = some (.slice e)) (hsz : tsz P e = some sz) (hx : evl l x = some (.slice (some ⟨b, off, none⟩) len cap)) (hy : evl l y = some (.int k i))
    (hi : i = (n : Int)) (hlt : n < len) (h : SL P ro K w0 N ops Hs items Q D ((t, vP b (off + n * sz)) :: l) H) : SL P ro K w0 N ops Hs (.cons (tk, o) items) Q D l H :=
  SL.val ho rfl (fun a w ha _ => by
    subst hi
    simp [execOp, ho.op, Instr.indexAt, ha.eval hx, ha.eval hy, asIntOf, run_underlying hty, run_sizeOf hsz, hlt, Addr.add_mk]) h
/-- an element of an array behind a pointer -/
theorem SL.iaA {b off len sz n : Nat} {k : IntKind} {i : Int} {ty e : TypeId} (ho : At ops N l o t (.indexAddr ty x y)) (hty : P.underlying ty = some (.array len e)) (hsz : tsz P e = some sz) (hx : evl l x = some (vP b off)) (hy : evl l y = some (.int k i))
    (hi : i = (n : Int)) (hlt : n < len) (h : SL P ro K w0 N ops Hs items Q D ((t, vP b (off + n * sz)) :: l) H) : SL P ro K w0 N ops Hs (.cons (tk, o) items) Q D l H :=
  SL.val ho rfl (fun a w ha _ => by
    subst hi
    simp [execOp, ho.op, Instr.indexAt, ha.eval hx, ha.eval hy, asIntOf, Instr.sureAddr, run_underlying hty, run_sizeOf hsz, hlt, Addr.add_mk]) h

/-! ### Loads -/
theorem SL.ld {ad : Addr} {ty : TypeId} (ho : At ops N l o t (.load ty x)) (hs : scl P ty = true) (hx : evl l x = some (.pointer (some ad))) (hc : ∀ w, HpS K w0 (bif tk then Hs else H) w → w.cell? ad = some v)
    (h : SL P ro K w0 N ops Hs items Q D ((t, v) :: l) H) : SL P ro K w0 N ops Hs (.cons (tk, o) items) Q D l H :=
  SL.val ho rfl (fun a w ha hsw => by
    simp [execOp, ho.op, Instr.loadAt, Instr.sureAddr, ha.eval hx, loadVar, (scl_spec hs w).1, hc w hsw]) h
theorem run_loadCellsFrom (a : Addr) (w : World) : ∀ (n i : Nat) (acc : Array Value) (cs : List Value), cs.length = n → (∀ j u, cs[j]? = some u → w.cell? (a.add (i + j)) = some u) →
    (loadCellsFrom a i n acc).run P w = .ok (acc ++ cs.toArray) w
  | 0, i, acc, cs, hn, hc => by
    have : cs = [] := List.length_eq_zero_iff.1 hn
    subst this
    simp [loadCellsFrom]
  | n + 1, i, acc, cs, hn, hc => by
    match cs, hn with
    | c :: cs, hn =>
      have h0 := hc 0 c rfl
      simp only [Nat.add_zero] at h0
      have ih := run_loadCellsFrom a w n (i + 1) (acc.push c) cs (by simpa using hn) (fun j u hu => by
        have := hc (j + 1) u (by simpa using hu)
        have e : i + 1 + j = i + (j + 1) := by omega
        rw [e]; exact this)
      simp [loadCellsFrom, h0, ih]
theorem run_loadCells {a : Addr} {w : World} {cs : List Value} (hc : ∀ j u, cs[j]? = some u → w.cell? (a.add j) = some u) : (loadCells a cs.length).run P w = .ok cs.toArray w := by
  unfold loadCells
  rw [run_loadCellsFrom a w cs.length 0 #[] cs rfl (by simpa using hc)]
  simp
theorem SL.ldA {ad : Addr} {ty : TypeId} {n : Nat} (cs : List Value) (ho : At ops N l o t (.load ty x)) (hs : agz P ty = some n) (hn : cs.length = n) (hx : evl l x = some (.pointer (some ad)))
    (hc : ∀ w, HpS K w0 (bif tk then Hs else H) w → ∀ j u, cs[j]? = some u → w.cell? (ad.add j) = some u)
    (h : SL P ro K w0 N ops Hs items Q D ((t, .agg cs.toArray) :: l) H) : SL P ro K w0 N ops Hs (.cons (tk, o) items) Q D l H :=
  SL.val ho rfl (fun a w ha hsw => by
    obtain ⟨h1, h2⟩ := agz_spec hs w
    subst hn
    simp [execOp, ho.op, Instr.loadAt, Instr.sureAddr, ha.eval hx, loadVar, h1, run_sizeOf h2, run_loadCells (hc w hsw)]) h

/-- a cell of a chunk -/
theorem cell_own {b off : Nat} {c : Array Value} {e : TypeId} {z : Nat × Nat} (i : Nat) (hi : L[i]? = some (own b (.cells c e z))) (hc : c[off]? = some v) : ∀ w, HpS K w0 L w → w.cell? ⟨b, off, none⟩ = some v := by
  intro w hs
  have := hs.holds _ (List.mem_of_getElem? hi)
  have hb : w.heap[b]? = some (.cells c e z) := this
  simp [World.cell?, hb, hc]
/-- a cell of the memory that was there -/
theorem cell_base {ad : Addr} (hk : K ad.block) (hc : w0.cell? ad = some v) : ∀ w, HpS K w0 L w → w.cell? ad = some v := by
  intro w hs
  rw [World.cell?_of_block (w := w0) (hs.keep _ hk)]
  exact hc
theorem cells_own {b off : Nat} {c : Array Value} {e : TypeId} {z : Nat × Nat} {cs : List Value} (i : Nat) (hi : L[i]? = some (own b (.cells c e z))) (hc : ∀ j u, cs[j]? = some u → c[off + j]? = some u) :
    ∀ w, HpS K w0 L w → ∀ j u, cs[j]? = some u → w.cell? (Addr.add ⟨b, off, none⟩ j) = some u := by
  intro w hs j u hu
  rw [Addr.add_mk]
  exact cell_own i hi (hc j u hu) w hs

theorem cells_all {b : Nat} {cs : List Value} {e : TypeId} {z : Nat × Nat} (i : Nat) (hi : L[i]? = some (own b (.cells cs.toArray e z))) :
    ∀ w, HpS K w0 L w → ∀ j u, cs[j]? = some u → w.cell? (Addr.add ⟨b, 0, none⟩ j) = some u :=
  cells_own i hi (fun j u hu => by simpa using hu)

/-! ### Changes of the heap -/
/-- the static chunks are still there -/
def SubI : List Chunk → List Chunk → Prop
  | [], _ => True
  | c :: r, H => (∃ i : Nat, H[i]? = some c) ∧ SubI r H
theorem SubI.mem : ∀ {Hs H : List Chunk}, SubI Hs H → ∀ c ∈ Hs, c ∈ H
  | [], _, _, c, hc => by cases hc
  | d :: r, H, h, c, hc => by
    rcases List.mem_cons.1 hc with rfl | hc
    · obtain ⟨i, hi⟩ := h.1
      exact List.mem_of_getElem? hi
    · exact h.2.mem c hc
theorem SubI.hs {w : World} (h : SubI Hs H) (hw : HpOk K w0 (H ++ [marks D]) w) : HpS K w0 Hs w := hw.s.sub fun c hc => List.mem_append_left _ (h.mem c hc)

/-- an operation that yields a value and turns the heap -/
theorem SL.step {op : Op} {α : Type} (val : α → Value) (G : α → List Chunk) (ho : At ops N l o t op) (hnd : isDefer op = false)
    (hq : ∀ a w, Vals l a → HpOk K w0 (H ++ [marks D]) w → ∃ r w', (execOp a.eval o).run P w = .ok (.value (val r)) w' ∧ HpOk K w0 (G r ++ [marks D]) w')
    (hs : ∀ r, SubI Hs (G r)) (h : ∀ r, SL P ro K w0 N ops Hs items Q D ((t, val r) :: l) (G r)) : SL P ro K w0 N ops Hs (.cons (false, o) items) Q D l H := by
  intro a w ha hw hs0
  have hw1 := wtd_wanted ho.wt ha.vals
  obtain ⟨r, w', hrun, hw'⟩ := hq a w ha.vals hw
  simp only [PL, hw1, if_true]
  have hput : TmOk N D ((t, val r) :: l) (a.put o.dst (val r)) := by rw [ho.dst]; exact ha.put (blt_lt ho.lt) _
  exact ow_value (by rw [ho.op]; exact isDefer_ne hnd) hrun ⟨(hs r).hs hw', h r _ w' hput hw' ((hs r).hs hw')⟩
/-- an operation that yields nothing and turns the heap -/
theorem SL.step0 {op : Op} {G : List Chunk} (ho : At0 ops l o op) (hnd : isDefer op = false)
    (hq : ∀ a w, Vals l a → HpOk K w0 (H ++ [marks D]) w → ∃ w', (execOp a.eval o).run P w = .ok .skip w' ∧ HpOk K w0 (G ++ [marks D]) w')
    (hs : SubI Hs G) (h : SL P ro K w0 N ops Hs items Q D l G) : SL P ro K w0 N ops Hs (.cons (false, o) items) Q D l H := by
  intro a w ha hw hs0
  have hw1 := wtd_wanted ho.wt ha.vals
  obtain ⟨w', hrun, hw'⟩ := hq a w ha.vals hw
  simp only [PL, hw1, if_true]
  refine ow_skip (by rw [ho.op]; exact isDefer_ne hnd) hrun ⟨hs.hs hw', ?_⟩
  rw [ho.dst]
  exact h _ w' ha hw' (hs.hs hw')

theorem SL.alloc {ty : TypeId} {zv : Value} (ho : At ops N l o t (.alloc ty)) (hz : zer P ty = some zv) (hs : ∀ b, SubI Hs (own b (.cells zv.cells ty) :: H))
    (h : ∀ b, SL P ro K w0 N ops Hs items Q D ((t, vP b 0) :: l) (own b (.cells zv.cells ty) :: H)) : SL P ro K w0 N ops Hs (.cons (false, o) items) Q D l H :=
  SL.step (fun b => vP b 0) (fun b => own b (.cells zv.cells ty) :: H) ho rfl (fun a w ha hw => by
    refine ⟨w.heap.size, w.alloc (.cells zv.cells ty), ?_, hw.alloc _⟩
    simp [execOp, ho.op, Instr.alloc, run_zero hz, newVar, newRow]) hs h
theorem SL.box {ty : TypeId} (ho : At ops N l o t (.box ty x)) (hx : evl l x = some v) (hs : ∀ b, SubI Hs (own b (.cells v.cells ty) :: H))
    (h : ∀ b, SL P ro K w0 N ops Hs items Q D ((t, vP b 0) :: l) (own b (.cells v.cells ty) :: H)) : SL P ro K w0 N ops Hs (.cons (false, o) items) Q D l H :=
  SL.step (fun b => vP b 0) (fun b => own b (.cells v.cells ty) :: H) ho rfl (fun a w ha hw => by
    refine ⟨w.heap.size, w.alloc (.cells v.cells ty), ?_, hw.alloc _⟩
    simp [execOp, ho.op, Instr.box, ha.eval hx, newVar, newRow]) hs h
def setL (c : Array Value) (off : Nat) : List Value → Array Value
  | [] => c
  | v :: r => setL (c.setIfInBounds off v) (off + 1) r
theorem heap_put_set {w : World} {b : Nat} {o o' : Obj} (hb : b < w.heap.size) : (w.putObj b o).putObj b o' = w.putObj b o' := by
  simp [World.putObj, Array.setIfInBounds_setIfInBounds]
theorem World.setCell_own {w : World} {b off : Nat} {c : Array Value} {e : TypeId} {z : Nat × Nat} (u : Value) (hb : w.heap[b]? = some (.cells c e z)) : w.setCell ⟨b, off, none⟩ u = w.putObj b (.cells (c.setIfInBounds off u) e z) := by
  unfold World.setCell World.putObj
  congr 1
  apply Array.ext_getElem?
  intro i
  rw [Array.getElem?_modify, Array.getElem?_setIfInBounds]
  obtain ⟨hlt, hget⟩ := Array.getElem?_eq_some_iff.1 hb
  by_cases hi : b = i
  · subst hi
    simp [hlt, hget]
  · simp [hi]
theorem run_storeCells {b : Nat} {e : TypeId} : ∀ (vs : List Value) (off i : Nat) (c : Array Value) (w : World), w.heap[b]? = some (.cells c e (0, 0)) → off + i + vs.length ≤ c.size → (∀ u ∈ vs, u.oneCell' = true) →
    ∃ w', (storeCells ⟨b, off, none⟩ vs i).run P w = .ok () w' ∧ w' = w.putObj b (.cells (setL c (off + i) vs) e (0, 0))
  | [], off, i, c, w, hb, _, _ => by
    refine ⟨w, rfl, ?_⟩
    simp only [setL]
    have : w.putObj b (.cells c e (0, 0)) = w := by
      unfold World.putObj
      obtain ⟨hlt, hget⟩ := Array.getElem?_eq_some_iff.1 hb
      have : w.heap.setIfInBounds b (.cells c e (0, 0)) = w.heap := by
        apply Array.ext_getElem?
        intro k
        rw [Array.getElem?_setIfInBounds]
        split
        · rename_i hk; subst hk; simp [hlt, hget]
        · rfl
      rw [this]
    exact this.symm
  | u :: r, off, i, c, w, hb, hle, h1 => by
    have hu := h1 u (List.mem_cons_self ..)
    simp only [List.length_cons] at hle
    have hlt : off + i < c.size := by omega
    have hcell : w.cell? ⟨b, off + i, none⟩ = some c[off + i] := by simp [World.cell?, hb, hlt]
    have hfz : w.frozen? ⟨b, off + i, none⟩ = false := by simp [World.frozen?, hb]
    have hset := World.setCell_own (off := off + i) u hb
    obtain ⟨hbl, _⟩ := Array.getElem?_eq_some_iff.1 hb
    have hb' : (w.putObj b (.cells (c.setIfInBounds (off + i) u) e (0, 0))).heap[b]? = some (.cells (c.setIfInBounds (off + i) u) e (0, 0)) := World.putObj_heap_same hbl
    obtain ⟨w', hrun, hw'⟩ := run_storeCells r off (i + 1) _ _ hb' (by simp; omega) (fun v hv => h1 v (List.mem_cons_of_mem _ hv))
    refine ⟨w', ?_, ?_⟩
    · simp only [storeCells, Sem.run_bind, Addr.add_mk, run_store P w _ u _ hu, hcell, hfz, hset]
      simpa using hrun
    · rw [hw', heap_put_set hbl]
      rfl
theorem HpOk.putAt {M : List Chunk} {w : World} {b : Nat} {o o' : Obj} (i : Nat) (h : HpOk K w0 (H ++ M) w) (hi : H[i]? = some (own b o)) : HpOk K w0 (H.set i (own b o') ++ M) (w.putObj b o') := by
  obtain ⟨hlt, hget⟩ := List.getElem?_eq_some_iff.1 hi
  have hsplit : H = H.take i ++ own b o :: H.drop (i + 1) := by
    rw [← hget]; simp
  have hset : H.set i (own b o') = H.take i ++ own b o' :: H.drop (i + 1) := by
    rw [List.set_eq_take_append_cons_drop, if_pos hlt]
  rw [hset]
  rw [hsplit] at h
  have hp : (H.take i ++ own b o :: H.drop (i + 1) ++ M).Perm (own b o :: (H.take i ++ H.drop (i + 1) ++ M)) := by
    simp
  have hp' : (own b o' :: (H.take i ++ H.drop (i + 1) ++ M)).Perm (H.take i ++ own b o' :: H.drop (i + 1) ++ M) := by
    rw [List.perm_comm]; simp
  exact ((h.perm hp).put).perm hp'
/-- a store into a chunk -/
theorem SL.stP {b off : Nat} {c : Array Value} {e ty : TypeId} {n : Nat} (i : Nat) (ho : At0 ops l o (.store ty x y)) (hx : evl l x = some (vP b off)) (hy : evl l y = some v) (hi : H[i]? = some (own b (.cells c e)))
    (hn : tsz P ty = some n) (hv : v.cells.size = n) (h1 : v.cells.toList.all (·.oneCell') = true) (hle : off + n ≤ c.size)
    (hs : SubI Hs (H.set i (own b (.cells (setL c off v.cells.toList) e)))) (h : SL P ro K w0 N ops Hs items Q D l (H.set i (own b (.cells (setL c off v.cells.toList) e)))) : SL P ro K w0 N ops Hs (.cons (false, o) items) Q D l H :=
  SL.step0 ho rfl (fun a w ha hw => by
    have hb : w.heap[b]? = some (.cells c e (0, 0)) := hw.holds _ (List.mem_append_left _ (List.mem_of_getElem? hi))
    obtain ⟨w', hrun, hw'⟩ := run_storeCells (P := P) v.cells.toList off 0 c w hb (by simp [hv]; exact hle) (List.all_eq_true.1 h1)
    refine ⟨w', ?_, ?_⟩
    · simp [execOp, ho.op, Instr.storeAt, Instr.sureAddr, ha.eval hx, ha.eval hy, storeVar, run_sizeOf hn, hv]
      rw [hrun]
      rfl
    · rw [hw']
      exact hw.putAt i hi) hs h

theorem SL.st {b off : Nat} {c : Array Value} {e ty : TypeId} {n : Nat} (i : Nat) (ho : At0 ops l o (.store ty x y)) (hx : evl l x = some (vP b off)) (hy : evl l y = some v) (hi : H[i]? = some (own b (.cells c e)))
    (hn : tsz P ty = some n) (hv : v.cells.size = n) (h1 : v.cells.toList.all (·.oneCell') = true) (hle : Nat.ble (off + n) c.size = true)
    (hs : SubI Hs (H.set i (own b (.cells (setL c off v.cells.toList) e)))) (h : SL P ro K w0 N ops Hs items Q D l (H.set i (own b (.cells (setL c off v.cells.toList) e)))) : SL P ro K w0 N ops Hs (.cons (false, o) items) Q D l H :=
  SL.stP i ho hx hy hi hn hv h1 (Nat.le_of_ble_eq_true hle) hs h

/-! ### Calls -/
def callable (P : Program) (f : FuncId) : Bool :=
  match P.funcs[f]? with
  | some fn => fn.body.isSome && fn.name != "runtime.NumGoroutine"
  | none => false
theorem run_callFunc {f : FuncId} {args : Array Value} (h : callable P f = true) (w : World) : (callFunc f args).run P w = .ok (.enter f args) w := by
  unfold callable at h
  cases hf : P.funcs[f]? with
  | none => simp [hf] at h
  | some fn =>
    simp only [hf, Bool.and_eq_true, bne_iff_ne, ne_eq] at h
    have hb : fn.body.isNone = false := by cases hb : fn.body <;> simp_all
    have h2 : (fn.name == "runtime.NumGoroutine") = false := by simpa using h.2
    simp only [callFunc, Sem.run_bind, run_program, Result.andThen_ok, hf, h2, hb, Bool.false_eq_true, if_false, Sem.run_pure]
def evs (l : Tm) : List Operand → List Value → Prop
  | [], [] => True
  | x :: xs, v :: vs => evl l x = some v ∧ evs l xs vs
  | _, _ => False
theorem evs.eval {a : Act} (ha : Vals l a) : ∀ {xs : List Operand} {vs : List Value}, evs l xs vs → xs.map a.eval = vs
  | [], [], _ => rfl
  | x :: xs, v :: vs, h => by simp [ha.eval h.1, evs.eval ha h.2]
  | [], _ :: _, h => h.elim
  | _ :: _, [], h => h.elim
/-- a call; the contract takes the chunks Hin at the front -/
theorem SL.call {f : FuncId} {fs cs : Array Value} {xs : Array Operand} {tys : Array TypeId} {vs args : List Value} {Hin Hr : List Chunk} {post : Value → List Chunk → Prop} (ho : At ops N l o t (.call { callee := .value x, args := xs, argTypes := tys }))
    (hx : evl l x = some (.func (.func f) fs cs)) (hv : evs l xs.toList vs) (hf : callable P f = true) (hargs : fs.toList ++ vs ++ cs.toList = args) (hH : H = Hin ++ Hr)
    (hc : Con P K w0 f args Hin (Hr ++ [marks D]) post)
    (h : ∀ v M, post v M → SubI Hs (M ++ Hr) ∧ SL P ro K w0 N ops Hs items Q D ((t, v) :: l) (M ++ Hr)) : SL P ro K w0 N ops Hs (.cons (false, o) items) Q D l H := by
  intro a w ha hw hs0
  subst hH
  have hw1 := wtd_wanted ho.wt ha.vals
  simp only [PL, hw1, if_true]
  refine ow_enter (by rw [ho.op]; exact isDefer_ne rfl) (w' := w) (f := f) (args := args.toArray) ?_ ?_
  · simp [execOp, ho.op, resolve, Deferred.ofValue, ha.vals.eval hx, invoke, run_callFunc hf]
    rw [evs.eval ha.vals hv, ← hargs, List.append_assoc]
  · refine (hc w (by simpa [List.append_assoc] using hw)).mono ?_
    rintro e w' ⟨v, M, rfl, hp, hw'⟩
    obtain ⟨h1, h2⟩ := h v M hp
    have hw'' : HpOk K w0 ((M ++ Hr) ++ [marks D]) w' := by simpa [List.append_assoc] using hw'
    exact ⟨v, rfl, h1.hs hw'', h2 _ w' (by rw [ho.dst]; exact ha.put (blt_lt ho.lt) v) hw'' (h1.hs hw'')⟩
end Go.Proofs.YtnpnmdbleopikaaDoor
