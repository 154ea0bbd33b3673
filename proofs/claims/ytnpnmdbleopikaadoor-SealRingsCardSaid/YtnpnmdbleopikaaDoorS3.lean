/- The engine's operations, in one sentence: what each operation of a region does to the two descriptors. Each under its own side conditions (bounds, cells). -/
import Derived.Test.YtnpnmdbleopikaaDoorS2
import Derived.Laws.Strings
import Derived.Lib.Strings
namespace Go.Proofs.YtnpnmdbleopikaaDoor
open Go

/-! ### Values -/
abbrev vI (x : Int) : Value := .int .i64 x
abbrev vU8 (x : UInt8) : Value := .int .u8 (x.toNat : Int)
abbrev vU32 (x : UInt32) : Value := .int .u32 (x.toNat : Int)
abbrev vU64 (x : UInt64) : Value := .int .u64 (x.toNat : Int)
abbrev vS (s : List UInt8) : Value := .string ⟨⟨s⟩⟩
abbrev vB (b : Bool) : Value := .bool b
abbrev vP (b off : Nat) : Value := .pointer (some ⟨b, off, none⟩)

/-! ### Guards -/
def wtd (ops : Array Oper) (l : Tm) (o : Oper) : Option Bool :=
  match o.guard with
  | none => some true
  | some (j, want) =>
    match (ops[j]?).bind (·.dst) with
    | some s => match look l s with
      | some (.bool b) => some (b == want)
      | _ => none
    | none => none
variable {P : Program} {ro : Option Nat} {K : Nat → Prop} {w0 : World} {N : Nat} {Q : Post} {D : List Nat} {l l' : Tm} {H H' Hs L : List Chunk} {ops : Array Oper} {items : Its}
theorem wtd_wanted {o : Oper} {b : Bool} {a : Act} (h : wtd ops l o = some b) (ha : Vals l a) : Region.wanted o (yielded ops a.tmps) = b := by
  unfold wtd at h
  unfold Region.wanted
  split at h
  · rename_i hg
    rw [hg]
    simpa using h
  · rename_i j want hg
    rw [hg]
    split at h
    · rename_i s hs
      split at h
      · rename_i c hc
        have := ha s _ hc
        simp only [yielded, hs, Option.bind_some, this]
        simp at h
        cases c <;> cases want <;> simp_all
      · cases h
    · cases h

theorem blt_lt {a b : Nat} (h : Nat.blt a b = true) : a < b := by simpa [Nat.blt_eq] using h
structure At (ops : Array Oper) (N : Nat) (l : Tm) (o : Oper) (t : Nat) (op : Op) : Prop where
  op : o.op = op
  dst : o.dst = some t
  lt : Nat.blt t N = true
  wt : wtd ops l o = some true
structure At0 (ops : Array Oper) (l : Tm) (o : Oper) (op : Op) : Prop where
  op : o.op = op
  dst : o.dst = none
  wt : wtd ops l o = some true
def isDefer : Op → Bool
  | .defer _ => true
  | _ => false
theorem isDefer_ne {op : Op} (h : isDefer op = false) (c : Call) : op ≠ .defer c := by rintro rfl; cases h

/-- an operation that yields a value and leaves the world -/
theorem SL.val {tk : Bool} {o : Oper} {t : Nat} {op : Op} {v : Value} (ho : At ops N l o t op) (hnd : isDefer op = false)
    (hq : ∀ a w, Vals l a → HpS K w0 (bif tk then Hs else H) w → (execOp a.eval o).run P w = .ok (.value v) w)
    (h : SL P ro K w0 N ops Hs items Q D ((t, v) :: l) H) : SL P ro K w0 N ops Hs (.cons (tk, o) items) Q D l H := by
  intro a w ha hw hs
  have hw1 := wtd_wanted ho.wt ha.vals
  have hlt : t < N := blt_lt ho.lt
  have hput : TmOk N D ((t, v) :: l) (a.put o.dst v) := by rw [ho.dst]; exact ha.put hlt v
  cases tk with
  | true => exact ⟨v, .inl ⟨hw1, fun w' hs' => hq a w' ha.vals hs'⟩, h _ w hput hw hs⟩
  | false =>
    simp only [PL, hw1, if_true]
    refine ow_value (by rw [ho.op]; exact isDefer_ne hnd) (hq a w ha.vals (hw.dropMarks.s)) ⟨hs, h _ w hput hw hs⟩
/-- an operation whose guard says no -/
theorem SL.pass {tk : Bool} {o : Oper} {t : Nat} (hd : o.dst = some t) (hlt : Nat.blt t N = true) (hwt : wtd ops l o = some false)
    (h : SL P ro K w0 N ops Hs items Q D ((t, undef) :: l) H) : SL P ro K w0 N ops Hs (.cons (tk, o) items) Q D l H := by
  intro a w ha hw hs
  have hw1 := wtd_wanted hwt ha.vals
  have hput : TmOk N D ((t, undef) :: l) (a.put o.dst undef) := by rw [hd]; exact ha.put (blt_lt hlt) undef
  cases tk with
  | true => exact ⟨undef, .inr ⟨hw1, rfl⟩, h _ w hput hw hs⟩
  | false =>
    simp only [PL, hw1, Bool.false_eq_true, if_false]
    exact h _ w hput hw hs
theorem SL.pass0 {tk : Bool} {o : Oper} (hd : o.dst = none) (hwt : wtd ops l o = some false)
    (h : SL P ro K w0 N ops Hs items Q D l H) : SL P ro K w0 N ops Hs (.cons (tk, o) items) Q D l H := by
  intro a w ha hw hs
  have hw1 := wtd_wanted hwt ha.vals
  cases tk with
  | true => exact ⟨undef, .inr ⟨hw1, rfl⟩, by rw [hd]; exact h _ w ha hw hs⟩
  | false =>
    simp only [PL, hw1, Bool.false_eq_true, if_false]
    rw [hd]; exact h _ w ha hw hs
/-- cases on a bool in a slot -/
theorem SL.split (t : Nat) {b : Bool} (hb : look l t = some (.bool b)) (ht : b = true → SL P ro K w0 N ops Hs items Q D ((t, .bool true) :: l) H)
    (hf : b = false → SL P ro K w0 N ops Hs items Q D ((t, .bool false) :: l) H) : SL P ro K w0 N ops Hs items Q D l H := by
  have aux : ∀ l₁ : Tm, (∀ s v, look l₁ s = some v → look l s = some v) → SL P ro K w0 N ops Hs items Q D l₁ H → SL P ro K w0 N ops Hs items Q D l H :=
    fun l₁ hl h a w ha hw hs => h a w ⟨ha.size, ha.defers, fun s v hv => ha.vals s v (hl s v hv)⟩ hw hs
  have key : ∀ c : Bool, b = c → ∀ s v, look ((t, .bool c) :: l) s = some v → look l s = some v := by
    rintro c rfl s v hv
    simp only [look] at hv
    cases he : Nat.beq t s with
    | true =>
      rw [he] at hv
      have : t = s := Nat.eq_of_beq_eq_true he
      subst this
      rw [hb]
      simpa using hv
    | false => rw [he] at hv; simpa using hv
  cases b with
  | true => exact aux _ (key true rfl) (ht rfl)
  | false => exact aux _ (key false rfl) (hf rfl)

/-! ### Registers -/
section regs
variable {tk : Bool} {o : Oper} {t : Nat} {v : Value} {x y z : Operand}
theorem SL.mv (ho : At ops N l o t (.move x)) (hx : evl l x = some v) (h : SL P ro K w0 N ops Hs items Q D ((t, v) :: l) H) : SL P ro K w0 N ops Hs (.cons (tk, o) items) Q D l H :=
  SL.val ho rfl (fun a w ha _ => by simp only [execOp, ho.op, ha.eval hx, Sem.run_pure]) h
theorem SL.asg (ho : At ops N l o t (.assign x)) (hx : evl l x = some v) (h : SL P ro K w0 N ops Hs items Q D ((t, v) :: l) H) : SL P ro K w0 N ops Hs (.cons (tk, o) items) Q D l H :=
  SL.val ho rfl (fun a w ha _ => by simp only [execOp, ho.op, ha.eval hx, Sem.run_pure]) h
theorem SL.pk {b : Bool} (ho : At ops N l o t (.pick x y z)) (hx : evl l x = some (.bool b)) (hy : evl l (bif b then y else z) = some v) (h : SL P ro K w0 N ops Hs items Q D ((t, v) :: l) H) : SL P ro K w0 N ops Hs (.cons (tk, o) items) Q D l H :=
  SL.val ho rfl (fun a w ha _ => by
    have h1 := ha.eval hx
    have h2 := ha.eval hy
    cases b <;> simp_all [execOp, asBool, ho.op]) h
theorem SL.ext {vs : Array Value} {i : Nat} (ho : At ops N l o t (.extract x i)) (hx : evl l x = some (.tuple vs)) (hi : vs[i]? = some v) (h : SL P ro K w0 N ops Hs items Q D ((t, v) :: l) H) : SL P ro K w0 N ops Hs (.cons (tk, o) items) Q D l H :=
  SL.val ho rfl (fun a w ha _ => by simp [execOp, ho.op, Instr.extract, ha.eval hx, hi]) h
theorem SL.mkf {fn : Fn} {fs cs : Array Operand} {fv cv : Array Value} (ho : At ops N l o t (.makeFunc fn fs cs)) (hf : fs.toList.map (evl l) = fv.toList.map some) (hc : cs.toList.map (evl l) = cv.toList.map some)
    (h : SL P ro K w0 N ops Hs items Q D ((t, .func fn fv cv) :: l) H) : SL P ro K w0 N ops Hs (.cons (tk, o) items) Q D l H :=
  SL.val ho rfl (fun a w ha _ => by
    have key : ∀ (xs : List Operand) (vs : List Value), xs.map (evl l) = vs.map some → xs.map a.eval = vs := by
      intro xs
      induction xs with
      | nil => intro vs hv; cases vs <;> simp_all
      | cons x xs ih =>
        intro vs hv
        cases vs with
        | nil => simp at hv
        | cons u us =>
          simp only [List.map_cons, List.cons.injEq] at hv ⊢
          exact ⟨ha.eval hv.1, ih us hv.2⟩
    have h1 : fs.map a.eval = fv := by
      apply Array.ext'
      simpa using key _ _ hf
    have h2 : cs.map a.eval = cv := by
      apply Array.ext'
      simpa using key _ _ hc
    simp [execOp, ho.op, Instr.makeFunc, h1, h2]) h
theorem SL.nchk {ad : Addr} (ho : At ops N l o t (.nilCheck x)) (hx : evl l x = some (.pointer (some ad))) (h : SL P ro K w0 N ops Hs items Q D ((t, .pointer (some ad)) :: l) H) : SL P ro K w0 N ops Hs (.cons (tk, o) items) Q D l H :=
  SL.val ho rfl (fun a w ha _ => by simp [execOp, ho.op, ha.eval hx]) h
theorem SL.nchkf {fn : FuncId} {fv cv : Array Value} (ho : At ops N l o t (.nilCheck x)) (hx : evl l x = some (.func (.func fn) fv cv)) (h : SL P ro K w0 N ops Hs items Q D ((t, .func (.func fn) fv cv) :: l) H) : SL P ro K w0 N ops Hs (.cons (tk, o) items) Q D l H :=
  SL.val ho rfl (fun a w ha _ => by simp [execOp, ho.op, ha.eval hx]) h
theorem SL.not {b : Bool} {ty : TypeId} (ho : At ops N l o t (.unOp .not ty x)) (hx : evl l x = some (.bool b)) (h : SL P ro K w0 N ops Hs items Q D ((t, .bool (!b)) :: l) H) : SL P ro K w0 N ops Hs (.cons (tk, o) items) Q D l H :=
  SL.val ho rfl (fun a w ha _ => by simp [execOp, ho.op, ha.eval hx, Op.unary]) h
end regs

/-! ### Two operands -/
def Bin (op : BinOp) (a b v : Value) : Prop := ∀ (P : Program) (w : World) (ty : TypeId) (x y : Operand), (eqGuard op ty x y a b).run P w = .ok () w ∧ (binOp op ty a b).run P w = .ok v w
theorem SL.bin {tk : Bool} {o : Oper} {t : Nat} {op : BinOp} {x y : Operand} {ty uy : TypeId} {a b v : Value} (ho : At ops N l o t (.binOp op ty x y uy)) (hx : evl l x = some a) (hy : evl l y = some b) (hb : Bin op a b v)
    (h : SL P ro K w0 N ops Hs items Q D ((t, v) :: l) H) : SL P ro K w0 N ops Hs (.cons (tk, o) items) Q D l H :=
  SL.val ho rfl (fun a w ha _ => by
    obtain ⟨h1, h2⟩ := hb P w ty x y
    simp [execOp, ho.op, ha.eval hx, ha.eval hy, h1, h2]) h

theorem wrap_of {k : IntKind} {x : Int} (h1 : k.min ≤ x) (h2 : x ≤ k.max) : k.wrap x = x := by
  cases k <;> simp [IntKind.wrap, IntKind.min, IntKind.max, IntKind.signed, IntKind.bits] at * <;> omega

theorem eqGuard_int (op : BinOp) (ty : TypeId) (x y : Operand) (k k' : IntKind) (a b : Int) (P : Program) (w : World) : (eqGuard op ty x y (.int k a) (.int k' b)).run P w = .ok () w := by
  cases op <;> simp [eqGuard]
theorem eqGuard_str (op : BinOp) (ty : TypeId) (x y : Operand) (a b : ByteArray) (P : Program) (w : World) : (eqGuard op ty x y (.string a) (.string b)).run P w = .ok () w := by
  cases op <;> simp [eqGuard]

theorem Bin.addI {a b : Int} (h1 : -9223372036854775808 ≤ a + b) (h2 : a + b ≤ 9223372036854775807) : Bin .add (vI a) (vI b) (vI (a + b)) := fun P w ty x y =>
  ⟨eqGuard_int .., by simp [binOp, Op.intArith, wrap_of (k := .i64) (x := a + b) h1 h2]⟩
theorem Bin.subI {a b : Int} (h1 : -9223372036854775808 ≤ a - b) (h2 : a - b ≤ 9223372036854775807) : Bin .sub (vI a) (vI b) (vI (a - b)) := fun P w ty x y =>
  ⟨eqGuard_int .., by simp [binOp, Op.intArith, wrap_of (k := .i64) (x := a - b) h1 h2]⟩
theorem Bin.mulI {a b : Int} (h1 : -9223372036854775808 ≤ a * b) (h2 : a * b ≤ 9223372036854775807) : Bin .mul (vI a) (vI b) (vI (a * b)) := fun P w ty x y =>
  ⟨eqGuard_int .., by simp [binOp, Op.intArith, wrap_of (k := .i64) (x := a * b) h1 h2]⟩
theorem Bin.ltI {k : IntKind} {a b : Int} : Bin .lss (.int k a) (.int k b) (.bool (decide (a < b))) := fun P w ty x y => ⟨eqGuard_int .., by simp [binOp, Op.intCmp]⟩
theorem Bin.leI {k : IntKind} {a b : Int} : Bin .leq (.int k a) (.int k b) (.bool (decide (a ≤ b))) := fun P w ty x y => ⟨eqGuard_int .., by simp [binOp, Op.intCmp]⟩
theorem Bin.gtI {k : IntKind} {a b : Int} : Bin .gtr (.int k a) (.int k b) (.bool (decide (b < a))) := fun P w ty x y => ⟨eqGuard_int .., by simp [binOp, Op.intCmp]⟩
theorem Bin.geI {k : IntKind} {a b : Int} : Bin .geq (.int k a) (.int k b) (.bool (decide (b ≤ a))) := fun P w ty x y => ⟨eqGuard_int .., by simp [binOp, Op.intCmp]⟩
theorem Bin.eqI {k : IntKind} {a b : Int} : Bin .eql (.int k a) (.int k b) (.bool (decide (a = b))) := fun P w ty x y => ⟨eqGuard_int .., by simp [binOp, Op.intCmp]; rfl⟩
theorem Bin.neI {k : IntKind} {a b : Int} : Bin .neq (.int k a) (.int k b) (.bool (!decide (a = b))) := fun P w ty x y => ⟨eqGuard_int .., by simp [binOp, Op.intCmp, bne]; rfl⟩


theorem wrap_u8 (x : Int) : IntKind.u8.wrap x = x % 256 := by simp [IntKind.wrap, IntKind.signed, IntKind.bits]
theorem wrap_u32 (x : Int) : IntKind.u32.wrap x = x % 4294967296 := by simp [IntKind.wrap, IntKind.signed, IntKind.bits]
theorem wrap_u64 (x : Int) : IntKind.u64.wrap x = x % 18446744073709551616 := by simp [IntKind.wrap, IntKind.signed, IntKind.bits]
theorem Bin.add32 {a b : UInt32} : Bin .add (vU32 a) (vU32 b) (vU32 (a + b)) := fun P w ty x y => ⟨eqGuard_int .., by
  have h : IntKind.u32.wrap ((a.toNat : Int) + b.toNat) = ((a + b).toNat : Int) := by
    rw [wrap_u32, UInt32.toNat_add]; omega
  simp [binOp, Op.intArith, h]⟩
theorem Bin.sub32 {a b : UInt32} : Bin .sub (vU32 a) (vU32 b) (vU32 (a - b)) := fun P w ty x y => ⟨eqGuard_int .., by
  have h : IntKind.u32.wrap ((a.toNat : Int) - b.toNat) = ((a - b).toNat : Int) := by
    rw [wrap_u32, UInt32.toNat_sub]
    have := a.toNat_lt; have := b.toNat_lt
    omega
  simp [binOp, Op.intArith, h]⟩
theorem Bin.add64 {a b : UInt64} : Bin .add (vU64 a) (vU64 b) (vU64 (a + b)) := fun P w ty x y => ⟨eqGuard_int .., by
  have h : IntKind.u64.wrap ((a.toNat : Int) + b.toNat) = ((a + b).toNat : Int) := by
    rw [wrap_u64, UInt64.toNat_add]; omega
  simp [binOp, Op.intArith, h]⟩
theorem Bin.sub64 {a b : UInt64} : Bin .sub (vU64 a) (vU64 b) (vU64 (a - b)) := fun P w ty x y => ⟨eqGuard_int .., by
  have h : IntKind.u64.wrap ((a.toNat : Int) - b.toNat) = ((a - b).toNat : Int) := by
    rw [wrap_u64, UInt64.toNat_sub]
    have := a.toNat_lt; have := b.toNat_lt
    omega
  simp [binOp, Op.intArith, h]⟩
theorem Bin.mul64 {a b : UInt64} : Bin .mul (vU64 a) (vU64 b) (vU64 (a * b)) := fun P w ty x y => ⟨eqGuard_int .., by
  have h : IntKind.u64.wrap ((a.toNat : Int) * b.toNat) = ((a * b).toNat : Int) := by
    rw [wrap_u64, UInt64.toNat_mul]
    rw [← Int.natCast_mul]
    generalize a.toNat * b.toNat = q
    omega
  simp [binOp, Op.intArith, h]⟩
theorem Bin.eq8 {a b : UInt8} : Bin .eql (vU8 a) (vU8 b) (.bool (decide (a = b))) := fun P w ty x y => ⟨eqGuard_int .., by
  have h : (((a.toNat : Int)) == (b.toNat : Int)) = decide (a = b) := by
    rw [Bool.eq_iff_iff, beq_iff_eq, decide_eq_true_eq, ← UInt8.toNat_inj]; omega
  simp [binOp, Op.intCmp, h]⟩
theorem Bin.eq32 {a b : UInt32} : Bin .eql (vU32 a) (vU32 b) (.bool (decide (a = b))) := fun P w ty x y => ⟨eqGuard_int .., by
  have h : (((a.toNat : Int)) == (b.toNat : Int)) = decide (a = b) := by
    rw [Bool.eq_iff_iff, beq_iff_eq, decide_eq_true_eq, ← UInt32.toNat_inj]; omega
  simp [binOp, Op.intCmp, h]⟩
theorem Bin.eq64 {a b : UInt64} : Bin .eql (vU64 a) (vU64 b) (.bool (decide (a = b))) := fun P w ty x y => ⟨eqGuard_int .., by
  have h : (((a.toNat : Int)) == (b.toNat : Int)) = decide (a = b) := by
    rw [Bool.eq_iff_iff, beq_iff_eq, decide_eq_true_eq, ← UInt64.toNat_inj]; omega
  simp [binOp, Op.intCmp, h]⟩
theorem Bin.ne8 {a b : UInt8} : Bin .neq (vU8 a) (vU8 b) (.bool (!decide (a = b))) := fun P w ty x y => ⟨eqGuard_int .., by
  have h : (((a.toNat : Int)) == (b.toNat : Int)) = decide (a = b) := by
    rw [Bool.eq_iff_iff, beq_iff_eq, decide_eq_true_eq, ← UInt8.toNat_inj]; omega
  simp [binOp, Op.intCmp, bne, h]⟩
theorem Bin.ne32 {a b : UInt32} : Bin .neq (vU32 a) (vU32 b) (.bool (!decide (a = b))) := fun P w ty x y => ⟨eqGuard_int .., by
  have h : (((a.toNat : Int)) == (b.toNat : Int)) = decide (a = b) := by
    rw [Bool.eq_iff_iff, beq_iff_eq, decide_eq_true_eq, ← UInt32.toNat_inj]; omega
  simp [binOp, Op.intCmp, bne, h]⟩
theorem Bin.lt32 {a b : UInt32} : Bin .lss (vU32 a) (vU32 b) (.bool (decide (a < b))) := fun P w ty x y => ⟨eqGuard_int .., by
  simp [binOp, Op.intCmp, UInt32.lt_iff_toNat_lt]⟩
theorem Bin.le32 {a b : UInt32} : Bin .leq (vU32 a) (vU32 b) (.bool (decide (a ≤ b))) := fun P w ty x y => ⟨eqGuard_int .., by
  simp [binOp, Op.intCmp, UInt32.le_iff_toNat_le]⟩
theorem Bin.gt32 {a b : UInt32} : Bin .gtr (vU32 a) (vU32 b) (.bool (decide (b < a))) := fun P w ty x y => ⟨eqGuard_int .., by
  simp [binOp, Op.intCmp, UInt32.lt_iff_toNat_lt]⟩
theorem Bin.ge32 {a b : UInt32} : Bin .geq (vU32 a) (vU32 b) (.bool (decide (b ≤ a))) := fun P w ty x y => ⟨eqGuard_int .., by
  simp [binOp, Op.intCmp, UInt32.le_iff_toNat_le]⟩
theorem Bin.lt8 {a b : UInt8} : Bin .lss (vU8 a) (vU8 b) (.bool (decide (a < b))) := fun P w ty x y => ⟨eqGuard_int .., by
  simp [binOp, Op.intCmp, UInt8.lt_iff_toNat_lt]⟩
theorem Bin.lt64 {a b : UInt64} : Bin .lss (vU64 a) (vU64 b) (.bool (decide (a < b))) := fun P w ty x y => ⟨eqGuard_int .., by
  simp [binOp, Op.intCmp, UInt64.lt_iff_toNat_lt]⟩
theorem Bin.le8 {a b : UInt8} : Bin .leq (vU8 a) (vU8 b) (.bool (decide (a ≤ b))) := fun P w ty x y => ⟨eqGuard_int .., by
  simp [binOp, Op.intCmp, UInt8.le_iff_toNat_le]⟩
theorem Bin.le64 {a b : UInt64} : Bin .leq (vU64 a) (vU64 b) (.bool (decide (a ≤ b))) := fun P w ty x y => ⟨eqGuard_int .., by
  simp [binOp, Op.intCmp, UInt64.le_iff_toNat_le]⟩
theorem Bin.gt8 {a b : UInt8} : Bin .gtr (vU8 a) (vU8 b) (.bool (decide (b < a))) := fun P w ty x y => ⟨eqGuard_int .., by
  simp [binOp, Op.intCmp, UInt8.lt_iff_toNat_lt]⟩
theorem Bin.gt64 {a b : UInt64} : Bin .gtr (vU64 a) (vU64 b) (.bool (decide (b < a))) := fun P w ty x y => ⟨eqGuard_int .., by
  simp [binOp, Op.intCmp, UInt64.lt_iff_toNat_lt]⟩
theorem Bin.ge8 {a b : UInt8} : Bin .geq (vU8 a) (vU8 b) (.bool (decide (b ≤ a))) := fun P w ty x y => ⟨eqGuard_int .., by
  simp [binOp, Op.intCmp, UInt8.le_iff_toNat_le]⟩
theorem Bin.ge64 {a b : UInt64} : Bin .geq (vU64 a) (vU64 b) (.bool (decide (b ≤ a))) := fun P w ty x y => ⟨eqGuard_int .., by
  simp [binOp, Op.intCmp, UInt64.le_iff_toNat_le]⟩
theorem Bin.ne64 {a b : UInt64} : Bin .neq (vU64 a) (vU64 b) (.bool (!decide (a = b))) := fun P w ty x y => ⟨eqGuard_int .., by
  have h : (((a.toNat : Int)) == (b.toNat : Int)) = decide (a = b) := by
    rw [Bool.eq_iff_iff, beq_iff_eq, decide_eq_true_eq, ← UInt64.toNat_inj]; omega
  simp [binOp, Op.intCmp, bne, h]⟩
theorem ofInt_nat (w n : Nat) : BitVec.ofInt w (n : Int) = BitVec.ofNat w n := by
  apply BitVec.eq_of_toNat_eq
  simp
theorem bits32 (a : UInt32) : BitVec.ofInt IntKind.u32.bits ((a.toNat : Nat) : Int) = a.toBitVec := by
  rw [ofInt_nat]
  apply BitVec.eq_of_toNat_eq
  have := a.toNat_lt
  simp [IntKind.bits]
theorem bits64 (a : UInt64) : BitVec.ofInt IntKind.u64.bits ((a.toNat : Nat) : Int) = a.toBitVec := by
  rw [ofInt_nat]
  apply BitVec.eq_of_toNat_eq
  have := a.toNat_lt
  simp [IntKind.bits]
theorem bits8 (a : UInt8) : BitVec.ofInt IntKind.u8.bits ((a.toNat : Nat) : Int) = a.toBitVec := by
  rw [ofInt_nat]
  apply BitVec.eq_of_toNat_eq
  have := a.toNat_lt
  simp [IntKind.bits]
theorem back32 (r : BitVec 32) : IntKind.u32.wrap (r.toNat : Int) = ((UInt32.ofBitVec r).toNat : Int) := by
  rw [wrap_u32]
  have := r.isLt
  simp only [UInt32.toNat_ofBitVec]
  omega
theorem back64 (r : BitVec 64) : IntKind.u64.wrap (r.toNat : Int) = ((UInt64.ofBitVec r).toNat : Int) := by
  rw [wrap_u64]
  have := r.isLt
  simp only [UInt64.toNat_ofBitVec]
  omega
theorem back8 (r : BitVec 8) : IntKind.u8.wrap (r.toNat : Int) = ((UInt8.ofBitVec r).toNat : Int) := by
  rw [wrap_u8]
  have := r.isLt
  simp only [UInt8.toNat_ofBitVec]
  omega
theorem Bin.xor32 {a b : UInt32} : Bin .xor (vU32 a) (vU32 b) (vU32 (a ^^^ b)) := fun P w ty x y => ⟨eqGuard_int .., by
  have h := back32 (a.toBitVec ^^^ b.toBitVec)
  simp only [binOp, Op.intBits, ne_eq, not_true_eq_false, if_false, bits32 a, bits32 b]
  exact congrArg (fun z => Result.ok (Value.int .u32 z) w) h⟩
theorem Bin.and32 {a b : UInt32} : Bin .and (vU32 a) (vU32 b) (vU32 (a &&& b)) := fun P w ty x y => ⟨eqGuard_int .., by
  have h := back32 (a.toBitVec &&& b.toBitVec)
  simp only [binOp, Op.intBits, ne_eq, not_true_eq_false, if_false, bits32 a, bits32 b]
  exact congrArg (fun z => Result.ok (Value.int .u32 z) w) h⟩
theorem Bin.or32 {a b : UInt32} : Bin .or (vU32 a) (vU32 b) (vU32 (a ||| b)) := fun P w ty x y => ⟨eqGuard_int .., by
  have h := back32 (a.toBitVec ||| b.toBitVec)
  simp only [binOp, Op.intBits, ne_eq, not_true_eq_false, if_false, bits32 a, bits32 b]
  exact congrArg (fun z => Result.ok (Value.int .u32 z) w) h⟩
theorem Bin.and64 {a b : UInt64} : Bin .and (vU64 a) (vU64 b) (vU64 (a &&& b)) := fun P w ty x y => ⟨eqGuard_int .., by
  have h := back64 (a.toBitVec &&& b.toBitVec)
  simp only [binOp, Op.intBits, ne_eq, not_true_eq_false, if_false, bits64 a, bits64 b]
  exact congrArg (fun z => Result.ok (Value.int .u64 z) w) h⟩
theorem Bin.or64 {a b : UInt64} : Bin .or (vU64 a) (vU64 b) (vU64 (a ||| b)) := fun P w ty x y => ⟨eqGuard_int .., by
  have h := back64 (a.toBitVec ||| b.toBitVec)
  simp only [binOp, Op.intBits, ne_eq, not_true_eq_false, if_false, bits64 a, bits64 b]
  exact congrArg (fun z => Result.ok (Value.int .u64 z) w) h⟩
theorem Bin.xor8 {a b : UInt8} : Bin .xor (vU8 a) (vU8 b) (vU8 (a ^^^ b)) := fun P w ty x y => ⟨eqGuard_int .., by
  have h := back8 (a.toBitVec ^^^ b.toBitVec)
  simp only [binOp, Op.intBits, ne_eq, not_true_eq_false, if_false, bits8 a, bits8 b]
  exact congrArg (fun z => Result.ok (Value.int .u8 z) w) h⟩
theorem Bin.or8 {a b : UInt8} : Bin .or (vU8 a) (vU8 b) (vU8 (a ||| b)) := fun P w ty x y => ⟨eqGuard_int .., by
  have h := back8 (a.toBitVec ||| b.toBitVec)
  simp only [binOp, Op.intBits, ne_eq, not_true_eq_false, if_false, bits8 a, bits8 b]
  exact congrArg (fun z => Result.ok (Value.int .u8 z) w) h⟩

theorem Bin.xor64 {a b : UInt64} : Bin .xor (vU64 a) (vU64 b) (vU64 (a ^^^ b)) := fun P w ty x y => ⟨eqGuard_int .., by
  have h := back64 (a.toBitVec ^^^ b.toBitVec)
  simp only [binOp, Op.intBits, ne_eq, not_true_eq_false, if_false, bits64 a, bits64 b]
  exact congrArg (fun z => Result.ok (Value.int .u64 z) w) h⟩
theorem Bin.and8 {a b : UInt8} : Bin .and (vU8 a) (vU8 b) (vU8 (a &&& b)) := fun P w ty x y => ⟨eqGuard_int .., by
  have h := back8 (a.toBitVec &&& b.toBitVec)
  simp only [binOp, Op.intBits, ne_eq, not_true_eq_false, if_false, bits8 a, bits8 b]
  exact congrArg (fun z => Result.ok (Value.int .u8 z) w) h⟩

/-! shifts by n, whatever the kind of the count -/
def shl32 (a : UInt32) (n : Nat) : UInt32 := UInt32.ofNat (a.toNat * 2 ^ (min n 32))
def shr32 (a : UInt32) (n : Nat) : UInt32 := UInt32.ofNat (a.toNat / 2 ^ (min n 32))
def shl64 (a : UInt64) (n : Nat) : UInt64 := UInt64.ofNat (a.toNat * 2 ^ (min n 64))
def shr64 (a : UInt64) (n : Nat) : UInt64 := UInt64.ofNat (a.toNat / 2 ^ (min n 64))
theorem fdiv_nat (a b : Nat) : Int.fdiv (a : Int) (b : Int) = ((a / b : Nat) : Int) := by
  rw [Int.fdiv_eq_ediv_of_nonneg _ (by omega)]
  rfl
theorem Bin.shl32 {a : UInt32} {k : IntKind} {n : Nat} : Bin .shl (vU32 a) (.int k (n : Int)) (vU32 (Go.Proofs.YtnpnmdbleopikaaDoor.shl32 a n)) := fun P w ty x y => ⟨eqGuard_int .., by
  have h : IntKind.u32.wrap ((a.toNat : Int) * 2 ^ (min n 32)) = ((Go.Proofs.YtnpnmdbleopikaaDoor.shl32 a n).toNat : Int) := by
    rw [wrap_u32]
    simp [Go.Proofs.YtnpnmdbleopikaaDoor.shl32]
  have h0 : ¬ ((n : Int) < 0) := by omega
  simp [binOp, Op.shift, h0, IntKind.bits, h]⟩
theorem Bin.shr32 {a : UInt32} {k : IntKind} {n : Nat} : Bin .shr (vU32 a) (.int k (n : Int)) (vU32 (Go.Proofs.YtnpnmdbleopikaaDoor.shr32 a n)) := fun P w ty x y => ⟨eqGuard_int .., by
  have h : Int.fdiv (a.toNat : Int) (2 ^ (min n 32)) = ((Go.Proofs.YtnpnmdbleopikaaDoor.shr32 a n).toNat : Int) := by
    have : ((2 : Int) ^ (min n 32)) = ((2 ^ (min n 32) : Nat) : Int) := by simp
    rw [this, fdiv_nat]
    have h1 : a.toNat / 2 ^ (min n 32) < 4294967296 := Nat.lt_of_le_of_lt (Nat.div_le_self _ _) a.toNat_lt
    simp only [Go.Proofs.YtnpnmdbleopikaaDoor.shr32, UInt32.toNat_ofNat']
    generalize a.toNat / 2 ^ (min n 32) = q at h1 ⊢
    rw [Nat.mod_eq_of_lt h1]
  have h0 : ¬ ((n : Int) < 0) := by omega
  simp [binOp, Op.shift, h0, IntKind.bits, h]⟩
theorem Bin.shl64 {a : UInt64} {k : IntKind} {n : Nat} : Bin .shl (vU64 a) (.int k (n : Int)) (vU64 (Go.Proofs.YtnpnmdbleopikaaDoor.shl64 a n)) := fun P w ty x y => ⟨eqGuard_int .., by
  have h : IntKind.u64.wrap ((a.toNat : Int) * 2 ^ (min n 64)) = ((Go.Proofs.YtnpnmdbleopikaaDoor.shl64 a n).toNat : Int) := by
    rw [wrap_u64]
    simp [Go.Proofs.YtnpnmdbleopikaaDoor.shl64]
  have h0 : ¬ ((n : Int) < 0) := by omega
  simp [binOp, Op.shift, h0, IntKind.bits, h]⟩
theorem Bin.shr64 {a : UInt64} {k : IntKind} {n : Nat} : Bin .shr (vU64 a) (.int k (n : Int)) (vU64 (Go.Proofs.YtnpnmdbleopikaaDoor.shr64 a n)) := fun P w ty x y => ⟨eqGuard_int .., by
  have h : Int.fdiv (a.toNat : Int) (2 ^ (min n 64)) = ((Go.Proofs.YtnpnmdbleopikaaDoor.shr64 a n).toNat : Int) := by
    have : ((2 : Int) ^ (min n 64)) = ((2 ^ (min n 64) : Nat) : Int) := by simp
    rw [this, fdiv_nat]
    have h1 : a.toNat / 2 ^ (min n 64) < 18446744073709551616 := Nat.lt_of_le_of_lt (Nat.div_le_self _ _) a.toNat_lt
    simp only [Go.Proofs.YtnpnmdbleopikaaDoor.shr64, UInt64.toNat_ofNat']
    generalize a.toNat / 2 ^ (min n 64) = q at h1 ⊢
    rw [Nat.mod_eq_of_lt h1]
  have h0 : ¬ ((n : Int) < 0) := by omega
  simp [binOp, Op.shift, h0, IntKind.bits, h]⟩
theorem Bin.shrI {a : Int} {k : IntKind} {n : Nat} (ha : 0 ≤ a) (hn : n ≤ 64) : Bin .shr (vI a) (.int k (n : Int)) (vI (a / 2 ^ n)) := fun P w ty x y => ⟨eqGuard_int .., by
  have h : Int.fdiv a (2 ^ (min n 64)) = a / 2 ^ n := by
    rw [Nat.min_eq_left hn, Int.fdiv_eq_ediv_of_nonneg _ (by exact Int.le_of_lt (Int.pow_pos (by omega)))]
  have h0 : ¬ ((n : Int) < 0) := by omega
  simp [binOp, Op.shift, h0, IntKind.bits, h]⟩
theorem Bin.divI {a b : Int} (ha : 0 ≤ a) (hb : 0 < b) (h2 : a ≤ 9223372036854775807) : Bin .quo (vI a) (vI b) (vI (a / b)) := fun P w ty x y => ⟨eqGuard_int .., by
  have h0 : b ≠ 0 := by omega
  have h3 : a / b ≤ a := Int.ediv_le_self b ha
  have h4 : 0 ≤ a / b := Int.ediv_nonneg ha (by omega)
  have h1 : IntKind.i64.wrap (a.tdiv b) = a / b := by
    rw [Int.tdiv_eq_ediv_of_nonneg ha]
    exact wrap_of (k := .i64) (by show (-9223372036854775808 : Int) ≤ _; omega) (by show _ ≤ (9223372036854775807 : Int); omega)
  simp [binOp, Op.intDiv, h0, h1]⟩
theorem Bin.modI {a b : Int} (ha : 0 ≤ a) (hb : 0 < b) : Bin .rem (vI a) (vI b) (vI (a % b)) := fun P w ty x y => ⟨eqGuard_int .., by
  have h0 : b ≠ 0 := by omega
  simp [binOp, Op.intDiv, h0, Int.tmod_eq_emod_of_nonneg ha]⟩
theorem Bin.mod64 {a b : UInt64} (hb : b ≠ 0) : Bin .rem (vU64 a) (vU64 b) (vU64 (a % b)) := fun P w ty x y => ⟨eqGuard_int .., by
  have h0 : ((b.toNat : Int)) ≠ 0 := by
    intro h
    have : b.toNat = 0 := by omega
    exact hb (UInt64.toNat_inj.1 this)
  have h1 : Int.tmod (a.toNat : Int) (b.toNat : Int) = ((a % b).toNat : Int) := by
    rw [Int.tmod_eq_emod_of_nonneg (by omega), UInt64.toNat_mod]
    rfl
  simp only [binOp, Op.intDiv, ne_eq, not_true_eq_false, if_false, h0, h1, Sem.run_pure]⟩

/-! texts -/
theorem Bin.cat {s t : List UInt8} (h : s.length + t.length ≤ 9223372036854775807) : Bin .add (vS s) (vS t) (vS (s ++ t)) := fun P w ty x y => ⟨eqGuard_str .., by
  have h1 : ¬ (((ByteArray.mk ⟨s⟩).size + (ByteArray.mk ⟨t⟩).size : Nat) : Int) > IntKind.i64.max := by
    show ¬ (((s.length + t.length : Nat) : Int) > 9223372036854775807)
    omega
  have h2 : (ByteArray.mk ⟨s⟩ ++ ByteArray.mk ⟨t⟩ : ByteArray) = ⟨⟨s ++ t⟩⟩ := by
    apply ByteArray.ext
    simp [ByteArray.data_append]
  simp only [binOp, Op.stringOp, if_neg h1, h2, Sem.run_pure]⟩
theorem toList_mk (s : List UInt8) : (ByteArray.mk ⟨s⟩).toList = s := by
  rw [ByteArray.toList_eq]
theorem Bin.eqS {s t : List UInt8} : Bin .eql (vS s) (vS t) (.bool (decide (s = t))) := fun P w ty x y => ⟨eqGuard_str .., by
  have h : (s == t) = decide (s = t) := by rw [Bool.eq_iff_iff]; simp
  simp only [binOp, Op.stringOp, toList_mk, Sem.run_pure, h]⟩
theorem Bin.neS {s t : List UInt8} : Bin .neq (vS s) (vS t) (.bool (!decide (s = t))) := fun P w ty x y => ⟨eqGuard_str .., by
  have h : (s == t) = decide (s = t) := by rw [Bool.eq_iff_iff]; simp
  simp only [binOp, Op.stringOp, toList_mk, Sem.run_pure, h]⟩
end Go.Proofs.YtnpnmdbleopikaaDoor
