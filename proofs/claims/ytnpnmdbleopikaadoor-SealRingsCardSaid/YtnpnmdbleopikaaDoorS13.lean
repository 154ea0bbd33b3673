/- The engine's comparison of flat structs. No condition beyond those stated. -/
import Derived.Test.YtnpnmdbleopikaaDoorS12
import Derived.Laws.StructEq
namespace Go.Proofs.YtnpnmdbleopikaaDoor
open Go

variable {P : Program} {ro : Option Nat} {K : Nat → Prop} {w0 : World} {N : Nat} {Q : Post} {D : List Nat} {l l' : Tm} {H H' Hs L : List Chunk} {ops : Array Oper} {items : Its}
variable {tk : Bool} {o : Oper} {t : Nat} {v : Value} {x y z : Operand}

/-- a field's place and kind, where it is a number, a text or a bool -/
def fltF (P : Program) (f : Field) : Option (Nat × TypeDesc) :=
  if f.name = "_" then none
  else match P.underlying f.type with
    | some (.int k) => some (f.offset, .int k)
    | some .string => some (f.offset, .string)
    | some .bool => some (f.offset, .bool)
    | _ => none
def fltL (P : Program) : List Field → Option (List (Nat × TypeDesc))
  | [] => some []
  | f :: r => match fltF P f, fltL P r with
    | some a, some b => some (a :: b)
    | _, _ => none
/-- a flat struct's fields -/
def flt (P : Program) (t : TypeId) : Option (List (Nat × TypeDesc)) :=
  match P.underlying t with
  | some (.struct fs) => if P.stoodInHeld t || P.eqGuardType P.depth t then none else fltL P fs.toList
  | _ => none
def eqV : TypeDesc → Value → Value → Option Bool
  | .int _, .int k a, .int k' b => if k = k' then some (a == b) else none
  | .string, .string a, .string b => some (a.toList == b.toList)
  | .bool, .bool a, .bool b => some (a == b)
  | _, _, _ => none
def flatE : List (Nat × TypeDesc) → Array Value → Array Value → Option Bool
  | [], _, _ => some true
  | (i, d) :: r, xs, ys =>
    match xs[i]?, ys[i]? with
    | some a, some b => match eqV d a b, flatE r xs ys with
      | some p, some q => some (p && q)
      | _, _ => none
    | _, _ => none
theorem run_eqFields (d : Nat) (xs ys : Array Value) (w : World) : ∀ (fs : List Field) (fl : List (Nat × TypeDesc)) (b : Bool), fltL P fs = some fl → flatE fl xs ys = some b → (Op.eqFields (d + 1) xs ys fs).run P w = .ok b w
  | [], fl, b, h1, h2 => by
    simp only [fltL, Option.some.injEq] at h1
    subst h1
    simp only [flatE, Option.some.injEq] at h2
    subst h2
    simp [Op.eqFields]
  | f :: r, fl, b, h1, h2 => by
    simp only [fltL] at h1
    split at h1
    · rename_i a rl hf hr
      simp only [Option.some.injEq] at h1
      subst h1
      obtain ⟨i, ds⟩ := a
      simp only [flatE] at h2
      split at h2
      · rename_i va vb hva hvb
        split at h2
        · rename_i p q hp hq
          simp only [Option.some.injEq] at h2
          subst h2
          have ih := run_eqFields d xs ys w r rl q hr hq
          unfold fltF at hf
          split at hf
          · cases hf
          · rename_i hname
            have key : ∀ (hof : f.offset = i) (hag : (isAgg f.type).run P w = .ok false w) (he : (Op.equalIn (d + 1) f.type va vb).run P w = .ok p w), (Op.eqFields (d + 1) xs ys (f :: r)).run P w = .ok (p && q) w := by
              intro hof hag he
              simp only [Op.eqFields, ne_eq, hname, not_false_eq_true, if_true, Sem.run_bind]
              have h3 : (part f.type xs f.offset).run P w = .ok va w := by simp [part, hag, hof, hva]
              have h4 : (part f.type ys f.offset).run P w = .ok vb w := by simp [part, hag, hof, hvb]
              simp only [h3, h4, he, Result.andThen_ok]
              cases p with
              | true => simpa using ih
              | false => simp
            split at hf
            · rename_i k hu
              simp only [Option.some.injEq, Prod.mk.injEq] at hf
              obtain ⟨hof, rfl⟩ := hf
              refine key hof (by simp [isAgg, run_underlying hu]) ?_
              unfold eqV at hp
              split at hp
              · rename_i a' b' c' d' e'
                split at hp
                · rename_i hkk
                  simp only [Option.some.injEq] at hp
                  subst hp; subst hkk
                  exact run_equalIn_int w d f.type _ k _ _ hu
                · cases hp
              · rename_i hh; cases hh
              · rename_i hh; cases hh
              · cases hp
            · rename_i hu
              simp only [Option.some.injEq, Prod.mk.injEq] at hf
              obtain ⟨hof, rfl⟩ := hf
              refine key hof (by simp [isAgg, run_underlying hu]) ?_
              unfold eqV at hp
              split at hp
              · rename_i hh; cases hh
              · simp only [Option.some.injEq] at hp
                subst hp
                exact run_equalIn_string w d f.type _ _ hu
              · rename_i hh; cases hh
              · cases hp
            · rename_i hu
              simp only [Option.some.injEq, Prod.mk.injEq] at hf
              obtain ⟨hof, rfl⟩ := hf
              refine key hof (by simp [isAgg, run_underlying hu]) ?_
              unfold eqV at hp
              split at hp
              · rename_i hh; cases hh
              · rename_i hh; cases hh
              · simp only [Option.some.injEq] at hp
                subst hp
                exact run_equalIn_bool' w d f.type _ _ hu
              · cases hp
            · cases hf
        · cases h2
      · cases h2
    · cases h1
theorem flt_run {ty : TypeId} {fl : List (Nat × TypeDesc)} {xs ys : Array Value} {b : Bool} (hf : flt P ty = some fl) (he : flatE fl xs ys = some b) (w : World) :
    (∀ op x y, (eqGuard op ty x y (.agg xs) (.agg ys)).run P w = .ok () w) ∧ (Op.equalIn 10000 ty (.agg xs) (.agg ys)).run P w = .ok b w := by
  unfold flt at hf
  split at hf
  · rename_i fs hu
    split at hf
    · cases hf
    · rename_i hg
      simp only [Bool.not_eq_true, Bool.or_eq_false_iff] at hg
      have hfo : P.fieldsOf ty = fs := by simp [Program.fieldsOf, hu]
      refine ⟨fun op x y => run_eqGuard_agg w op ty x y xs ys hg.2, ?_⟩
      rw [run_equalIn_agg w 9999 ty xs ys (by rw [hfo]; exact hu) hg.1, hfo]
      exact run_eqFields 9998 xs ys w fs.toList fl b hf he
  · cases hf
theorem SL.eqAgg {ty uy : TypeId} {fl : List (Nat × TypeDesc)} {xs ys : Array Value} {b : Bool} (ho : At ops N l o t (.binOp .eql ty x y uy)) (hf : flt P ty = some fl) (hx : evl l x = some (.agg xs)) (hy : evl l y = some (.agg ys)) (he : flatE fl xs ys = some b)
    (h : SL P ro K w0 N ops Hs items Q D ((t, .bool b) :: l) H) : SL P ro K w0 N ops Hs (.cons (tk, o) items) Q D l H :=
  SL.val ho rfl (fun a w ha _ => by
    obtain ⟨h1, h2⟩ := flt_run hf he w
    simp [execOp, ho.op, ha.eval hx, ha.eval hy, h1, run_eql_struct, h2]) h
theorem SL.neAgg {ty uy : TypeId} {fl : List (Nat × TypeDesc)} {xs ys : Array Value} {b : Bool} (ho : At ops N l o t (.binOp .neq ty x y uy)) (hf : flt P ty = some fl) (hx : evl l x = some (.agg xs)) (hy : evl l y = some (.agg ys)) (he : flatE fl xs ys = some b)
    (h : SL P ro K w0 N ops Hs items Q D ((t, .bool (!b)) :: l) H) : SL P ro K w0 N ops Hs (.cons (tk, o) items) Q D l H :=
  SL.val ho rfl (fun a w ha _ => by
    obtain ⟨h1, h2⟩ := flt_run hf he w
    simp [execOp, ho.op, ha.eval hx, ha.eval hy, h1, run_neq_struct, h2]) h
/-- texts that are the same -/
theorem Bin.sameS {s : List UInt8} : Bin .eql (vS s) (vS s) (.bool true) := fun P w ty x y => by
  have := Bin.eqS (s := s) (t := s) P w ty x y
  simpa using this
end Go.Proofs.YtnpnmdbleopikaaDoor
