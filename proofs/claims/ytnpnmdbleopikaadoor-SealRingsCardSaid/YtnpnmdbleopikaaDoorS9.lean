/- The engine's literals of structs and arrays, and results that lie in memory. No condition beyond those stated. -/
import Derived.Test.YtnpnmdbleopikaaDoorS8
namespace Go.Proofs.YtnpnmdbleopikaaDoor
open Go

variable {P : Program} {ro : Option Nat} {K : Nat → Prop} {w0 : World} {N : Nat} {Q : Post} {D : List Nat} {l l' : Tm} {H H' Hs L : List Chunk} {ops : Array Oper} {items : Its}
variable {tk : Bool} {o : Oper} {t : Nat} {v : Value} {x y z : Operand}

/-- the places of a struct's fields, or of an array's elements: offset, size -/
def plc (P : Program) (ty : TypeId) : Option (List (Nat × Nat)) :=
  match P.underlying ty with
  | some (.struct fs) => some (fs.toList.map fun f => (f.offset, ((P.info? f.type).map (·.size)).getD 0))
  | some (.array n e) => some ((List.range' 0 n).map fun i => (i * ((P.info? e).map (·.size)).getD 0, ((P.info? e).map (·.size)).getD 0))
  | _ => none
/-- 'Instr.fill' by stores -/
def fillL (pl : List (Nat × Nat)) : Array Value → List (Nat × Value) → Option (Array Value)
  | c, [] => some c
  | c, (i, v) :: r =>
    match pl[i]? with
    | none => none
    | some (off, size) => bif Nat.beq v.cells.size size && Nat.ble (off + v.cells.size) c.size then fillL pl (setL c off v.cells.toList) r else none
theorem fill_fillL (place : Nat → Option (Nat × Nat)) (pl : List (Nat × Nat)) (hp : ∀ i p, pl[i]? = some p → place i = some p) : ∀ (vs : List (Nat × Value)) (c r : Array Value), fillL pl c vs = some r → Instr.fill place c vs = some r
  | [], c, r, h => by simpa [fillL, Instr.fill] using h
  | (i, v) :: vs, c, r, h => by
    simp only [fillL] at h
    cases hi : pl[i]? with
    | none => simp [hi] at h
    | some p =>
      obtain ⟨off, size⟩ := p
      simp only [hi] at h
      cases hb : Nat.beq v.cells.size size && Nat.ble (off + v.cells.size) c.size with
      | false => simp [hb] at h
      | true =>
        simp only [hb, cond_true] at h
        simp only [Bool.and_eq_true] at hb
        have hb1 : v.cells.size = size := Nat.eq_of_beq_eq_true hb.1
        have hb2 := Nat.le_of_ble_eq_true hb.2
        simp only [Instr.fill, hp i _ hi]
        rw [if_neg (by simp; omega)]
        have e : (v.cells.zipIdx.foldl (fun cs (c, j) => cs.setIfInBounds (off + j) c) c) = setL c off v.cells.toList := by
          rw [← Array.foldl_toList, Array.toList_zipIdx]
          exact foldl_zipIdx v.cells.toList 0 off c
        rw [e]
        exact fill_fillL place pl hp vs _ r h
theorem run_mapM_places (fs : List Field) (w : World) (h : ∀ f ∈ fs, (P.info? f.type).isSome = true) :
    (fs.mapM fun f => do pure (f.offset, ← sizeOf f.type) : Sem (List (Nat × Nat))).run P w = .ok (fs.map fun f => (f.offset, ((P.info? f.type).map (·.size)).getD 0)) w := by
  induction fs with
  | nil => simp
  | cons f r ih =>
    obtain ⟨i, hi⟩ := Option.isSome_iff_exists.1 (h f (List.mem_cons_self ..))
    have ih' := ih (fun g hg => h g (List.mem_cons_of_mem _ hg))
    have hs : (sizeOf f.type).run P w = .ok i.size w := run_sizeOf (by simp [tsz, hi]) w
    rw [List.mapM_cons]
    simp only [Sem.run_bind, hs, Result.andThen_ok, Sem.run_pure, ih', List.map_cons, hi, Option.map_some, Option.getD_some]
def plk (P : Program) (ty : TypeId) : Bool :=
  match P.underlying ty with
  | some (.struct fs) => fs.toList.all fun f => (P.info? f.type).isSome
  | some (.array _ e) => (P.info? e).isSome
  | _ => false
theorem run_build {ty : TypeId} {pl : List (Nat × Nat)} {zv : Value} {vs : Array (Nat × Value)} {r : Array Value} (hp : plc P ty = some pl) (hk : plk P ty = true) (hz : zer P ty = some zv) (hf : fillL pl zv.cells vs.toList = some r) (w : World) : (Instr.build ty vs).run P w = .ok (.agg r) w := by
  unfold plc at hp; unfold plk at hk
  cases hu : P.underlying ty with
  | none => simp [hu] at hp
  | some d =>
    cases d with
    | struct fs =>
      simp only [hu] at hp hk
      obtain rfl := Option.some.inj hp
      have hm := run_mapM_places (P := P) fs.toList w (List.all_eq_true.1 hk)
      have hfill := fill_fillL (fun i => ((fs.toList.map fun f => (f.offset, ((P.info? f.type).map (·.size)).getD 0)).toArray)[i]?) _ (fun i p h => by simpa using h) vs.toList zv.cells r hf
      have hma : (fs.mapM fun f => do pure (f.offset, ← sizeOf f.type) : Sem (Array (Nat × Nat))).run P w = .ok (fs.toList.map fun f => (f.offset, ((P.info? f.type).map (·.size)).getD 0)).toArray w := by
        rw [Array.mapM_eq_mapM_toList]
        simp only [Sem.run_map, hm, Result.andThen_ok]
      simp only [Instr.build, Sem.run_bind, run_zero hz, Result.andThen_ok, run_underlying hu, hma]
      rw [hfill]
      rfl
    | array n e =>
      simp only [hu] at hp hk
      obtain ⟨i, hi⟩ := Option.isSome_iff_exists.1 hk
      simp only [hi, Option.map_some, Option.getD_some] at hp
      obtain rfl := Option.some.inj hp
      have hfill := fill_fillL (fun k => some (k * i.size, i.size)) _ (fun k p h => by
        rw [List.getElem?_map] at h
        cases hr : (List.range' 0 n)[k]? with
        | none => simp [hr] at h
        | some q =>
          have : q = k := by
            obtain ⟨h1, h2⟩ := List.getElem?_eq_some_iff.1 hr
            simpa using h2.symm
          subst this
          simpa [hr] using h) vs.toList zv.cells r hf
      have hsz : (sizeOf e).run P w = .ok i.size w := run_sizeOf (by simp [tsz, hi]) w
      simp only [Instr.build, Sem.run_bind, run_zero hz, Result.andThen_ok, run_underlying hu, hsz]
      rw [hfill]
      rfl
    | _ => simp only [hu] at hp; cases hp
/-- a struct's or an array's literal -/
theorem SL.bld {ty : TypeId} {parts : Array (Nat × Operand)} {pl : List (Nat × Nat)} {zv : Value} {r : Array Value} (vs : List Value) (ho : At ops N l o t (.build ty parts)) (hp : plc P ty = some pl) (hk : plk P ty = true) (hz : zer P ty = some zv)
    (hv : evs l (parts.toList.map (·.2)) vs) (hf : fillL pl zv.cells ((parts.toList.map (·.1)).zip vs) = some r) (h : SL P ro K w0 N ops Hs items Q D ((t, .agg r) :: l) H) : SL P ro K w0 N ops Hs (.cons (tk, o) items) Q D l H :=
  SL.val ho rfl (fun a w ha _ => by
    have hev := evs.eval ha hv
    have hparts : (parts.map fun (i, x) => (i, a.eval x)).toList = (parts.toList.map (·.1)).zip vs := by
      rw [Array.toList_map, zip_parts, hev]
    have := run_build (P := P) (vs := parts.map fun (i, x) => (i, a.eval x)) hp hk hz (by rw [hparts]; exact hf) w
    simp [execOp, ho.op, this]) h

/-! ### Results that lie in memory -/
def resv (P : Program) (K : Nat → Prop) (w0 : World) (H : List Chunk) (l : Tm) : ResultVar → Value → Prop
  | .tmp t, v => look l t = some v
  | .cell t ty, v => ∃ ad, look l t = some (.pointer (some ad)) ∧ ∀ w, HpS K w0 H w → (loadVar ty ad).run P w = .ok v w
theorem run_loadVar_agg {ad : Addr} {ty : TypeId} {n : Nat} {cs : List Value} {w : World} (hs : agz P ty = some n) (hn : cs.length = n) (hc : ∀ j u, cs[j]? = some u → w.cell? (ad.add j) = some u) : (loadVar ty ad).run P w = .ok (.agg cs.toArray) w := by
  obtain ⟨h1, h2⟩ := agz_spec hs w
  subst hn
  simp [loadVar, h1, run_sizeOf h2, run_loadCells hc]
theorem run_loadVar_sc {ad : Addr} {ty : TypeId} {w : World} (hs : scl P ty = true) (hc : w.cell? ad = some v) : (loadVar ty ad).run P w = .ok v w := by
  simp [loadVar, (scl_spec hs w).1, hc]
theorem resv.ag {u : Nat} {b off n : Nat} {ty e : TypeId} {z : Nat × Nat} {c : Array Value} (i : Nat) (cs : List Value) (hs : agz P ty = some n) (hn : cs.length = n) (hl : look l u = some (vP b off)) (hi : H[i]? = some (own b (.cells c e z))) (hc : (c.toList.drop off).take n = cs) : resv P K w0 H l (.cell u ty) (.agg cs.toArray) := by
  refine ⟨_, hl, fun w hw => run_loadVar_agg hs hn (cells_own i hi (fun j u hu => ?_) w hw)⟩
  rw [← hc, List.getElem?_take] at hu
  split at hu
  · rw [List.getElem?_drop] at hu
    simpa using hu
  · cases hu
theorem resv.sc {u : Nat} {b off : Nat} {ty e : TypeId} {z : Nat × Nat} {c : Array Value} (i : Nat) (hs : scl P ty = true) (hl : look l u = some (vP b off)) (hi : H[i]? = some (own b (.cells c e z))) (hc : c[off]? = some v) : resv P K w0 H l (.cell u ty) v :=
  ⟨_, hl, fun w hw => run_loadVar_sc hs (cell_own i hi hc w hw)⟩
theorem run_resv {a : Act} {w : World} {r : ResultVar} (ha : Vals l a) (hw : HpS K w0 H w) (h : resv P K w0 H l r v) : (match r with | .tmp t => pure (a.tmps.getD t undef) | .cell t ty => do loadVar ty (← asAddr (a.tmps.getD t undef)) : Sem Value).run P w = .ok v w := by
  cases r with
  | tmp t => have := vals_getD ha h; simp [← this]
  | cell t ty =>
    obtain ⟨ad, hl, hr⟩ := h
    have := vals_getD ha hl
    simp only [this]
    simp [asAddr, hr w hw]
theorem mapM2 {f : ResultVar → Sem Value} {r r' : ResultVar} {v v' : Value} {w : World} (h : (f r).run P w = .ok v w) (h' : (f r').run P w = .ok v' w) : (#[r, r'].mapM f).run P w = .ok #[v, v'] w := by
  simp [h, h']
theorem mapM3 {f : ResultVar → Sem Value} {r r' r'' : ResultVar} {v v' v'' : Value} {w : World} (h : (f r).run P w = .ok v w) (h' : (f r').run P w = .ok v' w) (h'' : (f r'').run P w = .ok v'' w) : (#[r, r', r''].mapM f).run P w = .ok #[v, v', v''] w := by
  simp [h, h', h'']
theorem resv1 {fn : Func} {r : ResultVar} {v : Value} (hr : fn.results = #[r]) (h : resv P K w0 H l r v) : ∀ a w, Vals l a → HpS K w0 H w → (results fn a.tmps).run P w = .ok v w := by
  intro a w ha hw
  have h1 := run_resv ha hw h
  cases r with
  | tmp t => simp only [results, hr]; simpa using h1
  | cell t ty => simp only [results, hr]; simpa using h1
theorem resv2 {fn : Func} {r r' : ResultVar} {v v' : Value} (hr : fn.results = #[r, r']) (h : resv P K w0 H l r v) (h' : resv P K w0 H l r' v') : ∀ a w, Vals l a → HpS K w0 H w → (results fn a.tmps).run P w = .ok (.tuple #[v, v']) w := by
  intro a w ha hw
  simp only [results, hr, Sem.run_bind]
  rw [mapM2 (v := v) (v' := v')]
  · simp
  · cases r <;> exact run_resv ha hw h
  · cases r' <;> exact run_resv ha hw h'
theorem resv3 {fn : Func} {r r' r'' : ResultVar} {v v' v'' : Value} (hr : fn.results = #[r, r', r'']) (h : resv P K w0 H l r v) (h' : resv P K w0 H l r' v') (h'' : resv P K w0 H l r'' v'') : ∀ a w, Vals l a → HpS K w0 H w → (results fn a.tmps).run P w = .ok (.tuple #[v, v', v'']) w := by
  intro a w ha hw
  simp only [results, hr, Sem.run_bind]
  rw [mapM3 (v := v) (v' := v') (v'' := v'')]
  · simp
  · cases r <;> exact run_resv ha hw h
  · cases r' <;> exact run_resv ha hw h'
  · cases r'' <;> exact run_resv ha hw h''
end Go.Proofs.YtnpnmdbleopikaaDoor
