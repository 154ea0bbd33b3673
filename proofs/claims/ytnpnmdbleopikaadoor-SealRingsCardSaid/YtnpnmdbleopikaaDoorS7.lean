/- The engine's operations of the library's texts: pointers held against nil, unsafe pointers, bytes and texts, capacities, external entries. Each under its own side conditions. -/
import Derived.Test.YtnpnmdbleopikaaDoorS6
import Derived.Lib.Builder
import Derived.Lib.UnsafeStr
import Derived.Lib.MakeNoZero
import Derived.Laws.Externs
import Derived.Laws.BytesString
import Derived.Laws.CopyRow
import Derived.Laws.MakeOwn
namespace Go.Proofs.YtnpnmdbleopikaaDoor
open Go

variable {P : Program} {ro : Option Nat} {K : Nat → Prop} {w0 : World} {N : Nat} {Q : Post} {D : List Nat} {l l' : Tm} {H H' Hs L : List Chunk} {ops : Array Oper} {items : Its}
variable {tk : Bool} {o : Oper} {t : Nat} {v : Value} {x y z : Operand}

/-! ### Pointers -/
theorem run_eql_ptr_nil (ty e : TypeId) (hty : P.underlying ty = some (.pointer e)) (p : Option Addr) (w : World) : (binOp .eql ty (.pointer p) (.pointer none)).run P w = .ok (.bool p.isNone) w := by
  have h : ∀ d, (Op.equalIn (d + 1) ty (.pointer p) (.pointer none)).run P w = .ok p.isNone w := by
    intro d
    cases p <;> simp [Op.equalIn, run_underlying hty]
  simp only [binOp]
  simp [Op.equal, Op.maxDepth, h 9999]
theorem SL.eqPN {ty uy e : TypeId} {p : Option Addr} (ho : At ops N l o t (.binOp .eql ty x y uy)) (hty : P.underlying ty = some (.pointer e)) (hx : evl l x = some (.pointer p)) (hy : evl l y = some (.pointer none))
    (h : SL P ro K w0 N ops Hs items Q D ((t, .bool p.isNone) :: l) H) : SL P ro K w0 N ops Hs (.cons (tk, o) items) Q D l H :=
  SL.val ho rfl (fun a w ha _ => by
    simp [execOp, ho.op, ha.eval hx, ha.eval hy, eqGuard, run_eql_ptr_nil ty e hty]) h
theorem SL.nePN {ty uy e : TypeId} {p : Option Addr} (ho : At ops N l o t (.binOp .neq ty x y uy)) (hty : P.underlying ty = some (.pointer e)) (hx : evl l x = some (.pointer p)) (hy : evl l y = some (.pointer none))
    (h : SL P ro K w0 N ops Hs items Q D ((t, .bool (!p.isNone)) :: l) H) : SL P ro K w0 N ops Hs (.cons (tk, o) items) Q D l H :=
  SL.val ho rfl (fun a w ha _ => by
    have h1 : ∀ d, (Op.equalIn (d + 1) ty (.pointer p) (.pointer none)).run P w = .ok p.isNone w := by
      intro d
      cases p <;> simp [Op.equalIn, run_underlying hty]
    simp only [execOp, ho.op, ha.eval hx, ha.eval hy, binOp]
    simp [eqGuard, Op.equal, Op.maxDepth, h1 9999]) h
theorem SL.nePP {ty uy e : TypeId} {p : Addr} {sz : Nat} (ho : At ops N l o t (.binOp .neq ty x y uy)) (hty : P.underlying ty = some (.pointer e)) (hsz : tsz P e = some sz) (hx : evl l x = some (.pointer (some p))) (hy : evl l y = some (.pointer (some p)))
    (h : SL P ro K w0 N ops Hs items Q D ((t, .bool false) :: l) H) : SL P ro K w0 N ops Hs (.cons (tk, o) items) Q D l H :=
  SL.val ho rfl (fun a w ha _ => by
    obtain ⟨j, hj⟩ : ∃ j, P.info? e = some j := by
      unfold tsz at hsz
      cases hi : P.info? e with
      | none => simp [hi] at hsz
      | some j => exact ⟨j, rfl⟩
    have := Lib.run_neq_ptr_same (P := P) w p hty hj
    simp [execOp, ho.op, ha.eval hx, ha.eval hy, eqGuard, this]) h
theorem shape_own {b : Nat} {c : Array Value} {e : TypeId} {z : Nat × Nat} {w : World} (h : w.heap[b]? = some (.cells c e z)) : w.shape? b = some (e, c.size) := by
  simp [World.shape?, h]
theorem SL.toU {src dst ty e : TypeId} {b off sz : Nat} {c : Array Value} {z : Nat × Nat} (i : Nat) (ho : At ops N l o t (.convert src dst x)) (hs : P.underlying src = some (.pointer ty)) (hd : P.underlying dst = some .unsafePointer) (hsz : tsz P ty = some sz) (hz : Nat.blt 0 sz = true)
    (hx : evl l x = some (vP b off)) (hi : (bif tk then Hs else H)[i]? = some (own b (.cells c e z))) (hoff : Nat.blt off c.size = true) (h : SL P ro K w0 N ops Hs items Q D ((t, vP b off) :: l) H) : SL P ro K w0 N ops Hs (.cons (tk, o) items) Q D l H :=
  SL.val ho rfl (fun a w ha hsw => by
    have hb : w.heap[b]? = some (.cells c e z) := hsw.holds _ (List.mem_of_getElem? hi)
    unfold tsz at hsz
    cases hi : P.info? ty with
    | none => simp [hi] at hsz
    | some j =>
      simp [hi] at hsz
      have := Lib.run_to_unsafe (P := P) w ⟨b, off, none⟩ hs hd hi (by rw [hsz]; have := blt_lt hz; omega) (shape_own hb) (blt_lt hoff)
      simp [execOp, ho.op, ha.eval hx, this]) h
theorem SL.frU {src dst u e : TypeId} {b off sz : Nat} {c : Array Value} {z : Nat × Nat} (i : Nat) (ho : At ops N l o t (.convert src dst x)) (hs : P.underlying src = some .unsafePointer) (hd : P.underlying dst = some (.pointer u)) (hsz : tsz P u = some sz)
    (hx : evl l x = some (vP b off)) (hi : (bif tk then Hs else H)[i]? = some (own b (.cells c e z))) (hlies : liesAt P P.depth e (c.size / P.cellsOf e) off u 1 = true) (h : SL P ro K w0 N ops Hs items Q D ((t, vP b off) :: l) H) : SL P ro K w0 N ops Hs (.cons (tk, o) items) Q D l H :=
  SL.val ho rfl (fun a w ha hsw => by
    have hb : w.heap[b]? = some (.cells c e z) := hsw.holds _ (List.mem_of_getElem? hi)
    unfold tsz at hsz
    cases hi : P.info? u with
    | none => simp [hi] at hsz
    | some j =>
      have := Lib.run_from_unsafe (P := P) w ⟨b, off, none⟩ hs hd hi (shape_own hb) hlies
      simp [execOp, ho.op, ha.eval hx, this]) h
/-- an external entry that only yields -/
theorem SL.extv {f : FuncId} {xs : Array Operand} {tys : Array TypeId} {vs : List Value} (ho : At ops N l o t (.call { callee := .value (.func f), args := xs, argTypes := tys })) (hv : evs l xs.toList vs)
    (hrun : ∀ w, (callFunc f vs.toArray).run P w = .ok (.value v) w) (h : SL P ro K w0 N ops Hs items Q D ((t, v) :: l) H) : SL P ro K w0 N ops Hs (.cons (tk, o) items) Q D l H :=
  SL.val ho rfl (fun a w ha _ => by
    have hargs : xs.map a.eval = vs.toArray := by
      apply Array.ext'
      simp [evs.eval ha hv]
    simp only [execOp, ho.op, resolve, Act.eval, Deferred.ofValue, Sem.run_bind, Sem.run_pure, Result.andThen_ok, invoke]
    simp [hargs]
    exact hrun w) h

/-! ### Bytes and texts -/
theorem bytes_fold : ∀ (s t : List UInt8), ((s.map fun b => ((b.toNat : Nat) : Int)).foldl (fun r n => r.push (UInt8.ofNat n.toNat)) (ByteArray.mk ⟨t⟩)) = ⟨⟨t ++ s⟩⟩
  | [], t => by simp
  | b :: s, t => by
    have h : (ByteArray.mk ⟨t⟩).push b = ⟨⟨t ++ [b]⟩⟩ := by
      apply ByteArray.ext
      simp [ByteArray.push]
    simp only [List.map_cons, List.foldl_cons, Int.toNat_natCast, UInt8.ofNat_toNat, h]
    rw [bytes_fold s (t ++ [b])]
    simp
theorem run_bts {src dst e : TypeId} (hs : P.underlying src = some (.slice e)) (he : P.underlying e = some (.int .u8)) (hd : P.underlying dst = some .string) {ad : Addr} {n c : Nat} {s : List UInt8} {w : World} (hn : s.length = n)
    (hc : ∀ j u, (s.map fun b => vU8 b)[j]? = some u → w.cell? (ad.add j) = some u) : (convert src dst (.slice (some ad) n c)).run P w = .ok (vS s) w := by
  rw [run_convert_bytes_string w src dst e (some ad) n c hs he hd]
  have hl := run_loadCells (P := P) hc
  rw [List.length_map, hn] at hl
  have hm : (s.map fun b => vU8 b) = (s.map fun b => ((b.toNat : Nat) : Int)).map (Value.int .u8) := by simp
  rw [hm] at hl
  rw [run_bytesToString w ad n c _ hl]
  have := bytes_fold s []
  simp only [List.nil_append] at this
  exact congrArg (fun b => Result.ok (Value.string b) w) this
theorem SL.bts {src dst e : TypeId} {ad : Addr} {n c : Nat} (s : List UInt8) (ho : At ops N l o t (.convert src dst x)) (hs : P.underlying src = some (.slice e)) (he : P.underlying e = some (.int .u8)) (hd : P.underlying dst = some .string) (hx : evl l x = some (.slice (some ad) n c)) (hn : s.length = n)
    (hc : ∀ w, HpS K w0 (bif tk then Hs else H) w → ∀ j u, (s.map fun b => vU8 b)[j]? = some u → w.cell? (ad.add j) = some u)
    (h : SL P ro K w0 N ops Hs items Q D ((t, vS s) :: l) H) : SL P ro K w0 N ops Hs (.cons (tk, o) items) Q D l H :=
  SL.val ho rfl (fun a w ha hsw => by simp [execOp, ho.op, ha.eval hx, run_bts hs he hd hn (hc w hsw)]) h
/-- .. of a row of the call's own -/
theorem SL.btsR {src dst e : TypeId} {n : Nat} {s : List UInt8} (i : Nat) (ho : At ops N l o t (.convert src dst x)) (hs : P.underlying src = some (.slice e)) (he : P.underlying e = some (.int .u8)) (hd : P.underlying dst = some .string) (hx : evl l x = some v)
    (hi : (bif tk then Hs else H)[i]? = some (rowC e 1 v n (s.map fun b => vU8 b)))
    (h : SL P ro K w0 N ops Hs items Q D ((t, vS s) :: l) H) : SL P ro K w0 N ops Hs (.cons (tk, o) items) Q D l H :=
  SL.val ho rfl (fun a w ha hsw => by
    have hrow : w.ownsRowF 0 e 1 v n (s.map fun b => vU8 b) := hsw.holds _ (List.mem_of_getElem? hi)
    have hlen : s.length = n := by simpa using hrow.1
    rcases hrow.2 with ⟨rfl, rfl⟩ | ⟨g, cap, cur, fz, rfl, _⟩
    · have : s = [] := List.length_eq_zero_iff.1 hlen
      subst this
      have h0 : (convert src dst (.slice none 0 0)).run P w = .ok (vS []) w := by
        rw [run_convert_bytes_string w src dst e none 0 0 hs he hd]
        simp [Conv.bytesToString]
        rfl
      simp [execOp, ho.op, ha.eval hx, h0]
    · simp [execOp, ho.op, ha.eval hx, run_bts hs he hd hlen (hrow.cells rfl)]) h
theorem SL.lenR {e ty : TypeId} {sz n : Nat} {xs : List Value} (i : Nat) (ho : At ops N l o t (.call { callee := .builtin .len, args := #[x], argTypes := #[ty] })) (hty : P.underlying ty = some (.slice e)) (hx : evl l x = some v)
    (hi : (bif tk then Hs else H)[i]? = some (rowC e sz v n xs)) (h : SL P ro K w0 N ops Hs items Q D ((t, vI n) :: l) H) : SL P ro K w0 N ops Hs (.cons (tk, o) items) Q D l H :=
  SL.val ho rfl (fun a w ha hsw => by
    have hrow : w.ownsRowF 0 e sz v n xs := hsw.holds _ (List.mem_of_getElem? hi)
    simp only [execOp, ho.op, resolve, invoke, builtin, Builtin.len_]
    rcases hrow.2 with ⟨rfl, rfl⟩ | ⟨g, cap, cur, fz, rfl, _⟩ <;> simp [ha.eval hx, run_underlying hty, goInt]) h
theorem SL.capL {b : Option Addr} {n c : Nat} {e ty : TypeId} (ho : At ops N l o t (.call { callee := .builtin .cap, args := #[x], argTypes := #[ty] })) (hty : P.underlying ty = some (.slice e)) (hx : evl l x = some (.slice b n c))
    (h : SL P ro K w0 N ops Hs items Q D ((t, vI c) :: l) H) : SL P ro K w0 N ops Hs (.cons (tk, o) items) Q D l H :=
  SL.val ho rfl (fun a w ha _ => by
    simp only [execOp, ho.op, resolve, invoke, builtin, Builtin.cap_]
    simp [ha.eval hx, run_underlying hty, goInt]) h
/-- the shape of a row's slice -/
theorem row_shape {e : TypeId} {sz n : Nat} {xs : List Value} {w : World} (h : (rowC e sz v n xs).holds w) : (v = .slice none 0 0 ∧ n = 0) ∨ ∃ g cap, v = .slice (some ⟨g, 0, none⟩) n cap ∧ n ≤ cap := by
  have hrow : w.ownsRowF 0 e sz v n xs := h
  rcases hrow.2 with hn | ⟨g, cap, cur, fz, rfl, _, _, _, hc, _⟩
  · exact .inl hn
  · exact .inr ⟨g, cap, rfl, hc⟩
theorem row_len {e : TypeId} {sz n : Nat} {xs : List Value} {w : World} (h : (rowC e sz v n xs).holds w) : xs.length = n * sz := (show w.ownsRowF 0 e sz v n xs from h).1

/-! ### strings.Builder's String: the bytes are frozen in the row -/
theorem SL.usdR {e pe : TypeId} {n : Nat} {xs : List Value} {tys : Array TypeId} (i : Nat) (ho : At ops N l o t (.call { callee := .builtin .unsafeSliceData, args := #[x], argTypes := tys })) (hty : P.underlying o.type = some (.pointer pe)) (hx : evl l x = some v)
    (hi : H[i]? = some (rowC e 1 v n xs)) (hs : SubI Hs H)
    (h : ∀ p, (0 < n → ∃ g cap, v = .slice (some ⟨g, 0, none⟩) n cap ∧ p = some ⟨g, 0, none⟩) → SL P ro K w0 N ops Hs items Q D ((t, .pointer p) :: l) H) : SL P ro K w0 N ops Hs (.cons (false, o) items) Q D l H := by
  intro a w ha hw hs0
  have hrow : w.ownsRowF 0 e 1 v n xs := hw.holds _ (List.mem_append_left _ (List.mem_of_getElem? hi))
  have key : ∃ p w', (Builtin.unsafeSliceData_ tys o.type #[v]).run P w = .ok (.pointer p) w' ∧ HpOk K w0 (H ++ [marks D]) w' ∧ (0 < n → ∃ g cap, v = .slice (some ⟨g, 0, none⟩) n cap ∧ p = some ⟨g, 0, none⟩) := by
    rcases hrow.2 with ⟨rfl, rfl⟩ | ⟨g, cap, cur, fz, rfl, _, hg, _, hc, _⟩
    · exact ⟨none, w, Lib.run_unsafeSliceData_nil w tys o.type 0 0, hw, fun h => absurd h (by omega)⟩
    · by_cases hcap : cap = 0
      · subst hcap
        refine ⟨_, _, Lib.run_unsafeSliceData_zero w tys o.type pe hty ⟨g, 0, none⟩ n _ (shape_own hg), ?_, fun h => absurd h (by omega)⟩
        exact (hw.alloc _).sublist (List.sublist_cons_self _ _)
      · exact ⟨_, w, Lib.run_unsafeSliceData_row w tys o.type ⟨g, 0, none⟩ n cap hcap, hw, fun _ => ⟨g, cap, rfl, rfl⟩⟩
  obtain ⟨p, w', hrun, hw', hp⟩ := key
  have hw1 := wtd_wanted ho.wt ha.vals
  simp only [PL, hw1, if_true]
  refine ow_value (by rw [ho.op]; exact isDefer_ne rfl) (v := .pointer p) (w' := w') ?_ ⟨hs.hs hw', h p hp _ w' (by rw [ho.dst]; exact ha.put (blt_lt ho.lt) _) hw' (hs.hs hw')⟩
  unfold execOp
  simp only [ho.op, resolve, invoke, builtin, Sem.run_bind, Sem.run_pure, Result.andThen_ok, List.map_toArray, List.map_cons, List.map_nil, ha.vals.eval hx, hrun]
theorem SL.ustR {e pt it : TypeId} {n : Nat} {s : List UInt8} {p : Option Addr} (i : Nat) (ho : At ops N l o t (.call { callee := .builtin .unsafeString, args := #[x, y], argTypes := #[pt, it] })) (hpt : P.underlying pt = some (.pointer e)) (hce : P.cellsOf e = 1) (hx : evl l x = some (.pointer p)) (hy : evl l y = some (vI n))
    (hp : 0 < n → ∃ g cap, v = .slice (some ⟨g, 0, none⟩) n cap ∧ p = some ⟨g, 0, none⟩)
    (hi : H[i]? = some (rowC e 1 v n (s.map fun b => vU8 b))) (h63 : n ≤ 9223372036854775807) (hs : SubI Hs H)
    (h : SL P ro K w0 N ops Hs items Q D ((t, vS s) :: l) H) : SL P ro K w0 N ops Hs (.cons (false, o) items) Q D l H := by
  intro a w ha hw hs0
  have hrow : w.ownsRowF 0 e 1 v n (s.map fun b => vU8 b) := hw.holds _ (List.mem_append_left _ (List.mem_of_getElem? hi))
  have hlen : s.length = n := by simpa using hrow.1
  have key : ∃ w', (Builtin.unsafeString_ #[pt, it] o.type #[.pointer p, vI n]).run P w = .ok (vS s) w' ∧ HpOk K w0 (H ++ [marks D]) w' := by
    by_cases hn : n = 0
    · have : s = [] := List.length_eq_zero_iff.1 (by omega)
      subst this
      subst hn
      exact ⟨w, Lib.run_unsafeString_none w pt it o.type p, hw⟩
    · obtain ⟨g, cap, rfl, rfl⟩ := hp (by omega)
      rcases hrow.2 with ⟨h0, _⟩ | ⟨g', cap', cur, fz, he, _, hg, hfz, hc, hcm, hcs, htk⟩
      · cases h0
      · obtain ⟨rfl, rfl⟩ : g = g' ∧ cap = cap' := by simpa using he
        have hsne : s ≠ [] := by intro e; subst e; simp at hlen; omega
        have hcell : ∀ j u, s[j]? = some u → w.cell? ((⟨g, 0, none⟩ : Addr).add j) = some (.int .u8 u.toNat) := fun j u hu => hrow.cells (g := g) rfl j (vU8 u) (by simp [hu])
        refine ⟨w.freeze ⟨g, 0, none⟩ s.length, ?_, ?_⟩
        · have := Lib.run_unsafeString_row (P := P) w pt it o.type e hpt hce g cur.size (shape_own hg) s hsne (by omega) (by omega) hcell
          have e2 : (s.length : Int) = (n : Int) := by rw [hlen]
          rw [e2] at this
          exact this
        · have hfr : w.freeze ⟨g, 0, none⟩ s.length = w.putObj g (.cells cur e (if fz.1 == fz.2 then (0, s.length) else (min fz.1 0, max fz.2 s.length))) := by
            obtain ⟨hlt, hget⟩ := Array.getElem?_eq_some_iff.1 hg
            unfold World.freeze World.putObj
            rw [if_neg (by omega)]
            congr 1
            apply Array.ext_getElem?
            intro k
            rw [Array.getElem?_modify, Array.getElem?_setIfInBounds]
            by_cases hk : g = k
            · subst hk
              simp [hlt, hget]
            · simp [hk]
          rw [hfr]
          obtain ⟨hlt, hget⟩ := Array.getElem?_eq_some_iff.1 hg
          have hset : H.set i (rowC e 1 (.slice (some ⟨g, 0, none⟩) n cap) n (s.map fun b => vU8 b)) = H := by
            obtain ⟨hl, hgi⟩ := List.getElem?_eq_some_iff.1 hi
            rw [← hgi]
            exact List.set_getElem_self hl
          have := hw.turnAt (w' := w.putObj g (.cells cur e (if fz.1 == fz.2 then (0, s.length) else (min fz.1 0, max fz.2 s.length)))) (d := rowC e 1 (.slice (some ⟨g, 0, none⟩) n cap) n (s.map fun b => vU8 b)) i hi rfl rfl rfl (by simp)
            (fun b hb hne => World.putObj_heap_other (fun e => hne (by subst e; rfl))) ⟨hrow.1, .inr ⟨g, cap, cur, _, rfl, Nat.zero_le _, World.putObj_heap_same hlt, ?_, hc, hcm, hcs, htk⟩⟩ (fun b hb => ⟨.inl hb, ?_⟩)
          · rw [hset] at this
            exact this
          · split
            · simp; omega
            · show max fz.2 s.length ≤ n * 1
              omega
          · have : b = g := by
              have hb' : (some g : Option Nat) = some b := hb
              simp at hb'
              exact hb'.symm
            subst this
            simp [hlt]
  obtain ⟨w', hrun, hw'⟩ := key
  have hw1 := wtd_wanted ho.wt ha.vals
  simp only [PL, hw1, if_true]
  refine ow_value (by rw [ho.op]; exact isDefer_ne rfl) (v := vS s) (w' := w') ?_ ⟨hs.hs hw', h _ w' (by rw [ho.dst]; exact ha.put (blt_lt ho.lt) _) hw' (hs.hs hw')⟩
  unfold execOp
  simp only [ho.op, resolve, invoke, builtin, Sem.run_bind, Sem.run_pure, Result.andThen_ok, List.map_toArray, List.map_cons, List.map_nil, ha.vals.eval hx, ha.vals.eval hy, hrun]

/-! ### Regions that draw, the static chunks by number -/
def sel (is : List Nat) (H : List Chunk) : List Chunk := is.filterMap (H[·]?)
theorem SX.drawI {id : Nat} {ops : Array Oper} (hm : P.follows .mixedOrders = true) (is : List Nat) (plan : Pl) (hp : allPlan ops plan = true)
    (h : SL P ro K w0 N ops (sel is H) (planOps ops plan) Q D l H) : SX P ro K w0 N (.region id ops true) Q D l H :=
  SX.draw hm (sel is H) plan hp (fun c hc => by
    obtain ⟨i, _, hi⟩ := List.mem_filterMap.1 hc
    exact List.mem_of_getElem? hi) h
/-- two forms at once -/
theorem SX.sr {id : Nat} {ops : Array Oper} {y : Code} (h : SL P ro K w0 N ops [] (Its.all ops.toList) (thn P ro y Q) D l H) : SX P ro K w0 N (.seq (.region id ops false) y) Q D l H :=
  SX.seq (SX.region h)
theorem SL.nx {c : Code} (h : SX P ro K w0 N c Q D l H) : SL P ro K w0 N ops Hs .nil (thn P ro c Q) D l H := SL.nil h
end Go.Proofs.YtnpnmdbleopikaaDoor
