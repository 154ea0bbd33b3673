/- The engine's rows: shapes, cells, slices of them, makes, appends with room, copies. Each under its own bounds. -/
import Derived.Test.YtnpnmdbleopikaaDoorS10
namespace Go.Proofs.YtnpnmdbleopikaaDoor
open Go

variable {P : Program} {ro : Option Nat} {K : Nat → Prop} {w0 : World} {N : Nat} {Q : Post} {D : List Nat} {l l' : Tm} {H H' Hs L : List Chunk} {ops : Array Oper} {items : Its}
variable {tk : Bool} {o : Oper} {t : Nat} {v : Value} {x y z : Operand}

/-- the shape of a row that has elements -/
theorem SL.shape {e : TypeId} {sz n : Nat} {xs : List Value} (i : Nat) (hi : H[i]? = some (rowC e sz v n xs)) (hn : 0 < n)
    (h : ∀ g cap, v = .slice (some ⟨g, 0, none⟩) n cap → n ≤ cap → xs.length = n * sz → SL P ro K w0 N ops Hs items Q D l H) : SL P ro K w0 N ops Hs items Q D l H :=
  fun a w ha hw hs => by
    have hr := hw.holds _ (List.mem_append_left _ (List.mem_of_getElem? hi))
    rcases row_shape hr with ⟨rfl, h0⟩ | ⟨g, cap, he, hc⟩
    · omega
    · exact h g cap he hc (row_len hr) a w ha hw hs
theorem SX.shape {c : Code} {e : TypeId} {sz n : Nat} {xs : List Value} (i : Nat) (hi : H[i]? = some (rowC e sz v n xs)) (hn : 0 < n)
    (h : ∀ g cap, v = .slice (some ⟨g, 0, none⟩) n cap → n ≤ cap → xs.length = n * sz → SX P ro K w0 N c Q D l H) : SX P ro K w0 N c Q D l H :=
  fun a w ha hw => by
    have hr := hw.holds _ (List.mem_append_left _ (List.mem_of_getElem? hi))
    rcases row_shape hr with ⟨rfl, h0⟩ | ⟨g, cap, he, hc⟩
    · omega
    · exact h g cap he hc (row_len hr) a w ha hw
theorem cell_row {e : TypeId} {sz n g cap off : Nat} {xs : List Value} (i : Nat) (hi : L[i]? = some (rowC e sz (.slice (some ⟨g, 0, none⟩) n cap) n xs)) (hx : xs[off]? = some v) : ∀ w, HpS K w0 L w → w.cell? ⟨g, off, none⟩ = some v := by
  intro w hs
  have hrow : w.ownsRowF 0 e sz (.slice (some ⟨g, 0, none⟩) n cap) n xs := hs.holds _ (List.mem_of_getElem? hi)
  have := hrow.cells (g := g) rfl off v hx
  rw [Addr.add_mk] at this
  simpa using this
theorem cells_row {e : TypeId} {sz n g cap off : Nat} {xs cs : List Value} (i : Nat) (hi : L[i]? = some (rowC e sz (.slice (some ⟨g, 0, none⟩) n cap) n xs)) (hx : ∀ j u, cs[j]? = some u → xs[off + j]? = some u) : ∀ w, HpS K w0 L w → ∀ j u, cs[j]? = some u → w.cell? (Addr.add ⟨g, off, none⟩ j) = some u := by
  intro w hs j u hu
  rw [Addr.add_mk]
  exact cell_row i hi (hx j u hu) w hs

/-- a slice in a register, cut at its end; at its beginning -/
theorem SL.slHR {b off n c sz : Nat} {k : IntKind} {j : Int} {ty e : TypeId} (q : Nat) (ho : At ops N l o t (.slice ty x none (some z) none)) (hty : P.underlying ty = some (.slice e)) (hsz : tsz P e = some sz) (hx : evl l x = some (.slice (some ⟨b, off, none⟩) n c)) (hz : evl l z = some (.int k j))
    (hj : j = (q : Int)) (hq : q ≤ c) (h : SL P ro K w0 N ops Hs items Q D ((t, .slice (some ⟨b, off, none⟩) q c) :: l) H) : SL P ro K w0 N ops Hs (.cons (tk, o) items) Q D l H :=
  SL.val ho rfl (fun a w ha _ => by
    subst hj
    simp only [execOp, ho.op, Instr.sliceAt, Instr.slice, Option.map]
    simp [ha.eval hx, ha.eval hz, run_underlying hty, run_sizeOf hsz, Instr.sliceBounds, Instr.sliceBound, asIntOf, hq, Addr.add_mk]) h

/-- make, with no element yet -/
theorem HpOk.asRow {w : World} {b cap sz : Nat} {e : TypeId} {c : Array Value} {M : List Chunk} (h : HpOk K w0 (own b (.cells c e) :: M) w) (hc : c.size = cap * sz) (hm : cap ≤ 9223372036854775807) : HpOk K w0 (rowC e sz (.slice (some ⟨b, 0, none⟩) 0 cap) 0 [] :: M) w := by
  refine h.turn rfl rfl rfl (Nat.le_refl _) (fun _ _ _ => rfl) ⟨by simp, .inr ⟨b, cap, c, (0, 0), rfl, Nat.zero_le _, h.holds _ (List.mem_cons_self ..), by simp, Nat.zero_le _, by simp only [maxLen]; omega, hc, by simp⟩⟩ (fun k hk => ?_)
  have hkb : k = b := by simp [rowC, Value.ownBlock] at hk; exact hk.symm
  subst hkb
  exact ⟨.inl rfl, (h.foot _ (List.mem_cons_self ..) k rfl).1⟩
/-- an own block, full of elements, seen as a row -/
theorem HpOk.asRowF {w : World} {b n cap sz : Nat} {e : TypeId} {c : Array Value} {M : List Chunk} (h : HpOk K w0 (own b (.cells c e) :: M) w) (hc : c.size = cap * sz) (hn : n ≤ cap) (hm : cap ≤ 9223372036854775807) : HpOk K w0 (rowC e sz (.slice (some ⟨b, 0, none⟩) n cap) n (c.toList.take (n * sz)) :: M) w := by
  have hle : n * sz ≤ cap * sz := Nat.mul_le_mul_right _ hn
  refine h.turn rfl rfl rfl (Nat.le_refl _) (fun _ _ _ => rfl) ⟨by simp; omega, .inr ⟨b, cap, c, (0, 0), rfl, Nat.zero_le _, h.holds _ (List.mem_cons_self ..), Nat.zero_le _, hn, by simp only [maxLen]; omega, hc, rfl⟩⟩ (fun k hk => ?_)
  have hkb : k = b := by simp [rowC, Value.ownBlock] at hk; exact hk.symm
  subst hkb
  exact ⟨.inl rfl, (h.foot _ (List.mem_cons_self ..) k rfl).1⟩
theorem HpOk.grow0 {w w' : World} (h : HpOk K w0 H w) {e : TypeId} {cs : Array Value} (hw : w' = w.drew.drew.alloc (.cells cs e)) : HpOk K w0 (own w.heap.size (.cells cs e) :: H) w' := by
  subst hw
  exact (h.same (w' := w.drew.drew) rfl rfl rfl (Nat.le_refl _) (fun _ _ => rfl)).alloc (.cells cs e)
/-- the library's entry that makes bytes -/
theorem SL.mnz {f : FuncId} {fn : Func} {tys : Array TypeId} {ty e : TypeId} {k : Int} {n : Nat} (ho : At ops N l o t (.call { callee := .value (.func f), args := #[x], argTypes := tys })) (hx : evl l x = some (vI k)) (hk : k = (n : Int)) (hn : n ≤ 281474976710656) (hty : P.underlying ty = some (.slice e))
    (hrun : ∀ (w : World) (r : Value) (w' : World), (Extern.BytealgMakeNoZero.makeNoZero fn.params #[ty] #[.int .i64 n]).run P w = .ok r w' → (callFunc f #[vI n]).run P w = .ok (.value r) w')
    (hs : ∀ b (cs : Array Value), SubI Hs (own b (.cells cs e) :: H))
    (h : ∀ b (cs : Array Value), n ≤ cs.size → cs.size ≤ 9223372036854775807 → SL P ro K w0 N ops Hs items Q D ((t, .slice (some ⟨b, 0, none⟩) n cs.size) :: l) (own b (.cells cs e) :: H)) : SL P ro K w0 N ops Hs (.cons (false, o) items) Q D l H := by
  subst hk
  intro a w ha hw hs0
  have hw1 := wtd_wanted ho.wt ha.vals
  simp only [PL, hw1, if_true]
  obtain ⟨cs, hr, h1, h2⟩ := Lib.run_makeNoZero (P := P) w fn.params ty e hty n hn
  have hw' := hw.grow0 (e := e) (cs := cs) rfl
  refine ow_value (by rw [ho.op]; exact isDefer_ne rfl) (v := .slice (some ⟨w.heap.size, 0, none⟩) n cs.size) (w' := w.drew.drew.alloc (.cells cs e)) ?_ ⟨(hs w.heap.size cs).hs hw', h w.heap.size cs h1 (h2 (by simp only [maxLen]; omega)) _ _ (by rw [ho.dst]; exact ha.put (blt_lt ho.lt) _) hw' ((hs w.heap.size cs).hs hw')⟩
  simp only [execOp, ho.op, resolve, Act.eval, Deferred.ofValue, Sem.run_bind, Sem.run_pure, Result.andThen_ok, invoke]
  have hxe := ha.vals.eval hx
  simp only [List.map_toArray, List.map_cons, List.map_nil, hxe]
  simpa using hrun w _ _ hr
/-- a make whose length and capacity are known -/
theorem SL.mkS {ty e : TypeId} {sz by_ n c : Nat} {zv : Value} {k k' : IntKind} (ho : At ops N l o t (.makeSlice ty x y)) (hty : P.underlying ty = some (.slice e)) (hsz : tsz P e = some sz) (hby : byt P e = some by_) (hze : zer P e = some zv)
    (hx : evl l x = some (.int k (n : Int))) (hy : evl l y = some (.int k' (c : Int))) (hnc : n ≤ c) (hb : by_ * c ≤ 281474976710656) (h63 : c ≤ 9223372036854775807)
    (hs : ∀ b, SubI Hs (own b (.cells (madeCells zv.cells (c * sz)) e) :: H))
    (h : ∀ b, SL P ro K w0 N ops Hs items Q D ((t, .slice (some ⟨b, 0, none⟩) n c) :: l) (own b (.cells (madeCells zv.cells (c * sz)) e) :: H)) : SL P ro K w0 N ops Hs (.cons (false, o) items) Q D l H :=
  SL.step (fun b => .slice (some ⟨b, 0, none⟩) n c) (fun b => own b (.cells (madeCells zv.cells (c * sz)) e) :: H) ho rfl (fun a w ha hw => by
    obtain ⟨ii, hii, e1, e2, e3⟩ := info_of hsz hby hze
    refine ⟨w.heap.size, _, ?_, hw.alloc (.cells (madeCells zv.cells (c * sz)) e)⟩
    have hb' : (ii.bytes : Int) * (c : Int) ≤ 281474976710656 := by rw [e2, ← Int.natCast_mul]; omega
    have hr := run_make (P := P) w ty e ii zv hty hii e3 k k' n c (by omega) (by omega) hb' (by omega)
    rw [e1] at hr
    simp only [Int.toNat_natCast] at hr
    unfold execOp
    simp only [ho.op, ha.eval hx, ha.eval hy, Sem.run_bind, hr, Result.andThen_ok, Sem.run_pure]) hs h
/-- append into the room of an own block -/
theorem SL.appO {ty e : TypeId} {sz by_ n m c b cap : Nat} {zv : Value} {news : List Value} {ad : Addr} {cur : Array Value} (i : Nat) (ho : At ops N l o t (.call { callee := .builtin .append, args := #[x, y], argTypes := #[ty, ty] }))
    (hty : P.underlying ty = some (.slice e)) (hsz : tsz P e = some sz) (hby : byt P e = some by_) (hze : zer P e = some zv)
    (hx : evl l x = some (.slice (some ⟨b, 0, none⟩) n cap)) (hy : evl l y = some (.slice (some ad) m c)) (hi : H[i]? = some (own b (.cells cur e)))
    (hl : news.length = m * sz) (hnews : ∀ w, HpS K w0 H w → ∀ j u, news[j]? = some u → w.cell? (ad.add j) = some u) (h1 : ∀ u ∈ news, u.oneCell' = true) (hroom : n + m ≤ cap) (hcap : (n + m) * sz ≤ cur.size)
    (hs : SubI Hs (H.set i (own b (.cells (setL cur (n * sz) news) e))))
    (h : SL P ro K w0 N ops Hs items Q D ((t, .slice (some ⟨b, 0, none⟩) (n + m) cap) :: l) (H.set i (own b (.cells (setL cur (n * sz) news) e)))) : SL P ro K w0 N ops Hs (.cons (false, o) items) Q D l H :=
  SL.step (fun _ : Unit => .slice (some ⟨b, 0, none⟩) (n + m) cap) (fun _ => H.set i (own b (.cells (setL cur (n * sz) news) e))) ho rfl (fun a w ha hw => by
    obtain ⟨ii, hii, e1, e2, e3⟩ := info_of hsz hby hze
    have hg : w.heap[b]? = some (.cells cur e (0, 0)) := hw.holds _ (List.mem_append_left _ (List.mem_of_getElem? hi))
    have hfit : n * ii.size + news.length ≤ cur.size := by rw [hl, e1, ← Nat.add_mul]; exact hcap
    have hr := run_append_roomF (P := P) w ty o.type e ii hty hii b n cap cur (0, 0) hg (Nat.zero_le _) ad m c news (by rw [e1]; exact hl) (hnews w hw.dropMarks.s) h1 hroom hfit
    have hset := hw.putAt (o' := .cells (setL cur (n * sz) news) e) i hi
    have e4 : ∀ r : Array Value, r = setL cur (n * sz) news → w.setRow b r = w.putObj b (.cells (setL cur (n * sz) news) e) := by
      rintro r rfl
      unfold World.setRow World.putObj
      congr 1
      obtain ⟨hlt, hget⟩ := Array.getElem?_eq_some_iff.1 hg
      apply Array.ext_getElem?
      intro k
      rw [Array.getElem?_modify, Array.getElem?_setIfInBounds]
      by_cases hk : b = k
      · subst hk
        simp [hlt, hget]
      · simp [hk]
    have e5 : (cur.toList.take (n * ii.size) ++ news ++ cur.toList.drop (n * ii.size + news.length)).toArray = setL cur (n * sz) news := by
      apply Array.ext'
      rw [setL_toList _ _ _ (by rw [← e1]; exact hfit), e1]
    rw [e4 _ e5] at hr
    refine ⟨(), w.putObj b (.cells (setL cur (n * sz) news) e), ?_, hset⟩
    unfold execOp
    simp only [ho.op, resolve, invoke, builtin, Sem.run_bind, Sem.run_pure, Result.andThen_ok, List.map_toArray, List.map_cons, List.map_nil, ha.eval hx, ha.eval hy, hr]) (fun _ => hs) (fun _ => h)
theorem SL.minI3 {a b c : Int} {u : Operand} {ty : Array TypeId} (ho : At ops N l o t (.call { callee := .builtin .min, args := #[x, y, u], argTypes := ty })) (hx : evl l x = some (vI a)) (hy : evl l y = some (vI b)) (hu : evl l u = some (vI c))
    (h : SL P ro K w0 N ops Hs items Q D ((t, vI (min (min a b) c)) :: l) H) : SL P ro K w0 N ops Hs (.cons (tk, o) items) Q D l H :=
  SL.val ho rfl (fun a' w ha _ => by
    simp only [execOp, ho.op, resolve, invoke, builtin, Builtin.min_]
    simp [ha.eval hx, ha.eval hy, ha.eval hu, Builtin.min2]
    omega) h
/-- copy of nothing -/
theorem SL.cpN {ty e : TypeId} {sz dl dc : Nat} {ad : Addr} (ho : At ops N l o t (.call { callee := .builtin .copy, args := #[x, y], argTypes := #[ty, ty] })) (hty : P.underlying ty = some (.slice e)) (hsz : tsz P e = some sz)
    (hx : evl l x = some (.slice (some ad) dl dc)) (hy : evl l y = some (.slice none 0 0)) (h : SL P ro K w0 N ops Hs items Q D ((t, vI 0) :: l) H) : SL P ro K w0 N ops Hs (.cons (tk, o) items) Q D l H :=
  SL.val ho rfl (fun a w ha _ => by
    have hs : ((P.info? e).map (·.size)).isSome = true := by
      have : (P.info? e).map (·.size) = some sz := hsz
      rw [this]; rfl
    unfold execOp
    simp only [ho.op, resolve, invoke, builtin, Sem.run_bind, Sem.run_pure, Result.andThen_ok, List.map_toArray, List.map_cons, List.map_nil, ha.eval hx, ha.eval hy]
    rw [run_copy_nil (P := P) (w := w) ty ty o.type e ad dl dc hty hs]
    rfl) h
end Go.Proofs.YtnpnmdbleopikaaDoor
