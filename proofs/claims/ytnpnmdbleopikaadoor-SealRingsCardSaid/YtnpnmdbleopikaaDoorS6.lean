/- The engine's slices of a call's own: rows that grow by append, literals of slices. Each under its own bounds. -/
import Derived.Test.YtnpnmdbleopikaaDoorS5
import Derived.Lib.FrozenHead2
import Derived.Maps.AppendAt
namespace Go.Proofs.YtnpnmdbleopikaaDoor
open Go

variable {P : Program} {ro : Option Nat} {K : Nat → Prop} {w0 : World} {N : Nat} {Q : Post} {D : List Nat} {l l' : Tm} {H H' Hs L : List Chunk} {ops : Array Oper} {items : Its}
variable {tk : Bool} {o : Oper} {t : Nat} {v : Value} {x y z : Operand}

/-- a row of the call's own: the slice v of n elements (sz cells each) holds the cells xs -/
def rowC (e : TypeId) (sz : Nat) (v : Value) (n : Nat) (xs : List Value) : Chunk :=
  ⟨fun b => v.ownBlock = some b, fun w => w.ownsRowF 0 e sz v n xs, fun w w' h hw => by
    refine ⟨hw.1, ?_⟩
    rcases hw.2 with hn | ⟨g, cap, cur, fz, rfl, hb, hgg, rest⟩
    · exact .inl hn
    · exact .inr ⟨g, cap, cur, fz, rfl, hb, by rw [h g rfl]; exact hgg, rest⟩⟩
def byt (P : Program) (t : TypeId) : Option Nat := (P.info? t).map (·.bytes)
theorem info_of {e : TypeId} {sz by_ : Nat} {zv : Value} (h1 : tsz P e = some sz) (h2 : byt P e = some by_) (h3 : zer P e = some zv) : ∃ i, P.info? e = some i ∧ i.size = sz ∧ i.bytes = by_ ∧ i.zero = some zv := by
  unfold tsz at h1; unfold byt at h2; unfold zer at h3
  cases hi : P.info? e with
  | none => simp [hi] at h1
  | some i =>
    simp [hi] at h1 h2 h3
    exact ⟨i, rfl, h1, h2, h3⟩

theorem run_append_rowF (w : World) (t ty e : TypeId) (i : TypeInfo) (z : Value) (size bytes : Nat) (ht : P.underlying t = some (.slice e)) (hi : P.info? e = some i) (hz : i.zero = some z)
    (hsize : i.size = size) (hby : i.bytes = bytes) (hzs : z.cells.size = size) (hsz : 0 < size)
    (v : Value) (n : Nat) (xs : List Value) (hown : w.ownsRowF 0 e size v n xs)
    (a : Addr) (m c : Nat) (news : List Value) (hl : news.length = m * size) (hnews : ∀ j u, news[j]? = some u → w.cell? (a.add j) = some u) (h1 : ∀ u ∈ news, u.oneCell' = true)
    (h63 : n + m ≤ maxLen) (hbytes : (n + m) * bytes ≤ 140737488355328) :
    ∃ v' w', (Builtin.append_ #[t, t] ty #[v, .slice (some a) m c]).run P w = .ok v' w' ∧ w'.ownsRowF 0 e size v' (n + m) (xs ++ news) ∧ w.grownBy w' v.ownBlock ∧
      (v'.ownBlock = v.ownBlock ∨ v'.ownBlock = some w.heap.size) := by
  rcases hown.2 with ⟨rfl, rfl⟩ | ⟨g, cap, cur, fz, rfl, hbg, hg, hfz, hnc, hcm, hcs, htake⟩
  · obtain ⟨v', w', r1, r2, r3, _, r4⟩ := run_append_own_at (P := P) w 0 t ty e i z size bytes ht hi hz hsize hby hzs hsz (.slice none 0 0) 0 xs ⟨hown.1, .inl ⟨rfl, rfl⟩⟩ a m c news hl hnews h1 h63 hbytes (Nat.zero_le _)
    exact ⟨v', w', r1, World.ownsRowF_of r2, r3, r4⟩
  · subst hsize
    subst hby
    have hsmall : n + m ≤ 9223372036854775807 := by simp only [maxLen] at h63; omega
    have hlen : (xs ++ news).length = (n + m) * i.size := by rw [List.length_append, hown.1, hl, Nat.add_mul]
    by_cases hroom : n + m ≤ cap
    · have hfit : n * i.size + news.length ≤ cur.size := by rw [hl, hcs, ← Nat.add_mul]; exact Nat.mul_le_mul_right _ hroom
      have hr := run_append_roomF (P := P) w t ty e i ht hi g n cap cur fz hg hfz a m c news hl hnews h1 hroom hfit
      refine ⟨_, _, hr, ⟨hlen, .inr ⟨g, cap, _, fz, rfl, hbg, setRow_heap w g cur _ e _ hg, Nat.le_trans hfz (Nat.mul_le_mul_right _ (Nat.le_add_right n m)), hroom, hcm, ?_, ?_⟩⟩, ⟨rfl, rfl, rfl, by simp, fun k _ hk => setRow_other w g k _ (fun e => hk (by simp [Value.ownBlock, e]))⟩, .inl rfl⟩
      · simp only [List.size_toArray, List.length_append, List.length_take, List.length_drop, Array.length_toList]
        omega
      · rw [htake, ← hlen]
        exact List.take_left
    · have holds : ∀ j u, xs[j]? = some u → w.cell? ((⟨g, 0, none⟩ : Addr).add j) = some u := hown.cells (g := g) rfl
      have hr := run_append_grow (P := P) w t ty e i z ht hi hz ⟨g, 0, none⟩ n cap xs hown.1 holds a m c news hl hnews (by omega) (by omega) (growslice_fits (by omega) hbytes)
      have hge := grownCap_ge w (n + m) cap e
      have hcm2 : grownCap w (n + m) cap e ≤ maxLen := grownCap_le_maxLen w (n + m) cap e h63
      refine ⟨_, _, hr, ⟨hlen, .inr ⟨w.heap.size, _, _, (0, 0), rfl, Nat.zero_le _, heap_alloc_new w.drew _, Nat.zero_le _, hge, hcm2, ?_, ?_⟩⟩, ⟨rfl, rfl, rfl, by simp, fun k hk _ => heap_alloc_old w.drew _ k hk⟩, .inr rfl⟩
      · simp only [Array.size_append, List.size_toArray, size_zeroCells, hzs, hown.1, hl, ← Nat.add_mul]
        congr 1
        omega
      · simp only [Array.toList_append, List.append_assoc]
        rw [← List.append_assoc, ← hlen]
        exact List.take_left

theorem run_append_rowS (w : World) (t u ty e : TypeId) (i : TypeInfo) (ht : P.underlying t = some (.slice e)) (hu : P.underlying u = some .string) (hi : P.info? e = some i) (hz : i.zero = some (.int .u8 0))
    (hsize : i.size = 1) (hby : i.bytes = 1)
    (v : Value) (n : Nat) (xs : List Value) (hown : w.ownsRowF 0 e 1 v n xs) (s : ByteArray)
    (h63 : n + s.size ≤ maxLen) (hbytes : n + s.size ≤ 140737488355328) :
    ∃ v' w', (Builtin.append_ #[t, u] ty #[v, .string s]).run P w = .ok v' w' ∧ w'.ownsRowF 0 e 1 v' (n + s.size) (xs ++ Lib.strCells s) ∧ w.grownBy w' v.ownBlock ∧
      (v'.ownBlock = v.ownBlock ∨ v'.ownBlock = some w.heap.size) := by
  rcases hown.2 with ⟨rfl, rfl⟩ | ⟨g, cap, cur, fz, rfl, hbg, hg, hfz, hnc, hcm, hcs, htake⟩
  · have hxs : xs = [] := List.length_eq_zero_iff.1 (by simpa using hown.1)
    subst hxs
    by_cases h0 : s.size = 0
    · obtain ⟨v', w', h1, h2, h3, h4⟩ := Lib.run_append_own_string (P := P) w 0 t u ty e i ht hu hi hz hsize hby (.slice none 0 0) 0 [] ⟨by simp, .inl ⟨rfl, rfl⟩⟩ s h63 hbytes (Nat.zero_le _)
      refine ⟨v', w', h1, World.ownsRowF_of h2, h3, .inl ?_⟩
      rw [h4.2 ⟨rfl, h0⟩]
    · have hr := run_append_nil_string (P := P) w t u ty e i (.int .u8 0) ht hu hi hz s (by omega) (by simp only [maxLen] at h63; omega) (by rw [hby]; omega)
      have hge := grownCap_ge w s.size 0 e
      have hcm2 : grownCap w s.size 0 e ≤ maxLen := grownCap_le_maxLen w s.size 0 e (by omega)
      have hsc : (s.data.map (fun b => Value.int .u8 b.toNat)).toList = Lib.strCells s := by simp [Lib.strCells]
      have hscl : (Lib.strCells s).length = s.size := Lib.strCells_length s
      refine ⟨_, _, hr, ⟨by simp [hscl], .inr ⟨w.heap.size, _, _, (0, 0), by simp, Nat.zero_le _, heap_alloc_new w.drew _, Nat.zero_le _, by omega, hcm2, ?_, ?_⟩⟩, ⟨rfl, rfl, rfl, by simp, fun k hk _ => heap_alloc_old w.drew _ k hk⟩, .inr rfl⟩
      · have hz1 : (Value.int IntKind.u8 0).cells.size = 1 := rfl
        have hds : (s.data.map (fun b => Value.int .u8 b.toNat)).size = s.size := by simp
        rw [Array.size_append, hds, size_zeroCells, hz1]
        omega
      · rw [Array.toList_append, hsc, List.nil_append]
        have : (0 + s.size) * 1 = (Lib.strCells s).length := by rw [hscl]; omega
        rw [this]
        exact List.take_left
  · have hsmall : n + s.size ≤ 9223372036854775807 := by simp only [maxLen] at h63; omega
    have hxl : xs.length = n := by simpa using hown.1
    have hlen : (xs ++ Lib.strCells s).length = (n + s.size) * 1 := by rw [List.length_append, hxl, Lib.strCells_length, Nat.mul_one]
    by_cases hroom : n + s.size ≤ cap
    · have hcs' : cur.size = cap := by simpa using hcs
      have hr := Lib.run_append_room_stringF (P := P) w t u ty e i ht hu hi hsize g n cap cur fz hg (by simpa using hfz) s hroom (by omega)
      refine ⟨_, _, hr, ⟨hlen, .inr ⟨g, cap, _, fz, rfl, hbg, setRow_heap w g cur _ e _ hg, by omega, hroom, hcm, ?_, ?_⟩⟩, ⟨rfl, rfl, rfl, by simp, fun k _ hk => setRow_other w g k _ (fun e => hk (by simp [Value.ownBlock, e]))⟩, .inl rfl⟩
      · simp only [List.size_toArray, List.length_append, List.length_take, List.length_drop, Array.length_toList, Lib.strCells_length]
        omega
      · have ht' : cur.toList.take n = xs := by simpa using htake
        rw [ht', ← hlen]
        exact List.take_left
    · have holds : ∀ j u, xs[j]? = some u → w.cell? ((⟨g, 0, none⟩ : Addr).add j) = some u := hown.cells (g := g) rfl
      have hr := Lib.run_append_grow_string (P := P) w t u ty e i (.int .u8 0) ht hu hi hz ⟨g, 0, none⟩ n cap xs (by rw [hsize]; simpa using hxl) holds s (by omega) (by omega) (by rw [hby]; exact growslice_fits (by omega) (by omega))
      have hge := grownCap_ge w (n + s.size) cap e
      have hcm2 : grownCap w (n + s.size) cap e ≤ maxLen := grownCap_le_maxLen w (n + s.size) cap e h63
      refine ⟨_, _, hr, ⟨hlen, .inr ⟨w.heap.size, _, _, (0, 0), rfl, Nat.zero_le _, heap_alloc_new w.drew _, Nat.zero_le _, hge, hcm2, ?_, ?_⟩⟩, ⟨rfl, rfl, rfl, by simp, fun k hk _ => heap_alloc_old w.drew _ k hk⟩, .inr rfl⟩
      · have hz1 : (Value.int IntKind.u8 0).cells.size = 1 := rfl
        simp only [Array.size_append, List.size_toArray, size_zeroCells, hz1, hxl, Lib.strCells_length]
        omega
      · simp only [Array.toList_append, List.append_assoc]
        rw [← List.append_assoc, ← hlen]
        exact List.take_left

/-- a chunk, number i of H, turned; its blocks are its elder ones or new ones -/
theorem HpOk.turnAt {M : List Chunk} {w w' : World} {c d : Chunk} (i : Nat) (h : HpOk K w0 (H ++ M) w) (hi : H[i]? = some c) (h1 : w'.os = w.os) (h2 : w'.tape = w.tape) (h3 : w'.output = w.output) (h4 : w.heap.size ≤ w'.heap.size)
    (h5 : ∀ b, b < w.heap.size → ¬ c.foot b → w'.heap[b]? = w.heap[b]?) (hd : d.holds w') (hf : ∀ b, d.foot b → (c.foot b ∨ w.heap.size ≤ b) ∧ b < w'.heap.size) : HpOk K w0 (H.set i d ++ M) w' := by
  obtain ⟨hlt, hget⟩ := List.getElem?_eq_some_iff.1 hi
  have hsplit : H = H.take i ++ c :: H.drop (i + 1) := by
    rw [← hget]; simp
  have hset : H.set i d = H.take i ++ d :: H.drop (i + 1) := by
    rw [List.set_eq_take_append_cons_drop, if_pos hlt]
  rw [hset]
  rw [hsplit] at h
  have hp : (H.take i ++ c :: H.drop (i + 1) ++ M).Perm (c :: (H.take i ++ H.drop (i + 1) ++ M)) := by simp
  have hp' : (d :: (H.take i ++ H.drop (i + 1) ++ M)).Perm (H.take i ++ d :: H.drop (i + 1) ++ M) := by rw [List.perm_comm]; simp
  exact ((h.perm hp).turn h1 h2 h3 h4 h5 hd hf).perm hp'

theorem SL.app {ty e : TypeId} {sz by_ n m c : Nat} {zv : Value} {xs news : List Value} {ad : Addr} (i : Nat) (ho : At ops N l o t (.call { callee := .builtin .append, args := #[x, y], argTypes := #[ty, ty] }))
    (hty : P.underlying ty = some (.slice e)) (hsz : tsz P e = some sz) (hby : byt P e = some by_) (hze : zer P e = some zv) (hzs : zv.cells.size = sz) (hsz0 : 0 < sz)
    (hx : evl l x = some v) (hy : evl l y = some (.slice (some ad) m c)) (hi : H[i]? = some (rowC e sz v n xs))
    (hl : news.length = m * sz) (hnews : ∀ w, HpS K w0 H w → ∀ j u, news[j]? = some u → w.cell? (ad.add j) = some u) (h1 : ∀ u ∈ news, u.oneCell' = true) (hb : (n + m) * by_ ≤ 140737488355328) (h63 : n + m ≤ 9223372036854775807)
    (hs : ∀ v', SubI Hs (H.set i (rowC e sz v' (n + m) (xs ++ news))))
    (h : ∀ v', SL P ro K w0 N ops Hs items Q D ((t, v') :: l) (H.set i (rowC e sz v' (n + m) (xs ++ news)))) : SL P ro K w0 N ops Hs (.cons (false, o) items) Q D l H :=
  SL.step (fun v' => v') (fun v' => H.set i (rowC e sz v' (n + m) (xs ++ news))) ho rfl (fun a w ha hw => by
    obtain ⟨ii, hii, e1, e2, e3⟩ := info_of hsz hby hze
    have hrow : w.ownsRowF 0 e sz v n xs := hw.holds _ (List.mem_append_left _ (List.mem_of_getElem? hi))
    obtain ⟨v', w', hr, hr2, hr3, hr4⟩ := run_append_rowF (P := P) w ty o.type e ii zv sz by_ hty hii e3 e1 e2 hzs hsz0 v n xs hrow ad m c news hl (hnews w hw.dropMarks.s) h1 (by simp only [maxLen]; omega) hb
    refine ⟨v', w', ?_, hw.turnAt i hi hr3.os hr3.tape hr3.output hr3.size (fun b hb hne => hr3.block b hb (fun e => hne e.symm)) hr2 ?_⟩
    · unfold execOp
      simp only [ho.op, resolve, invoke, builtin, Sem.run_bind, Sem.run_pure, Result.andThen_ok, List.map_toArray, List.map_cons, List.map_nil, ha.eval hx, ha.eval hy, hr]
    · intro b hb
      refine ⟨?_, (hr2.lt b hb).2⟩
      have hb' : v'.ownBlock = some b := hb
      rcases hr4 with h4 | h4
      · exact .inl (by rw [h4] at hb'; exact hb')
      · rw [h4] at hb'
        right
        simp at hb'
        omega) hs h

theorem strCells_mk (s : List UInt8) : Lib.strCells (ByteArray.mk ⟨s⟩) = s.map fun b => vU8 b := by simp [Lib.strCells]
theorem SL.appS {ty u e : TypeId} {n : Nat} {xs : List Value} {s : List UInt8} (i : Nat) (ho : At ops N l o t (.call { callee := .builtin .append, args := #[x, y], argTypes := #[ty, u] }))
    (hty : P.underlying ty = some (.slice e)) (hu : P.underlying u = some .string) (hsz : tsz P e = some 1) (hby : byt P e = some 1) (hze : zer P e = some (.int .u8 0))
    (hx : evl l x = some v) (hy : evl l y = some (vS s)) (hi : H[i]? = some (rowC e 1 v n xs)) (hb : n + s.length ≤ 140737488355328)
    (hs : ∀ v', SubI Hs (H.set i (rowC e 1 v' (n + s.length) (xs ++ s.map fun b => vU8 b))))
    (h : ∀ v', SL P ro K w0 N ops Hs items Q D ((t, v') :: l) (H.set i (rowC e 1 v' (n + s.length) (xs ++ s.map fun b => vU8 b)))) : SL P ro K w0 N ops Hs (.cons (false, o) items) Q D l H :=
  SL.step (fun v' => v') (fun v' => H.set i (rowC e 1 v' (n + s.length) (xs ++ s.map fun b => vU8 b))) ho rfl (fun a w ha hw => by
    obtain ⟨ii, hii, e1, e2, e3⟩ := info_of hsz hby hze
    have hrow : w.ownsRowF 0 e 1 v n xs := hw.holds _ (List.mem_append_left _ (List.mem_of_getElem? hi))
    have hss : (ByteArray.mk ⟨s⟩).size = s.length := rfl
    obtain ⟨v', w', hr, hr2, hr3, hr4⟩ := run_append_rowS (P := P) w ty u o.type e ii hty hu hii e3 e1 e2 v n xs hrow ⟨⟨s⟩⟩ (by simp only [maxLen, hss]; omega) (by rw [hss]; exact hb)
    rw [hss, strCells_mk] at hr2
    refine ⟨v', w', ?_, hw.turnAt i hi hr3.os hr3.tape hr3.output hr3.size (fun b hb hne => hr3.block b hb (fun e => hne e.symm)) hr2 ?_⟩
    · unfold execOp
      simp only [ho.op, resolve, invoke, builtin, Sem.run_bind, Sem.run_pure, Result.andThen_ok, List.map_toArray, List.map_cons, List.map_nil, ha.eval hx, ha.eval hy, hr]
    · intro b hb
      refine ⟨?_, (hr2.lt b hb).2⟩
      have hb' : v'.ownBlock = some b := hb
      rcases hr4 with h4 | h4
      · exact .inl (by rw [h4] at hb'; exact hb')
      · rw [h4] at hb'
        right
        simp at hb'
        omega) hs h

/-- a row that is nil lies for nothing -/
theorem HpOk.nilRow {w : World} (e : TypeId) (sz : Nat) (h : HpOk K w0 H w) : HpOk K w0 (rowC e sz (.slice none 0 0) 0 [] :: H) w := by
  refine h.cons (n := w.heap.size) (Nat.le_refl _) (fun d hd b hb => (h.foot d hd b hb).1) h.kltw (World.ownsRowF_nil ..) ?_
  intro b hb
  simp [rowC, Value.ownBlock] at hb
theorem SX.nilRow {c : Code} (e : TypeId) (sz : Nat) (h : SX P ro K w0 N c Q D l (rowC e sz (.slice none 0 0) 0 [] :: H)) : SX P ro K w0 N c Q D l H :=
  fun a w ha hw => h a w ha (hw.nilRow e sz)
theorem SL.nilRow (e : TypeId) (sz : Nat) (h : SL P ro K w0 N ops Hs items Q D l (rowC e sz (.slice none 0 0) 0 [] :: H)) : SL P ro K w0 N ops Hs items Q D l H :=
  fun a w ha hw hs => h a w ha (hw.nilRow e sz) hs

theorem zip_parts (f : Operand → Value) : ∀ l : List (Nat × Operand), l.map (fun (i, x) => (i, f x)) = (l.map (·.1)).zip ((l.map (·.2)).map f)
  | [] => rfl
  | (i, x) :: r => by simp [zip_parts f r]
theorem setL_size : ∀ (vs : List Value) (c : Array Value) (off : Nat), (setL c off vs).size = c.size
  | [], _, _ => rfl
  | v :: r, c, off => by simp [setL, setL_size r]
theorem set_take (l : List Value) (off : Nat) (v : Value) (h : off < l.length) : (l.set off v).take (off + 1) = l.take off ++ [v] := by
  rw [List.set_eq_take_append_cons_drop, if_pos h]
  have e : off + 1 = (l.take off ++ [v]).length := by simp; omega
  have e2 : l.take off ++ v :: l.drop (off + 1) = (l.take off ++ [v]) ++ l.drop (off + 1) := by simp
  rw [e2, e]
  exact List.take_left
theorem setL_toList : ∀ (vs : List Value) (c : Array Value) (off : Nat), off + vs.length ≤ c.size → (setL c off vs).toList = c.toList.take off ++ vs ++ c.toList.drop (off + vs.length)
  | [], c, off, h => by simp [setL]
  | v :: r, c, off, h => by
    simp only [List.length_cons] at h
    rw [setL, setL_toList r _ _ (by simp; omega)]
    simp only [Array.toList_setIfInBounds]
    have hlt : off < c.toList.length := by simp; omega
    rw [set_take _ _ _ hlt, List.drop_set_of_lt (by omega)]
    simp only [List.append_assoc, List.cons_append, List.nil_append, List.length_cons]
    have e : off + 1 + r.length = off + (r.length + 1) := by omega
    rw [e]
theorem foldl_zipIdx : ∀ (vs : List Value) (k off : Nat) (c : Array Value), ((vs.zipIdx k).foldl (fun cs (p : Value × Nat) => cs.setIfInBounds (off + p.2) p.1) c) = setL c (off + k) vs
  | [], _, _, _ => rfl
  | v :: r, k, off, c => by
    simp only [List.zipIdx_cons, List.foldl_cons, setL]
    rw [foldl_zipIdx r (k + 1) off]
    rfl
theorem fill_full (sz : Nat) : ∀ (vs : List Value) (k : Nat) (arr : Array Value), (∀ v ∈ vs, v.cells.size = sz) → (k + vs.length) * sz ≤ arr.size →
    Instr.fill (fun i => some (i * sz, sz)) arr ((List.range' k vs.length).zip vs) = some (setL arr (k * sz) (vs.flatMap fun v => v.cells.toList))
  | [], k, arr, _, _ => by simp [Instr.fill, setL]
  | v :: r, k, arr, h, hle => by
    have hv := h v (List.mem_cons_self ..)
    have hm : (k + 1 + r.length) * sz ≤ arr.size := by
      have : k + 1 + r.length = k + (v :: r).length := by simp; omega
      rw [this]; exact hle
    have h1 : k * sz + sz ≤ arr.size := by
      have : (k + 1) * sz ≤ (k + 1 + r.length) * sz := Nat.mul_le_mul_right _ (by omega)
      rw [Nat.add_mul, Nat.one_mul] at this
      omega
    have happ : ∀ (xs ys : List Value) (c : Array Value) (off : Nat), setL c off (xs ++ ys) = setL (setL c off xs) (off + xs.length) ys := by
      intro xs
      induction xs with
      | nil => intro ys c off; simp [setL]
      | cons x xs ih => intro ys c off; simp only [List.cons_append, setL, ih, List.length_cons]; congr 1; omega
    simp only [List.length_cons, List.range'_succ, List.zip_cons_cons, Instr.fill]
    rw [if_neg (by simp [hv]; omega)]
    have e : (v.cells.zipIdx.foldl (fun cs (c, j) => cs.setIfInBounds (k * sz + j) c) arr) = setL arr (k * sz) v.cells.toList := by
      rw [← Array.foldl_toList, Array.toList_zipIdx]
      exact foldl_zipIdx v.cells.toList 0 (k * sz) arr
    rw [e]
    have hih := fill_full sz r (k + 1) (setL arr (k * sz) v.cells.toList) (fun u hu => h u (List.mem_cons_of_mem _ hu)) (by rw [setL_size]; exact hm)
    rw [hih, List.flatMap_cons, happ]
    congr 2
    rw [Array.length_toList, hv, Nat.add_mul, Nat.one_mul]
/-- a slice's literal, all of whose elements are given -/
theorem SL.bsl {ty e : TypeId} {len sz : Nat} {zv : Value} {parts : Array (Nat × Operand)} (vs : List Value) (ho : At ops N l o t (.buildSlice ty len parts)) (hty : P.underlying ty = some (.slice e)) (hsz : tsz P e = some sz) (hze : zer P e = some zv)
    (hv : evs l (parts.toList.map (·.2)) vs) (hi : parts.toList.map (·.1) = List.range' 0 len) (hlen : vs.length = len) (hzs : zv.cells.size = sz) (hs1 : ∀ v ∈ vs, v.cells.size = sz) (hlt : Nat.ble (len * sz) 16777216 = true) (h0 : Nat.blt 0 (len * sz) = true)
    (hs : ∀ b, SubI Hs (own b (.cells (vs.flatMap fun v => v.cells.toList).toArray e) :: H))
    (h : ∀ b, SL P ro K w0 N ops Hs items Q D ((t, .slice (some ⟨b, 0, none⟩) len len) :: l) (own b (.cells (vs.flatMap fun v => v.cells.toList).toArray e) :: H)) : SL P ro K w0 N ops Hs (.cons (false, o) items) Q D l H :=
  SL.step (fun b => .slice (some ⟨b, 0, none⟩) len len) (fun b => own b (.cells (vs.flatMap fun v => v.cells.toList).toArray e) :: H) ho rfl (fun a w ha hw => by
    refine ⟨w.heap.size, w.alloc (.cells (vs.flatMap fun v => v.cells.toList).toArray e), ?_, by exact hw.alloc _⟩
    have hev := evs.eval ha hv
    have hp : (parts.map fun (i, x) => (i, a.eval x)).toList = (List.range' 0 vs.length).zip vs := by
      rw [Array.toList_map, zip_parts, hev, hi, hlen]
    have hle : ¬ (len * sz > 2 ^ 24) := by have := Nat.le_of_ble_eq_true hlt; omega
    have hne : ¬ (len * sz = 0) := by have := blt_lt h0; omega
    have hfl : ∀ us : List Value, (∀ v ∈ us, v.cells.size = sz) → (us.flatMap fun v => v.cells.toList).length = us.length * sz := by
      intro us
      induction us with
      | nil => intro _; simp
      | cons u us ih =>
        intro hu
        have h1 : u.cells.toList.length = sz := by rw [Array.length_toList]; exact hu u (List.mem_cons_self ..)
        rw [List.flatMap_cons, List.length_append, ih (fun v hv => hu v (List.mem_cons_of_mem _ hv)), h1, List.length_cons, Nat.add_mul, Nat.one_mul, Nat.add_comm]
    have hf : Instr.fill (fun i => some (i * sz, sz)) ((Array.range (len * sz)).map (zv.cells[· % zv.cells.size]!)) ((List.range' 0 vs.length).zip vs) = some (vs.flatMap fun v => v.cells.toList).toArray := by
      rw [fill_full sz vs 0 _ hs1 (by simp [hlen])]
      congr 1
      apply Array.ext'
      rw [setL_toList _ _ _ (by rw [hfl vs hs1]; simp [hlen]), hfl vs hs1, hlen]
      simp
    unfold execOp
    simp only [ho.op, Instr.buildSlice, Sem.run_bind, run_underlying hty, Result.andThen_ok, run_sizeOf hsz, if_neg hle, if_neg hne, run_zero hze, Sem.run_pure, hp, hf, newRow, run_newObj]
    rfl) hs h
end Go.Proofs.YtnpnmdbleopikaaDoor
