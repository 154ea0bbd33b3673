/- The texts VY2, VW4, VY3, VY4, one behind the other: each bears its own sentence. Conditions: as each says. -/
import Derived.Test.YtddjneafgddlcaaDoorVB1
import Derived.Test.YtddjneafgddlcaaDoorVB2
import Derived.Test.YtddjneafgddlcaaDoorVB3
import Derived.Test.YtddjneafgddlcaaDoorVB4
import Derived.Test.YtddjneafgddlcaaDoorVB5

/- A vault and what it holds: what is written is read; the laws' beginning. No program's walk in sight. Condition: as each says. -/
namespace Go.Proofs.YtddjneafgddlcaaDoor
open Go

/-- a vault that goes on -/
structure VS (N c : Nat) (R : List KeyA) (g : UInt32) (v : VltA) (d : DevA) : Prop where
  dev : DOk N c d
  ring : v.ring = R
  rlen : R.length ≤ 1099511627776
  gen : v.gen = g
  boot : v.boot = 7
  tlen : v.taken.length ≤ c
/-- what is held in a place, whose text can be read -/
structure Held (T : List UInt32) (R : List KeyA) (d : DevA) (p g : UInt32) (q : UInt64) (s b : List UInt8) : Prop where
  key : ∃ k, findA R g = (k, 0) ∧ b = blkA T k ⟨p, g, 7, q⟩ s
  txt : s.length ≤ 198
  is : hold d p = b
theorem Held.len {T : List UInt32} {R : List KeyA} {d : DevA} {p g : UInt32} {q : UInt64} {s b : List UInt8} (h : Held T R d p g q s b) : b.length = 256 := by
  obtain ⟨k, _, rfl⟩ := h.key
  exact blkA_length T k _ h.txt
theorem Held.page {T : List UInt32} {R : List KeyA} {d : DevA} {p g : UInt32} {q : UInt64} {s b : List UInt8} (h : Held T R d p g q s b) : pageOf b = p := by
  obtain ⟨k, _, rfl⟩ := h.key
  exact pageOf_blk T k _ s
theorem Held.opens {T : List UInt32} {R : List KeyA} {d : DevA} {p g : UInt32} {q : UInt64} {s b : List UInt8} (h : Held T R d p g q s b) : openA T R b = (⟨p, g, 7, q⟩, s, 0) := by
  obtain ⟨k, hk, rfl⟩ := h.key
  have hs : sealA T R ⟨p, g, 7, q⟩ s = (blkA T k ⟨p, g, 7, q⟩ s, 0) := by
    unfold sealA
    have := h.txt
    simp [hk]
    omega
  have := open_seal (T := T) (l := R) (h := ⟨p, g, 7, q⟩) (s := s) (by rw [hs])
  rwa [hs] at this
theorem Held.put {T : List UInt32} {R : List KeyA} {d d' : DevA} {p p' g : UInt32} {q : UInt64} {s b b' : List UInt8} (h : Held T R d p g q s b) (hd : ∀ x, hold d' x = if p' = x then b' else hold d x) (hne : p' ≠ p) : Held T R d' p g q s b :=
  ⟨h.key, h.txt, by rw [hd, if_neg hne]; exact h.is⟩
theorem Held.ringed {T : List UInt32} {R R' : List KeyA} {d : DevA} {p g : UInt32} {q : UInt64} {s b : List UInt8} (h : Held T R d p g q s b) (hf : findA R' g = findA R g) : Held T R' d p g q s b := by
  obtain ⟨k, hk, hb⟩ := h.key
  exact ⟨⟨k, by rw [hf]; exact hk, hb⟩, h.txt, h.is⟩
theorem ofNat_ne {i j : Nat} (hi : i < 4294967296) (hj : j < 4294967296) (h : i ≠ j) : UInt32.ofNat i ≠ UInt32.ofNat j := fun e => h (by
  have := congrArg UInt32.toNat e
  simpa [Nat.mod_eq_of_lt hi, Nat.mod_eq_of_lt hj] using this)
theorem VS.write {T : List UInt32} {N c : Nat} {R : List KeyA} {g : UInt32} {v : VltA} {d : DevA} (V : VS N c R g v d) (hc : c + 1 ≤ 100) {k : KeyA} (hk : findA R g = (k, 0)) {s : List UInt8} (hs : s.length ≤ 198) (j : Nat)
    (h2 : 2 ≤ j) (hj : j < N) (hfree : takenA v (UInt32.ofNat j) = false) (htk : ∀ x, 2 ≤ x → x < j → takenA v (UInt32.ofNat x) = true) :
    ∃ v' d' b, f_vault_Vault_Write T v d s = some (⟨UInt32.ofNat j, b.drop 224⟩, 0, v', d') ∧ VS N (c + 1) R g v' d' ∧ v'.seals = v.seals + 1 ∧ v'.taken = mput v.taken (UInt32.ofNat j) true ∧
      (∀ q, hold d' q = if UInt32.ofNat j = q then b else hold d q) ∧ Held T R d' (UInt32.ofNat j) g v.seals s b ∧ b = blkA T k ⟨UInt32.ofNat j, g, 7, v.seals⟩ s ∧ d'.blocks = d.blocks := by
  have hN := V.dev.nle
  have hjn : (UInt32.ofNat j).toNat = j := by simp; omega
  have hh : hd v (UInt32.ofNat j) = ⟨UInt32.ofNat j, g, 7, v.seals⟩ := by simp only [hd, V.gen, V.boot]
  have hb := blkA_length T k (hd v (UInt32.ofNat j)) hs
  have hw := write_at (T := T) V.dev hc (by rw [V.ring]; exact V.rlen) (by rw [V.ring, V.gen]; exact hk) hs h2 hj hfree htk (by have := V.tlen; omega)
  refine ⟨_, _, _, hw, ⟨(V.dev.write hc (by rw [hjn]; exact hj) hb).2, V.ring, V.rlen, V.gen, V.boot, ?_⟩, rfl, rfl, fun q => hold_put, ⟨⟨k, hk, by rw [hh]⟩, hs, ?_⟩, by rw [hh], rfl⟩
  · have : (mdel v.taken (UInt32.ofNat j)).length ≤ v.taken.length := List.length_filter_le ..
    have := V.tlen
    show (mdel v.taken (UInt32.ofNat j)).length + 1 ≤ c + 1
    omega
  · rw [hold_put, if_pos rfl]
theorem VS.read {T : List UInt32} {N c : Nat} {R : List KeyA} {g g' : UInt32} {v : VltA} {d : DevA} (V : VS N c R g v d) {p : UInt32} {q : UInt64} {s b : List UInt8} (h : Held T R d p g' q s b) (hp2 : 2 ≤ p.toNat) (hp : p.toNat < N) :
    f_vault_Vault_Read T v d ⟨p, b.drop 224⟩ = some (s, 0) ∧ f_vault_Vault_Gen T v d ⟨p, b.drop 224⟩ = some (g', 0) := by
  have hb := h.len
  have hr : f_device_Device_Read d p = some (b, 0) := by rw [V.dev.read hp, h.is]
  have ht : (b.drop 224).length = 32 := by simp [hb]
  have hl : v.ring.length ≤ 1099511627776 := by rw [V.ring]; exact V.rlen
  have h1 := read_at (T := T) (v := v) (d := d) (r := ⟨p, b.drop 224⟩) hp2 ht hr hb hl
  have h3 := gen_at (T := T) (v := v) (d := d) (r := ⟨p, b.drop 224⟩) hp2 ht hr hb hl
  rw [if_pos ⟨rfl, h.page⟩, V.ring, h.opens] at h1 h3
  exact ⟨h1, h3⟩
/-! ### The laws' vaults -/
def d0 (N : Nat) : DevA := { off := false, isCut := false, lasts := 0, counts := 0, blocks := List.replicate N (List.replicate 256 0), pend := [], bad := [], rcnt := 0, rtag := List.replicate 32 0, rboots := 0 }
def v0 : VltA := { ring := ringA 2, gen := 1, boot := 7, seals := 0, taken := [] }
theorem d0_ok {N : Nat} (h : N ≤ 4096) : DOk N 0 (d0 N) := ⟨List.length_replicate .., h, rfl, rfl, rfl, Nat.le_refl 0, by omega⟩
theorem v0_ok {N : Nat} (h : N ≤ 4096) : VS N 0 (ringA 2) 1 v0 (d0 N) := ⟨d0_ok h, rfl, by rw [ringA_length]; omega, rfl, rfl, Nat.le_refl 0⟩
theorem find1 {m : Nat} (h : 1 ≤ m) (hm : m ≤ 16) : findA (ringA m) 1 = (keyN 0, 0) := findA_ring hm h
theorem find2 {m : Nat} (h : 2 ≤ m) (hm : m ≤ 16) : findA (ringA m) 2 = (keyN 1, 0) := findA_ring hm h
theorem new07 {N n : Nat} (h4 : 4 ≤ N) (hN : N ≤ 4096) (hn : N < n) : ∃ r : RDevA, f_ref07_New n (N : Int) = some (some r, 0) ∧ r.blk.length = N := by
  refine ⟨{ blk := List.replicate N (List.replicate 256 0), pnd := List.replicate N [], bads := List.replicate N false, rcnt := 0, rtag := List.replicate 32 0, rboots := 0, left := -1, off := false }, ?_, List.length_replicate ..⟩
  have z : ∀ k : Nat, k ≤ 1048576 → f_ref07_Zeros (k : Int) = some (List.replicate k 0) := fun k hk => by
    rw [zeros_eq (by omega) (by omega)]
    simp
  have z1 := z 32 (by omega)
  have z2 := z 256 (by omega)
  clear z
  unfold f_ref07_New
  have hc : (decide ((N : Int) < 4) || decide (4096 < (N : Int))) = false := by simp; omega
  rw [hc, cond_false]
  show (f_ref07_Zeros ((32 : Nat) : Int)).bind _ = _
  rw [z1, some_bind]
  generalize List.replicate 32 (0 : UInt8) = Y
  generalize List.replicate 256 (0 : UInt8) = Z at z2 ⊢
  unfold f_ref07_New_l1
  refine loop_all (fun i => (List.replicate i Z, List.replicate i [], List.replicate i false, (i : Int))) N ?_ ?_ hn
  · intro i hi k
    simp only [f_ref07_New_l1_b]
    rw [decide_eq_true (by omega), cond_true]
    show (f_ref07_Zeros ((256 : Nat) : Int)).bind _ = _
    rw [z2, some_bind, appL_eq (by simp; omega) (by simp; omega), some_bind, appL_eq (by simp; omega) (by simp; omega), some_bind, appL_eq (by simp; omega) (by simp; omega), some_bind, ret_eq, wI_eq (by omega) (by omega)]
    rw [← List.replicate_succ', ← List.replicate_succ', ← List.replicate_succ']
    rfl
  · intro k
    simp only [f_ref07_New_l1_b]
    rw [decide_eq_false (by omega), cond_false]
    rfl
theorem made_eq {N n : Nat} (h4 : 4 ≤ N) (hN : N ≤ 4096) (hn : 4200 ≤ n) : ∃ w c, f_law13_made n (N : Int) = some (some (v0, d0 N, w, c), true) := by
  obtain ⟨r, hr, hrl⟩ := new07 h4 hN (show N < n by omega)
  obtain ⟨b1, hb1⟩ : ∃ w, f_ref13_New n r (ringA 2) 1 7 = some (some w, 0) := by
    unfold f_ref13_New
    have hm : mkI 1 (r.blk.length : Int) false = some (List.replicate N false) := by
      unfold mkI
      rw [hrl, if_pos ⟨by omega, by omega, by omega⟩]
      simp
    have h0 : nthI (List.replicate N false) 0 = some false := by
      have := nthI_getD (l := List.replicate N false) (i := 0) (k := 0) false rfl (by simp; omega)
      rw [this]
      congr 1
      cases N <;> rfl
    have h1 : setI (List.replicate N false) 0 true = some ((List.replicate N false).set 0 true) := setI_of rfl (by simp; omega)
    have h2 : ∃ x, nthI ((List.replicate N false).set 0 true) 1 = some x := ⟨_, nthI_getD (k := 1) false rfl (by simp; omega)⟩
    obtain ⟨x, h2⟩ := h2
    have h3 : setI ((List.replicate N false).set 0 true) 1 true = some (((List.replicate N false).set 0 true).set 1 true) := setI_of rfl (by simp; omega)
    rw [find04 (ringA 2) 1 (by rw [ringA_length]; omega) (by omega), find1 (by omega) (by omega), some_bind, hm, some_bind, h0, some_bind, h1, some_bind, h2, some_bind, h3, some_bind]
    exact ⟨_, rfl⟩
  refine ⟨b1, r, ?_⟩
  have hv : f_vault_New (d0 N) (ringA 2) 1 7 = some (some v0, 0) := by
    unfold f_vault_New findO
    rw [if_pos (by rw [ringA_length]; omega), some_bind, find1 (by omega) (by omega), appL_eq (by simp [ringA_length]) (by simp [ringA_length]), some_bind]
    rfl
  have hring : f_law13_Ring n 2 = some (ringA 2) := ring_eq 2 (by omega) (by omega)
  unfold f_law13_made
  rw [new_eq (by omega) (by omega), some_bind, some_bind, hr, some_bind, some_bind]
  show (f_law13_Ring n 2).bind _ = _
  rw [hring, some_bind]
  show (f_vault_New (d0 N) (ringA 2) 1 7).bind _ = _
  rw [hv, some_bind, some_bind, some_bind, hb1, some_bind, some_bind]
  rfl
theorem taken_mput {v v' : VltA} {p q : UInt32} (h : v'.taken = mput v.taken p true) : takenA v' q = if p = q then true else takenA v q := by
  unfold takenA
  rw [h, mget_put]
  split <;> rfl
theorem p_vshown (T : List UInt32) {n : Nat} (hn : 4200 ≤ n) : f_law13_shown n T = some true := by
  obtain ⟨w, c, hm⟩ := made_eq (N := 6) (by omega) (by omega) hn
  have k1 := find1 (m := 2) (by omega) (by omega)
  have V0 := v0_ok (N := 6) (by omega)
  obtain ⟨v1, d1, b1, e1, V1, s1, t1, h1, H1, _, _⟩ := V0.write (T := T) (s := [97]) (by omega) k1 (by simp) 2 (by omega) (by omega) rfl (by omega)
  have T1 := fun q => taken_mput (q := q) t1
  obtain ⟨v2, d2, b2, e2, V2, s2, t2, h2, H2, _, _⟩ := V1.write (T := T) (s := [98]) (by omega) k1 (by simp) 3 (by omega) (by omega) (by rw [T1, if_neg (ofNat_ne (by omega) (by omega) (by omega))]; rfl) (fun x hx1 hx2 => by
    have hx : x = 2 := by omega
    rw [hx, T1, if_pos rfl])
  have T2 := fun q => taken_mput (q := q) t2
  have hg : f_vault_Vault_Give v2 d2 2 = some (0, { v2 with taken := mdel v2.taken 2 }) := by
    unfold f_vault_Vault_Give
    have hp : f_vault_Vault_isPage v2 d2 2 = some true := by
      have := isPage_eq v2 d2 2 (by omega) (by omega)
      rw [V2.dev.blen] at this
      exact this
    have ht : (mget v2.taken 2).getD false = true := by
      show takenA v2 2 = true
      rw [T2, T1, if_pos (show UInt32.ofNat 2 = 2 from rfl)]
      split <;> rfl
    rw [hp, some_bind, ret_eq, ht]
    rfl
  have V3 : VS 6 2 (ringA 2) 1 { v2 with taken := mdel v2.taken 2 } d2 := ⟨V2.dev, V2.ring, V2.rlen, V2.gen, V2.boot, by
    have : (mdel v2.taken 2).length ≤ v2.taken.length := List.length_filter_le ..
    exact Nat.le_trans this V2.tlen⟩
  obtain ⟨v4, d4, b4, e4, V4, s4, t4, h4, H4, _, _⟩ := V3.write (T := T) (s := [99]) (by omega) k1 (by simp) 2 (by omega) (by omega) (by
    show (mget (mdel v2.taken 2) (UInt32.ofNat 2)).getD false = false
    rw [mget_del, if_pos (show (2 : UInt32) = UInt32.ofNat 2 from rfl)]
    rfl) (by omega)
  have H3 := H2.put h4 (ofNat_ne (i := 2) (j := 3) (by omega) (by omega) (by omega))
  obtain ⟨r1, _⟩ := V4.read H3 (by decide) (by decide)
  have hs4 : v4.seals = 3 := by
    rw [s4]
    show v2.seals + 1 = 3
    rw [s2, s1]
    rfl
  unfold f_law13_shown
  rw [show (6 : Int) = ((6 : Nat) : Int) from rfl, hm, some_bind, some_bind]
  show (f_vault_Vault_Write T v0 (d0 6) [97]).bind _ = _
  rw [e1, some_bind]
  show (f_vault_Vault_Write T v1 d1 [98]).bind _ = _
  rw [e2, some_bind]
  show (f_vault_Vault_Give v2 d2 2).bind _ = _
  rw [hg, some_bind]
  show (f_vault_Vault_Write T { v2 with taken := mdel v2.taken 2 } d2 [99]).bind _ = _
  rw [e4, some_bind]
  show (f_vault_Vault_Read T v4 d4 ⟨UInt32.ofNat 3, b2.drop 224⟩).bind _ = _
  rw [r1, some_bind]
  show (andO _ ((f_vault_Vault_Seals v4 d4).bind _)).bind _ = _
  unfold f_vault_Vault_Seals
  rw [hs4]
  rfl
end Go.Proofs.YtddjneafgddlcaaDoor

/- Plain functions of the references and the laws, printed from the loaded program, and the walks that show that the program computes them. Condition: the plain function yields. -/
namespace Go.Proofs.YtddjneafgddlcaaDoor
open Go
variable {K : Nat → Prop} {w0 : World} {H : List Chunk}

def f_vault_Vault_Write_nil (p1 : List UInt8) : Option (RefA × Int) :=
  some ((⟨0, []⟩ : RefA), 1)
set_option maxRecDepth 100000 in
theorem c_vault_Vault_Write_nil {p1 : List UInt8} {r : RefA × Int} (h : f_vault_Vault_Write_nil p1 = some r)  : Con Tryd.prog K w0 16 [.pointer none, vS p1] [] H (fun u M => u = .tuple #[.agg (encRef r.1).toArray, vI r.2] ∧ M = []) := by
  unfold f_vault_Vault_Write_nil at h
  refine Con.enter Tryd.func16 rfl rfl ?_
  refine SX.sr ?_
  refine SL.alloc ⟨rfl, rfl, rfl, rfl⟩ ze41 (fun _ => trivial) fun b1 => ?_
  refine SL.asg ⟨rfl, rfl, rfl, rfl⟩ rfl ?_
  refine SL.nx ?_
  refine SX.scope ?_
  refine SX.seq ?_
  refine SX.block ?_
  refine SX.sr ?_
  refine SL.mv ⟨rfl, rfl, rfl, rfl⟩ rfl ?_
  refine SL.eqPN ⟨rfl, rfl, rfl, rfl⟩ ty28 rfl rfl ?_
  refine SL.asg ⟨rfl, rfl, rfl, rfl⟩ rfl ?_
  refine SL.nx ?_
  refine SX.condT rfl ?_
  refine SX.sr ?_
  refine SL.bld [] ⟨rfl, rfl, rfl, rfl⟩ pl41 pk41 ze41 trivial rfl ?_
  refine SL.st 0 ⟨rfl, rfl, rfl⟩ rfl rfl rfl sz41 rfl rfl rfl trivial ?_
  refine SL.asg ⟨rfl, rfl, rfl, rfl⟩ rfl ?_
  refine SL.nx ?_
  refine SX.ret ?_
  refine SQ.blkR ?_
  refine SQ.thnR ?_
  refine SQ.scpR ?_
  obtain rfl := Option.some.inj h
  exact SQ.fret (resv2 rfl (resv.ag 0 (encRef (⟨0, []⟩ : RefA)) ag41 rfl rfl rfl rfl) rfl) (ret_of (M := []) ⟨rfl, rfl⟩ fun _ hw => HpOk.pick (H := [_]) hw [] 1 rfl)

def f_vault_Vault_Super_nil (p1 : UInt32) (p2 : List UInt8) : Option (List UInt8 × Int) :=
  some ([], 1)
set_option maxRecDepth 100000 in
theorem c_vault_Vault_Super_nil {p1 : UInt32} {p2 : List UInt8} {r : List UInt8 × Int} (h : f_vault_Vault_Super_nil p1 p2 = some r)  : Con Tryd.prog K w0 20 [.pointer none, vU32 p1, vS p2] [] H (fun u M => u = .tuple #[vS r.1, vI r.2] ∧ M = []) := by
  unfold f_vault_Vault_Super_nil at h
  refine Con.enter Tryd.func20 rfl rfl ?_
  refine SX.sr ?_
  refine SL.asg ⟨rfl, rfl, rfl, rfl⟩ rfl ?_
  refine SL.asg ⟨rfl, rfl, rfl, rfl⟩ rfl ?_
  refine SL.nx ?_
  refine SX.seq ?_
  refine SX.block ?_
  refine SX.sr ?_
  refine SL.mv ⟨rfl, rfl, rfl, rfl⟩ rfl ?_
  refine SL.eqPN ⟨rfl, rfl, rfl, rfl⟩ ty28 rfl rfl ?_
  refine SL.asg ⟨rfl, rfl, rfl, rfl⟩ rfl ?_
  refine SL.nx ?_
  refine SX.condT rfl ?_
  refine SX.sr ?_
  refine SL.asg ⟨rfl, rfl, rfl, rfl⟩ rfl ?_
  refine SL.asg ⟨rfl, rfl, rfl, rfl⟩ rfl ?_
  refine SL.nx ?_
  refine SX.ret ?_
  refine SQ.blkR ?_
  refine SQ.thnR ?_
  obtain rfl := Option.some.inj h
  exact SQ.fret (res2 rfl rfl rfl) (ret_of (M := []) ⟨rfl, rfl⟩ fun _ hw => HpOk.pick (H := []) hw [] 0 rfl)

def f_vault_Vault_Read_nil (p1 : RefA) : Option (List UInt8 × Int) :=
  some ([], 1)
set_option maxRecDepth 100000 in
theorem c_vault_Vault_Read_nil {p1 : RefA} {r : List UInt8 × Int} (h : f_vault_Vault_Read_nil p1 = some r)  : Con Tryd.prog K w0 19 [.pointer none, .agg (encRef p1).toArray] [] H (fun u M => u = .tuple #[vS r.1, vI r.2] ∧ M = []) := by
  unfold f_vault_Vault_Read_nil at h
  refine Con.enter Tryd.func19 rfl rfl ?_
  refine SX.sr ?_
  refine SL.box ⟨rfl, rfl, rfl, rfl⟩ rfl (fun _ => trivial) fun b1 => ?_
  refine SL.asg ⟨rfl, rfl, rfl, rfl⟩ rfl ?_
  refine SL.asg ⟨rfl, rfl, rfl, rfl⟩ rfl ?_
  refine SL.nx ?_
  refine SX.seq ?_
  refine SX.block ?_
  refine SX.sr ?_
  refine SL.mv ⟨rfl, rfl, rfl, rfl⟩ rfl ?_
  refine SL.eqPN ⟨rfl, rfl, rfl, rfl⟩ ty28 rfl rfl ?_
  refine SL.asg ⟨rfl, rfl, rfl, rfl⟩ rfl ?_
  refine SL.nx ?_
  refine SX.condT rfl ?_
  refine SX.sr ?_
  refine SL.asg ⟨rfl, rfl, rfl, rfl⟩ rfl ?_
  refine SL.asg ⟨rfl, rfl, rfl, rfl⟩ rfl ?_
  refine SL.nx ?_
  refine SX.ret ?_
  refine SQ.blkR ?_
  refine SQ.thnR ?_
  obtain rfl := Option.some.inj h
  exact SQ.fret (res2 rfl rfl rfl) (ret_of (M := []) ⟨rfl, rfl⟩ fun _ hw => HpOk.pick (H := [_]) hw [] 1 rfl)

def f_vault_Vault_First_nil (p1 : UInt32) (p2 : List UInt8) : Option (List UInt8 × Int) :=
  some ([], 1)
set_option maxRecDepth 100000 in
theorem c_vault_Vault_First_nil {p1 : UInt32} {p2 : List UInt8} {r : List UInt8 × Int} (h : f_vault_Vault_First_nil p1 p2 = some r)  : Con Tryd.prog K w0 23 [.pointer none, vU32 p1, vS p2] [] H (fun u M => u = .tuple #[vS r.1, vI r.2] ∧ M = []) := by
  unfold f_vault_Vault_First_nil at h
  refine Con.enter Tryd.func23 rfl rfl ?_
  refine SX.sr ?_
  refine SL.asg ⟨rfl, rfl, rfl, rfl⟩ rfl ?_
  refine SL.asg ⟨rfl, rfl, rfl, rfl⟩ rfl ?_
  refine SL.nx ?_
  refine SX.seq ?_
  refine SX.sr ?_
  refine SL.mv ⟨rfl, rfl, rfl, rfl⟩ rfl ?_
  refine SL.eqPN ⟨rfl, rfl, rfl, rfl⟩ ty28 rfl rfl ?_
  refine SL.nx ?_
  refine SX.condT rfl ?_
  refine SX.sr ?_
  refine SL.asg ⟨rfl, rfl, rfl, rfl⟩ rfl ?_
  refine SL.asg ⟨rfl, rfl, rfl, rfl⟩ rfl ?_
  refine SL.nx ?_
  refine SX.ret ?_
  refine SQ.thnR ?_
  obtain rfl := Option.some.inj h
  exact SQ.fret (res2 rfl rfl rfl) (ret_of (M := []) ⟨rfl, rfl⟩ fun _ hw => HpOk.pick (H := []) hw [] 0 rfl)

def f_vault_Vault_Gen_nil (p1 : RefA) : Option (UInt32 × Int) :=
  some (0, 1)
set_option maxRecDepth 100000 in
theorem c_vault_Vault_Gen_nil {p1 : RefA} {r : UInt32 × Int} (h : f_vault_Vault_Gen_nil p1 = some r)  : Con Tryd.prog K w0 21 [.pointer none, .agg (encRef p1).toArray] [] H (fun u M => u = .tuple #[vU32 r.1, vI r.2] ∧ M = []) := by
  unfold f_vault_Vault_Gen_nil at h
  refine Con.enter Tryd.func21 rfl rfl ?_
  refine SX.sr ?_
  refine SL.box ⟨rfl, rfl, rfl, rfl⟩ rfl (fun _ => trivial) fun b1 => ?_
  refine SL.asg ⟨rfl, rfl, rfl, rfl⟩ rfl ?_
  refine SL.asg ⟨rfl, rfl, rfl, rfl⟩ rfl ?_
  refine SL.nx ?_
  refine SX.seq ?_
  refine SX.block ?_
  refine SX.sr ?_
  refine SL.mv ⟨rfl, rfl, rfl, rfl⟩ rfl ?_
  refine SL.eqPN ⟨rfl, rfl, rfl, rfl⟩ ty28 rfl rfl ?_
  refine SL.asg ⟨rfl, rfl, rfl, rfl⟩ rfl ?_
  refine SL.nx ?_
  refine SX.condT rfl ?_
  refine SX.sr ?_
  refine SL.asg ⟨rfl, rfl, rfl, rfl⟩ rfl ?_
  refine SL.asg ⟨rfl, rfl, rfl, rfl⟩ rfl ?_
  refine SL.nx ?_
  refine SX.ret ?_
  refine SQ.blkR ?_
  refine SQ.thnR ?_
  obtain rfl := Option.some.inj h
  exact SQ.fret (res2 rfl rfl rfl) (ret_of (M := []) ⟨rfl, rfl⟩ fun _ hw => HpOk.pick (H := [_]) hw [] 1 rfl)

def f_vault_Vault_Take_nil (p1 : UInt32) : Option Int :=
  some 1
set_option maxRecDepth 100000 in
theorem c_vault_Vault_Take_nil {p1 : UInt32} {r : Int} (h : f_vault_Vault_Take_nil p1 = some r)  : Con Tryd.prog K w0 24 [.pointer none, vU32 p1] [] H (fun u M => u = vI r ∧ M = []) := by
  unfold f_vault_Vault_Take_nil at h
  refine Con.enter Tryd.func24 rfl rfl ?_
  refine SX.sr ?_
  refine SL.asg ⟨rfl, rfl, rfl, rfl⟩ rfl ?_
  refine SL.nx ?_
  refine SX.seq ?_
  refine SX.block ?_
  refine SX.sr ?_
  refine SL.mv ⟨rfl, rfl, rfl, rfl⟩ rfl ?_
  refine SL.eqPN ⟨rfl, rfl, rfl, rfl⟩ ty28 rfl rfl ?_
  refine SL.asg ⟨rfl, rfl, rfl, rfl⟩ rfl ?_
  refine SL.nx ?_
  refine SX.condT rfl ?_
  refine SX.sr ?_
  refine SL.asg ⟨rfl, rfl, rfl, rfl⟩ rfl ?_
  refine SL.nx ?_
  refine SX.ret ?_
  refine SQ.blkR ?_
  refine SQ.thnR ?_
  obtain rfl := Option.some.inj h
  exact SQ.fret (res1 rfl rfl) (ret_of (M := []) ⟨rfl, rfl⟩ fun _ hw => HpOk.pick (H := []) hw [] 0 rfl)

def f_vault_Vault_Give_nil (p1 : UInt32) : Option Int :=
  some 1
set_option maxRecDepth 100000 in
theorem c_vault_Vault_Give_nil {p1 : UInt32} {r : Int} (h : f_vault_Vault_Give_nil p1 = some r)  : Con Tryd.prog K w0 25 [.pointer none, vU32 p1] [] H (fun u M => u = vI r ∧ M = []) := by
  unfold f_vault_Vault_Give_nil at h
  refine Con.enter Tryd.func25 rfl rfl ?_
  refine SX.sr ?_
  refine SL.asg ⟨rfl, rfl, rfl, rfl⟩ rfl ?_
  refine SL.nx ?_
  refine SX.seq ?_
  refine SX.block ?_
  refine SX.sr ?_
  refine SL.mv ⟨rfl, rfl, rfl, rfl⟩ rfl ?_
  refine SL.eqPN ⟨rfl, rfl, rfl, rfl⟩ ty28 rfl rfl ?_
  refine SL.asg ⟨rfl, rfl, rfl, rfl⟩ rfl ?_
  refine SL.nx ?_
  refine SX.condT rfl ?_
  refine SX.sr ?_
  refine SL.asg ⟨rfl, rfl, rfl, rfl⟩ rfl ?_
  refine SL.nx ?_
  refine SX.ret ?_
  refine SQ.blkR ?_
  refine SQ.thnR ?_
  obtain rfl := Option.some.inj h
  exact SQ.fret (res1 rfl rfl) (ret_of (M := []) ⟨rfl, rfl⟩ fun _ hw => HpOk.pick (H := []) hw [] 0 rfl)

def f_vault_Vault_Turn_nil (p1 : List KeyA) (p2 : UInt32) : Option Int :=
  some 1
set_option maxRecDepth 100000 in
theorem c_vault_Vault_Turn_nil {v1_ : Value} {p1 : List KeyA} {p2 : UInt32} {r : Int} (h : f_vault_Vault_Turn_nil p1 p2 = some r) (hs1_ : SlOf K w0 encKey 2 v1_ p1) : Con Tryd.prog K w0 22 [.pointer none, v1_, vU32 p2] [] H (fun u M => u = vI r ∧ M = []) := by
  unfold f_vault_Vault_Turn_nil at h
  refine Con.enter Tryd.func22 rfl rfl ?_
  refine SX.sr ?_
  refine SL.asg ⟨rfl, rfl, rfl, rfl⟩ rfl ?_
  refine SL.nx ?_
  refine SX.seq ?_
  refine SX.sr ?_
  refine SL.mv ⟨rfl, rfl, rfl, rfl⟩ rfl ?_
  refine SL.eqPN ⟨rfl, rfl, rfl, rfl⟩ ty28 rfl rfl ?_
  refine SL.nx ?_
  refine SX.condT rfl ?_
  refine SX.sr ?_
  refine SL.asg ⟨rfl, rfl, rfl, rfl⟩ rfl ?_
  refine SL.nx ?_
  refine SX.ret ?_
  refine SQ.thnR ?_
  obtain rfl := Option.some.inj h
  exact SQ.fret (res1 rfl rfl) (ret_of (M := []) ⟨rfl, rfl⟩ fun _ hw => HpOk.pick (H := []) hw [] 0 rfl)

def f_vault_Vault_Free_nil : Option Int :=
  some 0
set_option maxRecDepth 100000 in
theorem c_vault_Vault_Free_nil  {r : Int} (h : f_vault_Vault_Free_nil = some r)  : Con Tryd.prog K w0 13 [.pointer none] [] H (fun u M => u = vI r ∧ M = []) := by
  unfold f_vault_Vault_Free_nil at h
  refine Con.enter Tryd.func13 rfl rfl ?_
  refine SX.sr ?_
  refine SL.asg ⟨rfl, rfl, rfl, rfl⟩ rfl ?_
  refine SL.nx ?_
  refine SX.seq ?_
  refine SX.sr ?_
  refine SL.mv ⟨rfl, rfl, rfl, rfl⟩ rfl ?_
  refine SL.eqPN ⟨rfl, rfl, rfl, rfl⟩ ty28 rfl rfl ?_
  refine SL.nx ?_
  refine SX.condT rfl ?_
  refine SX.sr ?_
  refine SL.asg ⟨rfl, rfl, rfl, rfl⟩ rfl ?_
  refine SL.nx ?_
  refine SX.ret ?_
  refine SQ.thnR ?_
  obtain rfl := Option.some.inj h
  exact SQ.fret (res1 rfl rfl) (ret_of (M := []) ⟨rfl, rfl⟩ fun _ hw => HpOk.pick (H := []) hw [] 0 rfl)

def f_vault_Vault_Seals_nil : Option UInt64 :=
  some 0
set_option maxRecDepth 100000 in
theorem c_vault_Vault_Seals_nil  {r : UInt64} (h : f_vault_Vault_Seals_nil = some r)  : Con Tryd.prog K w0 14 [.pointer none] [] H (fun u M => u = vU64 r ∧ M = []) := by
  unfold f_vault_Vault_Seals_nil at h
  refine Con.enter Tryd.func14 rfl rfl ?_
  refine SX.sr ?_
  refine SL.asg ⟨rfl, rfl, rfl, rfl⟩ rfl ?_
  refine SL.nx ?_
  refine SX.seq ?_
  refine SX.sr ?_
  refine SL.mv ⟨rfl, rfl, rfl, rfl⟩ rfl ?_
  refine SL.eqPN ⟨rfl, rfl, rfl, rfl⟩ ty28 rfl rfl ?_
  refine SL.nx ?_
  refine SX.condT rfl ?_
  refine SX.sr ?_
  refine SL.asg ⟨rfl, rfl, rfl, rfl⟩ rfl ?_
  refine SL.nx ?_
  refine SX.ret ?_
  refine SQ.thnR ?_
  obtain rfl := Option.some.inj h
  exact SQ.fret (res1 rfl rfl) (ret_of (M := []) ⟨rfl, rfl⟩ fun _ hw => HpOk.pick (H := []) hw [] 0 rfl)

def f_law13_VaultNone (n : Nat) (T : List UInt32) (p0 : List UInt8) (p1 : RefA) (p2 : UInt32) : Option Bool :=
  (f_law13_shown n T).bind fun y1 =>
  (f_vault_Vault_Write_nil p0).bind fun y2 =>
  (f_vault_Vault_Super_nil p2 p0).bind fun y3 =>
  (f_vault_Vault_Read_nil p1).bind fun y4 =>
  (f_vault_Vault_First_nil p2 p0).bind fun y5 =>
  (f_vault_Vault_Gen_nil p1).bind fun y6 =>
  (andO (((((y1 && (decide (y2.2 = 1))) && (decide (y3.2 = 1))) && (decide (y4.2 = 1))) && (decide (y5.2 = 1))) && (decide (y6.2 = 1))) ((f_vault_Vault_Take_nil p2).bind fun y7 => some (decide (y7 = 1)))).bind fun y8 =>
  (andO y8 ((f_vault_Vault_Give_nil p2).bind fun y9 => some (decide (y9 = 1)))).bind fun y10 =>
  (andO y10 ((f_vault_Vault_Turn_nil [] p2).bind fun y11 => some (decide (y11 = 1)))).bind fun y12 =>
  (andO y12 ((f_vault_Vault_Free_nil).bind fun y13 => some (decide (y13 = 0)))).bind fun y14 =>
  (andO y14 ((f_vault_Vault_Seals_nil).bind fun y15 => some (decide (y15 = 0)))).bind fun y16 =>
  some y16
set_option maxRecDepth 100000 in
theorem c_law13_VaultNone {n : Nat} {T : List UInt32} {p0 : List UInt8} {p1 : RefA} {p2 : UInt32} {r : Bool} (h : f_law13_VaultNone n T p0 p1 p2 = some r) (hS : ShaT K w0 T) : Con Tryd.prog K w0 8 [vS p0, .agg (encRef p1).toArray, vU32 p2] [] H (fun u M => u = vB r ∧ M = []) := by
  unfold f_law13_VaultNone at h
  refine Con.enter Tryd.func8 rfl rfl ?_
  refine SX.sr ?_
  refine SL.box ⟨rfl, rfl, rfl, rfl⟩ rfl (fun _ => trivial) fun b1 => ?_
  refine SL.asg ⟨rfl, rfl, rfl, rfl⟩ rfl ?_
  refine SL.nx ?_
  refine SX.sr ?_
  obtain ⟨y1, hy1, h⟩ := bnd h
  refine SL.call (vs := []) (Hin := []) (Hr := _ :: _) ⟨rfl, rfl, rfl, rfl⟩ rfl trivial cal9 rfl rfl (c_law13_shown hy1 hS) ?_
  rintro _ _ ⟨rfl, rfl⟩
  refine ⟨trivial, ?_⟩
  refine SL.asg ⟨rfl, rfl, rfl, rfl⟩ rfl ?_
  refine SL.nx ?_
  refine SX.sr ?_
  refine SL.asg ⟨rfl, rfl, rfl, rfl⟩ rfl ?_
  refine SL.nx ?_
  refine SX.sr ?_
  obtain ⟨y2, hy2, h⟩ := bnd h
  refine SL.mv ⟨rfl, rfl, rfl, rfl⟩ rfl ?_
  refine SL.mv ⟨rfl, rfl, rfl, rfl⟩ rfl ?_
  refine SL.call (vs := [_, _]) (Hin := []) (Hr := _ :: _) ⟨rfl, rfl, rfl, rfl⟩ rfl ⟨rfl, rfl, trivial⟩ cal16 rfl rfl (c_vault_Vault_Write_nil hy2) ?_
  rintro _ _ ⟨rfl, rfl⟩
  refine ⟨trivial, ?_⟩
  refine SL.mv ⟨rfl, rfl, rfl, rfl⟩ rfl ?_
  refine SL.ext ⟨rfl, rfl, rfl, rfl⟩ rfl rfl ?_
  refine SL.ext ⟨rfl, rfl, rfl, rfl⟩ rfl rfl ?_
  refine SL.alloc ⟨rfl, rfl, rfl, rfl⟩ ze41 (fun _ => trivial) fun b2 => ?_
  refine SL.st 0 ⟨rfl, rfl, rfl⟩ rfl rfl rfl sz41 rfl rfl rfl trivial ?_
  refine SL.asg ⟨rfl, rfl, rfl, rfl⟩ rfl ?_
  refine SL.nx ?_
  refine SX.sr ?_
  obtain ⟨y3, hy3, h⟩ := bnd h
  refine SL.mv ⟨rfl, rfl, rfl, rfl⟩ rfl ?_
  refine SL.mv ⟨rfl, rfl, rfl, rfl⟩ rfl ?_
  refine SL.mv ⟨rfl, rfl, rfl, rfl⟩ rfl ?_
  refine SL.call (vs := [_, _, _]) (Hin := []) (Hr := _ :: _ :: _) ⟨rfl, rfl, rfl, rfl⟩ rfl ⟨rfl, rfl, rfl, trivial⟩ cal20 rfl rfl (c_vault_Vault_Super_nil hy3) ?_
  rintro _ _ ⟨rfl, rfl⟩
  refine ⟨trivial, ?_⟩
  refine SL.mv ⟨rfl, rfl, rfl, rfl⟩ rfl ?_
  refine SL.ext ⟨rfl, rfl, rfl, rfl⟩ rfl rfl ?_
  refine SL.ext ⟨rfl, rfl, rfl, rfl⟩ rfl rfl ?_
  refine SL.asg ⟨rfl, rfl, rfl, rfl⟩ rfl ?_
  refine SL.asg ⟨rfl, rfl, rfl, rfl⟩ rfl ?_
  refine SL.nx ?_
  refine SX.sr ?_
  obtain ⟨y4, hy4, h⟩ := bnd h
  refine SL.mv ⟨rfl, rfl, rfl, rfl⟩ rfl ?_
  refine SL.ldA [vU32 p1.page, vS p1.tag] ⟨rfl, rfl, rfl, rfl⟩ ag41 rfl rfl (cells_all 1 rfl) ?_
  refine SL.call (vs := [_, _]) (Hin := []) (Hr := _ :: _ :: _) ⟨rfl, rfl, rfl, rfl⟩ rfl ⟨rfl, rfl, trivial⟩ cal19 rfl rfl ((c_vault_Vault_Read_nil hy4 :)) ?_
  rintro _ _ ⟨rfl, rfl⟩
  refine ⟨trivial, ?_⟩
  refine SL.mv ⟨rfl, rfl, rfl, rfl⟩ rfl ?_
  refine SL.ext ⟨rfl, rfl, rfl, rfl⟩ rfl rfl ?_
  refine SL.ext ⟨rfl, rfl, rfl, rfl⟩ rfl rfl ?_
  refine SL.asg ⟨rfl, rfl, rfl, rfl⟩ rfl ?_
  refine SL.asg ⟨rfl, rfl, rfl, rfl⟩ rfl ?_
  refine SL.nx ?_
  refine SX.sr ?_
  obtain ⟨y5, hy5, h⟩ := bnd h
  refine SL.mv ⟨rfl, rfl, rfl, rfl⟩ rfl ?_
  refine SL.mv ⟨rfl, rfl, rfl, rfl⟩ rfl ?_
  refine SL.mv ⟨rfl, rfl, rfl, rfl⟩ rfl ?_
  refine SL.call (vs := [_, _, _]) (Hin := []) (Hr := _ :: _ :: _) ⟨rfl, rfl, rfl, rfl⟩ rfl ⟨rfl, rfl, rfl, trivial⟩ cal23 rfl rfl (c_vault_Vault_First_nil hy5) ?_
  rintro _ _ ⟨rfl, rfl⟩
  refine ⟨trivial, ?_⟩
  refine SL.mv ⟨rfl, rfl, rfl, rfl⟩ rfl ?_
  refine SL.ext ⟨rfl, rfl, rfl, rfl⟩ rfl rfl ?_
  refine SL.ext ⟨rfl, rfl, rfl, rfl⟩ rfl rfl ?_
  refine SL.asg ⟨rfl, rfl, rfl, rfl⟩ rfl ?_
  refine SL.asg ⟨rfl, rfl, rfl, rfl⟩ rfl ?_
  refine SL.nx ?_
  refine SX.sr ?_
  obtain ⟨y6, hy6, h⟩ := bnd h
  refine SL.mv ⟨rfl, rfl, rfl, rfl⟩ rfl ?_
  refine SL.ldA [vU32 p1.page, vS p1.tag] ⟨rfl, rfl, rfl, rfl⟩ ag41 rfl rfl (cells_all 1 rfl) ?_
  refine SL.call (vs := [_, _]) (Hin := []) (Hr := _ :: _ :: _) ⟨rfl, rfl, rfl, rfl⟩ rfl ⟨rfl, rfl, trivial⟩ cal21 rfl rfl ((c_vault_Vault_Gen_nil hy6 :)) ?_
  rintro _ _ ⟨rfl, rfl⟩
  refine ⟨trivial, ?_⟩
  refine SL.mv ⟨rfl, rfl, rfl, rfl⟩ rfl ?_
  refine SL.ext ⟨rfl, rfl, rfl, rfl⟩ rfl rfl ?_
  refine SL.ext ⟨rfl, rfl, rfl, rfl⟩ rfl rfl ?_
  refine SL.asg ⟨rfl, rfl, rfl, rfl⟩ rfl ?_
  refine SL.asg ⟨rfl, rfl, rfl, rfl⟩ rfl ?_
  refine SL.nx ?_
  refine SX.sr ?_
  obtain ⟨y8, hy8, h⟩ := bnd h
  obtain ⟨y10, hy10, h⟩ := bnd h
  obtain ⟨y12, hy12, h⟩ := bnd h
  obtain ⟨y14, hy14, h⟩ := bnd h
  obtain ⟨y16, hy16, h⟩ := bnd h
  refine SL.mv ⟨rfl, rfl, rfl, rfl⟩ rfl ?_
  refine SL.mv ⟨rfl, rfl, rfl, rfl⟩ rfl ?_
  refine SL.and (c := decide (y2.2 = 1)) 53 3 56 rfl (fun hb k => ?_) (fun hb k => ?_) ?_
  · skip
    refine SL.mv ⟨rfl, rfl, rfl, rfl⟩ rfl ?_
    refine SL.bin ⟨rfl, rfl, rfl, rfl⟩ rfl rfl Bin.eqI ?_
    refine SL.pk ⟨rfl, rfl, rfl, rfl⟩ rfl rfl ?_
    exact k.mono (by repeat' (first | exact trivial | refine And.intro rfl ?_))
  · skip
    refine SL.pass rfl rfl rfl ?_
    refine SL.pass rfl rfl rfl ?_
    refine SL.pk ⟨rfl, rfl, rfl, rfl⟩ rfl rfl ?_
    exact k.mono (by repeat' (first | exact trivial | refine And.intro rfl ?_))
  refine SL.mv ⟨rfl, rfl, rfl, rfl⟩ rfl ?_
  refine SL.and (c := decide (y3.2 = 1)) 57 3 60 rfl (fun hb k => ?_) (fun hb k => ?_) ?_
  · skip
    refine SL.mv ⟨rfl, rfl, rfl, rfl⟩ rfl ?_
    refine SL.bin ⟨rfl, rfl, rfl, rfl⟩ rfl rfl Bin.eqI ?_
    refine SL.pk ⟨rfl, rfl, rfl, rfl⟩ rfl rfl ?_
    exact k.mono (by repeat' (first | exact trivial | refine And.intro rfl ?_))
  · skip
    refine SL.pass rfl rfl rfl ?_
    refine SL.pass rfl rfl rfl ?_
    refine SL.pk ⟨rfl, rfl, rfl, rfl⟩ rfl rfl ?_
    exact k.mono (by repeat' (first | exact trivial | refine And.intro rfl ?_))
  refine SL.mv ⟨rfl, rfl, rfl, rfl⟩ rfl ?_
  refine SL.and (c := decide (y4.2 = 1)) 61 3 64 rfl (fun hb k => ?_) (fun hb k => ?_) ?_
  · skip
    refine SL.mv ⟨rfl, rfl, rfl, rfl⟩ rfl ?_
    refine SL.bin ⟨rfl, rfl, rfl, rfl⟩ rfl rfl Bin.eqI ?_
    refine SL.pk ⟨rfl, rfl, rfl, rfl⟩ rfl rfl ?_
    exact k.mono (by repeat' (first | exact trivial | refine And.intro rfl ?_))
  · skip
    refine SL.pass rfl rfl rfl ?_
    refine SL.pass rfl rfl rfl ?_
    refine SL.pk ⟨rfl, rfl, rfl, rfl⟩ rfl rfl ?_
    exact k.mono (by repeat' (first | exact trivial | refine And.intro rfl ?_))
  refine SL.mv ⟨rfl, rfl, rfl, rfl⟩ rfl ?_
  refine SL.and (c := decide (y5.2 = 1)) 65 3 68 rfl (fun hb k => ?_) (fun hb k => ?_) ?_
  · skip
    refine SL.mv ⟨rfl, rfl, rfl, rfl⟩ rfl ?_
    refine SL.bin ⟨rfl, rfl, rfl, rfl⟩ rfl rfl Bin.eqI ?_
    refine SL.pk ⟨rfl, rfl, rfl, rfl⟩ rfl rfl ?_
    exact k.mono (by repeat' (first | exact trivial | refine And.intro rfl ?_))
  · skip
    refine SL.pass rfl rfl rfl ?_
    refine SL.pass rfl rfl rfl ?_
    refine SL.pk ⟨rfl, rfl, rfl, rfl⟩ rfl rfl ?_
    exact k.mono (by repeat' (first | exact trivial | refine And.intro rfl ?_))
  refine SL.mv ⟨rfl, rfl, rfl, rfl⟩ rfl ?_
  refine SL.and (c := decide (y6.2 = 1)) 69 3 72 rfl (fun hb k => ?_) (fun hb k => ?_) ?_
  · skip
    refine SL.mv ⟨rfl, rfl, rfl, rfl⟩ rfl ?_
    refine SL.bin ⟨rfl, rfl, rfl, rfl⟩ rfl rfl Bin.eqI ?_
    refine SL.pk ⟨rfl, rfl, rfl, rfl⟩ rfl rfl ?_
    exact k.mono (by repeat' (first | exact trivial | refine And.intro rfl ?_))
  · skip
    refine SL.pass rfl rfl rfl ?_
    refine SL.pass rfl rfl rfl ?_
    refine SL.pk ⟨rfl, rfl, rfl, rfl⟩ rfl rfl ?_
    exact k.mono (by repeat' (first | exact trivial | refine And.intro rfl ?_))
  refine SL.mv ⟨rfl, rfl, rfl, rfl⟩ rfl ?_
  refine SL.andN 73 5 78 hy8 rfl (fun hb hg6 k => ?_) (fun hb k => ?_) ?_
  · skip
    obtain ⟨y7, hy7, hg6⟩ := bnd hg6
    obtain rfl := Option.some.inj hg6
    refine SL.mv ⟨rfl, rfl, rfl, rfl⟩ rfl ?_
    refine SL.mv ⟨rfl, rfl, rfl, rfl⟩ rfl ?_
    refine SL.call (vs := [_, _]) (Hin := []) (Hr := _ :: _ :: _) ⟨rfl, rfl, rfl, rfl⟩ rfl ⟨rfl, rfl, trivial⟩ cal24 rfl rfl (c_vault_Vault_Take_nil hy7) ?_
    rintro _ _ ⟨rfl, rfl⟩
    refine ⟨trivial, ?_⟩
    refine SL.bin ⟨rfl, rfl, rfl, rfl⟩ rfl rfl Bin.eqI ?_
    refine SL.pk ⟨rfl, rfl, rfl, rfl⟩ rfl rfl ?_
    exact k.mono (by repeat' (first | exact trivial | refine And.intro rfl ?_))
  · skip
    refine SL.pass rfl rfl rfl ?_
    refine SL.pass rfl rfl rfl ?_
    refine SL.pass rfl rfl rfl ?_
    refine SL.pass rfl rfl rfl ?_
    refine SL.pk ⟨rfl, rfl, rfl, rfl⟩ rfl rfl ?_
    exact k.mono (by repeat' (first | exact trivial | refine And.intro rfl ?_))
  refine SL.mv ⟨rfl, rfl, rfl, rfl⟩ rfl ?_
  refine SL.andN 79 5 84 hy10 rfl (fun hb hg7 k => ?_) (fun hb k => ?_) ?_
  · skip
    obtain ⟨y9, hy9, hg7⟩ := bnd hg7
    obtain rfl := Option.some.inj hg7
    refine SL.mv ⟨rfl, rfl, rfl, rfl⟩ rfl ?_
    refine SL.mv ⟨rfl, rfl, rfl, rfl⟩ rfl ?_
    refine SL.call (vs := [_, _]) (Hin := []) (Hr := _ :: _ :: _) ⟨rfl, rfl, rfl, rfl⟩ rfl ⟨rfl, rfl, trivial⟩ cal25 rfl rfl (c_vault_Vault_Give_nil hy9) ?_
    rintro _ _ ⟨rfl, rfl⟩
    refine ⟨trivial, ?_⟩
    refine SL.bin ⟨rfl, rfl, rfl, rfl⟩ rfl rfl Bin.eqI ?_
    refine SL.pk ⟨rfl, rfl, rfl, rfl⟩ rfl rfl ?_
    exact k.mono (by repeat' (first | exact trivial | refine And.intro rfl ?_))
  · skip
    refine SL.pass rfl rfl rfl ?_
    refine SL.pass rfl rfl rfl ?_
    refine SL.pass rfl rfl rfl ?_
    refine SL.pass rfl rfl rfl ?_
    refine SL.pk ⟨rfl, rfl, rfl, rfl⟩ rfl rfl ?_
    exact k.mono (by repeat' (first | exact trivial | refine And.intro rfl ?_))
  refine SL.mv ⟨rfl, rfl, rfl, rfl⟩ rfl ?_
  refine SL.andN 85 5 90 hy12 rfl (fun hb hg8 k => ?_) (fun hb k => ?_) ?_
  · skip
    obtain ⟨y11, hy11, hg8⟩ := bnd hg8
    obtain rfl := Option.some.inj hg8
    refine SL.mv ⟨rfl, rfl, rfl, rfl⟩ rfl ?_
    refine SL.mv ⟨rfl, rfl, rfl, rfl⟩ rfl ?_
    refine SL.call (vs := [_, _, _]) (Hin := []) (Hr := _ :: _ :: _) ⟨rfl, rfl, rfl, rfl⟩ rfl ⟨rfl, rfl, rfl, trivial⟩ cal22 rfl rfl (c_vault_Vault_Turn_nil hy11 (SlOf.nil (fun _ => rfl))) ?_
    rintro _ _ ⟨rfl, rfl⟩
    refine ⟨trivial, ?_⟩
    refine SL.bin ⟨rfl, rfl, rfl, rfl⟩ rfl rfl Bin.eqI ?_
    refine SL.pk ⟨rfl, rfl, rfl, rfl⟩ rfl rfl ?_
    exact k.mono (by repeat' (first | exact trivial | refine And.intro rfl ?_))
  · skip
    refine SL.pass rfl rfl rfl ?_
    refine SL.pass rfl rfl rfl ?_
    refine SL.pass rfl rfl rfl ?_
    refine SL.pass rfl rfl rfl ?_
    refine SL.pk ⟨rfl, rfl, rfl, rfl⟩ rfl rfl ?_
    exact k.mono (by repeat' (first | exact trivial | refine And.intro rfl ?_))
  refine SL.mv ⟨rfl, rfl, rfl, rfl⟩ rfl ?_
  refine SL.andN 91 4 95 hy14 rfl (fun hb hg9 k => ?_) (fun hb k => ?_) ?_
  · skip
    obtain ⟨y13, hy13, hg9⟩ := bnd hg9
    obtain rfl := Option.some.inj hg9
    refine SL.mv ⟨rfl, rfl, rfl, rfl⟩ rfl ?_
    refine SL.call (vs := [_]) (Hin := []) (Hr := _ :: _ :: _) ⟨rfl, rfl, rfl, rfl⟩ rfl ⟨rfl, trivial⟩ cal13 rfl rfl (c_vault_Vault_Free_nil hy13) ?_
    rintro _ _ ⟨rfl, rfl⟩
    refine ⟨trivial, ?_⟩
    refine SL.bin ⟨rfl, rfl, rfl, rfl⟩ rfl rfl Bin.eqI ?_
    refine SL.pk ⟨rfl, rfl, rfl, rfl⟩ rfl rfl ?_
    exact k.mono (by repeat' (first | exact trivial | refine And.intro rfl ?_))
  · skip
    refine SL.pass rfl rfl rfl ?_
    refine SL.pass rfl rfl rfl ?_
    refine SL.pass rfl rfl rfl ?_
    refine SL.pk ⟨rfl, rfl, rfl, rfl⟩ rfl rfl ?_
    exact k.mono (by repeat' (first | exact trivial | refine And.intro rfl ?_))
  refine SL.mv ⟨rfl, rfl, rfl, rfl⟩ rfl ?_
  refine SL.andN 96 4 100 hy16 rfl (fun hb hg10 k => ?_) (fun hb k => ?_) ?_
  · skip
    obtain ⟨y15, hy15, hg10⟩ := bnd hg10
    obtain rfl := Option.some.inj hg10
    refine SL.mv ⟨rfl, rfl, rfl, rfl⟩ rfl ?_
    refine SL.call (vs := [_]) (Hin := []) (Hr := _ :: _ :: _) ⟨rfl, rfl, rfl, rfl⟩ rfl ⟨rfl, trivial⟩ cal14 rfl rfl (c_vault_Vault_Seals_nil hy15) ?_
    rintro _ _ ⟨rfl, rfl⟩
    refine ⟨trivial, ?_⟩
    refine SL.bin ⟨rfl, rfl, rfl, rfl⟩ rfl rfl (Bin.eq64 (b := 0)) ?_
    refine SL.pk ⟨rfl, rfl, rfl, rfl⟩ rfl rfl ?_
    exact k.mono (by repeat' (first | exact trivial | refine And.intro rfl ?_))
  · skip
    refine SL.pass rfl rfl rfl ?_
    refine SL.pass rfl rfl rfl ?_
    refine SL.pass rfl rfl rfl ?_
    refine SL.pk ⟨rfl, rfl, rfl, rfl⟩ rfl rfl ?_
    exact k.mono (by repeat' (first | exact trivial | refine And.intro rfl ?_))
  refine SL.asg ⟨rfl, rfl, rfl, rfl⟩ rfl ?_
  refine SL.nx ?_
  refine SX.ret ?_
  obtain rfl := Option.some.inj h
  exact SQ.fret (res1 rfl rfl) (ret_of (M := []) ⟨rfl, rfl⟩ fun _ hw => HpOk.pick (H := [_, _]) hw [] 2 rfl)

def f_law13_VaultMoves (n : Nat) (T : List UInt32) (p0 : List UInt8) (p1 : List UInt8) : Option Bool :=
  (f_law13_shown n T).bind fun y1 =>
  (f_law13_made n 6).bind fun y2 =>
  (y2.1).bind fun d1 =>
  (slcI p0 0 (min (p0.length : Int) 198)).bind fun s1 =>
  (f_vault_Vault_Write T d1.1 d1.2.1 s1).bind fun y3 =>
  (slcI p1 0 (min (p1.length : Int) 198)).bind fun s2 =>
  (f_vault_Vault_Write T y3.2.2.1 y3.2.2.2 s2).bind fun y4 =>
  (f_device_Device_Read y4.2.2.2 y3.1.page).bind fun y5 =>
  (f_device_Device_Read y4.2.2.2 y4.1.page).bind fun y6 =>
  (f_device_Device_Put y4.2.2.2 y3.1.page y6.1).bind fun y7 =>
  (f_device_Device_Put y7.2 y4.1.page y5.1).bind fun y8 =>
  cond (((((((!y2.2) || (!decide (y3.2.1 = 0))) || (!decide (y4.2.1 = 0))) || (!decide (y5.2 = 0))) || (!decide (y6.2 = 0))) || (!decide (y7.1 = 0))) || (!decide (y8.1 = 0)))
  (
    some false)
  (
    (f_vault_Vault_Read T y4.2.2.1 y8.2 (⟨y3.1.page, y4.1.tag⟩ : RefA)).bind fun y9 =>
    (f_vault_Vault_Read T y4.2.2.1 y8.2 (⟨y4.1.page, y3.1.tag⟩ : RefA)).bind fun y10 =>
    ret ((y1 && (decide (y9.2 = 61))) && (decide (y10.2 = 61))) fun x1 =>
    some x1)
set_option maxHeartbeats 4000000 in
set_option maxRecDepth 100000 in
theorem c_law13_VaultMoves {n : Nat} {T : List UInt32} {p0 : List UInt8} {p1 : List UInt8} {r : Bool} (h : f_law13_VaultMoves n T p0 p1 = some r) (hS : ShaT K w0 T) : Con Tryd.prog K w0 4 [vS p0, vS p1] [] H (fun u M => u = vB r ∧ M = []) := by
  unfold f_law13_VaultMoves at h
  refine Con.enter Tryd.func4 rfl rfl ?_
  refine SX.sr ?_
  refine SL.asg ⟨rfl, rfl, rfl, rfl⟩ rfl ?_
  refine SL.nx ?_
  refine SX.sr ?_
  obtain ⟨y1, hy1, h⟩ := bnd h
  refine SL.call (vs := []) (Hin := []) (Hr := _) ⟨rfl, rfl, rfl, rfl⟩ rfl trivial cal9 rfl rfl (c_law13_shown hy1 hS) ?_
  rintro _ _ ⟨rfl, rfl⟩
  refine ⟨trivial, ?_⟩
  refine SL.asg ⟨rfl, rfl, rfl, rfl⟩ rfl ?_
  refine SL.nx ?_
  refine SX.sr ?_
  obtain ⟨y2, hy2, h⟩ := bnd h
  obtain ⟨d1, hd1, h⟩ := bnd h
  refine SL.call (vs := [_]) (Hin := []) (Hr := _) ⟨rfl, rfl, rfl, rfl⟩ rfl ⟨rfl, trivial⟩ cal15 rfl rfl (c_law13_made hy2) ?_
  rintro _ _ (⟨hn, -, -⟩ | ⟨d_, b1, v1, m1, b2, v2, m2, m3, b3, v3, v4, b4, v5, v6, v7, hn, rfl, rfl⟩)
  · rw [hd1] at hn; cases hn
  obtain rfl : d1 = d_ := Option.some.inj (hd1.symm.trans hn)
  refine ⟨trivial, ?_⟩
  refine SL.mv ⟨rfl, rfl, rfl, rfl⟩ rfl ?_
  refine SL.ext ⟨rfl, rfl, rfl, rfl⟩ rfl rfl ?_
  refine SL.ext ⟨rfl, rfl, rfl, rfl⟩ rfl rfl ?_
  refine SL.ext ⟨rfl, rfl, rfl, rfl⟩ rfl rfl ?_
  refine SL.ext ⟨rfl, rfl, rfl, rfl⟩ rfl rfl ?_
  refine SL.asg ⟨rfl, rfl, rfl, rfl⟩ rfl ?_
  refine SL.asg ⟨rfl, rfl, rfl, rfl⟩ rfl ?_
  refine SL.asg ⟨rfl, rfl, rfl, rfl⟩ rfl ?_
  refine SL.asg ⟨rfl, rfl, rfl, rfl⟩ rfl ?_
  refine SL.nx ?_
  refine SX.sr ?_
  obtain ⟨s1, hs1, h⟩ := bnd h
  obtain ⟨y3, hy3, h⟩ := bnd h
  refine SL.mv ⟨rfl, rfl, rfl, rfl⟩ rfl ?_
  refine SL.mv ⟨rfl, rfl, rfl, rfl⟩ rfl ?_
  refine SL.mv ⟨rfl, rfl, rfl, rfl⟩ rfl ?_
  refine SL.lenS ⟨rfl, rfl, rfl, rfl⟩ ty9 rfl ?_
  refine SL.minI ⟨rfl, rfl, rfl, rfl⟩ rfl rfl ?_
  refine SL.slNh hs1 ⟨rfl, rfl, rfl, rfl⟩ ty9 rfl rfl ?_
  refine SL.call (vs := [_, _]) (Hin := [_, _, _, _, _, _, _]) (Hr := _ :: _ :: _ :: _ :: _ :: _ :: _ :: _) ⟨rfl, rfl, rfl, rfl⟩ rfl ⟨rfl, rfl, trivial⟩ cal16 rfl rfl (c_vault_Vault_Write hy3 hS) ?_
  rintro _ _ ⟨rfl, rfl⟩
  refine ⟨trivial, ?_⟩
  refine SL.mv ⟨rfl, rfl, rfl, rfl⟩ rfl ?_
  refine SL.ext ⟨rfl, rfl, rfl, rfl⟩ rfl rfl ?_
  refine SL.ext ⟨rfl, rfl, rfl, rfl⟩ rfl rfl ?_
  refine SL.alloc ⟨rfl, rfl, rfl, rfl⟩ ze41 (fun _ => trivial) fun b5 => ?_
  refine SL.st 0 ⟨rfl, rfl, rfl⟩ rfl rfl rfl sz41 rfl rfl rfl trivial ?_
  refine SL.asg ⟨rfl, rfl, rfl, rfl⟩ rfl ?_
  refine SL.nx ?_
  refine SX.sr ?_
  obtain ⟨s2, hs2, h⟩ := bnd h
  obtain ⟨y4, hy4, h⟩ := bnd h
  refine SL.mv ⟨rfl, rfl, rfl, rfl⟩ rfl ?_
  refine SL.mv ⟨rfl, rfl, rfl, rfl⟩ rfl ?_
  refine SL.mv ⟨rfl, rfl, rfl, rfl⟩ rfl ?_
  refine SL.lenS ⟨rfl, rfl, rfl, rfl⟩ ty9 rfl ?_
  refine SL.minI ⟨rfl, rfl, rfl, rfl⟩ rfl rfl ?_
  refine SL.slNh hs2 ⟨rfl, rfl, rfl, rfl⟩ ty9 rfl rfl ?_
  refine SL.pick [1, 2, 3, 4, 5, 6, 7, 0] 8 ?_
  refine SL.call (vs := [_, _]) (Hin := [_, _, _, _, _, _, _]) (Hr := _ :: _ :: _ :: _ :: _ :: _ :: _ :: _ :: _) ⟨rfl, rfl, rfl, rfl⟩ rfl ⟨rfl, rfl, trivial⟩ cal16 rfl rfl (c_vault_Vault_Write hy4 hS) ?_
  rintro _ _ ⟨rfl, rfl⟩
  refine ⟨trivial, ?_⟩
  refine SL.mv ⟨rfl, rfl, rfl, rfl⟩ rfl ?_
  refine SL.ext ⟨rfl, rfl, rfl, rfl⟩ rfl rfl ?_
  refine SL.ext ⟨rfl, rfl, rfl, rfl⟩ rfl rfl ?_
  refine SL.alloc ⟨rfl, rfl, rfl, rfl⟩ ze41 (fun _ => trivial) fun b6 => ?_
  refine SL.st 0 ⟨rfl, rfl, rfl⟩ rfl rfl rfl sz41 rfl rfl rfl trivial ?_
  refine SL.asg ⟨rfl, rfl, rfl, rfl⟩ rfl ?_
  refine SL.nx ?_
  refine SX.sr ?_
  obtain ⟨y5, hy5, h⟩ := bnd h
  refine SL.mv ⟨rfl, rfl, rfl, rfl⟩ rfl ?_
  refine SL.fa ⟨rfl, rfl, rfl, rfl⟩ rfl fo41_0 ?_
  refine SL.ld ⟨rfl, rfl, rfl, rfl⟩ sc22 rfl (cell_own 8 rfl rfl) ?_
  refine SL.pick [4, 5, 6, 7, 0, 1, 2, 3] 8 ?_
  refine SL.call (vs := [_, _]) (Hin := [_, _, _, _]) (Hr := _ :: _ :: _ :: _ :: _ :: _ :: _ :: _ :: _ :: _ :: _ :: _ :: _) ⟨rfl, rfl, rfl, rfl⟩ rfl ⟨rfl, rfl, trivial⟩ cal17 rfl rfl (c_device_Device_Read hy5) ?_
  rintro _ _ ⟨rfl, rfl⟩
  refine ⟨trivial, ?_⟩
  refine SL.mv ⟨rfl, rfl, rfl, rfl⟩ rfl ?_
  refine SL.ext ⟨rfl, rfl, rfl, rfl⟩ rfl rfl ?_
  refine SL.ext ⟨rfl, rfl, rfl, rfl⟩ rfl rfl ?_
  refine SL.asg ⟨rfl, rfl, rfl, rfl⟩ rfl ?_
  refine SL.asg ⟨rfl, rfl, rfl, rfl⟩ rfl ?_
  refine SL.nx ?_
  refine SX.sr ?_
  obtain ⟨y6, hy6, h⟩ := bnd h
  refine SL.mv ⟨rfl, rfl, rfl, rfl⟩ rfl ?_
  refine SL.fa ⟨rfl, rfl, rfl, rfl⟩ rfl fo41_0 ?_
  refine SL.ld ⟨rfl, rfl, rfl, rfl⟩ sc22 rfl (cell_own 4 rfl rfl) ?_
  refine SL.call (vs := [_, _]) (Hin := [_, _, _, _]) (Hr := _ :: _ :: _ :: _ :: _ :: _ :: _ :: _ :: _ :: _ :: _ :: _ :: _) ⟨rfl, rfl, rfl, rfl⟩ rfl ⟨rfl, rfl, trivial⟩ cal17 rfl rfl (c_device_Device_Read hy6) ?_
  rintro _ _ ⟨rfl, rfl⟩
  refine ⟨trivial, ?_⟩
  refine SL.mv ⟨rfl, rfl, rfl, rfl⟩ rfl ?_
  refine SL.ext ⟨rfl, rfl, rfl, rfl⟩ rfl rfl ?_
  refine SL.ext ⟨rfl, rfl, rfl, rfl⟩ rfl rfl ?_
  refine SL.asg ⟨rfl, rfl, rfl, rfl⟩ rfl ?_
  refine SL.asg ⟨rfl, rfl, rfl, rfl⟩ rfl ?_
  refine SL.nx ?_
  refine SX.sr ?_
  obtain ⟨y7, hy7, h⟩ := bnd h
  refine SL.mv ⟨rfl, rfl, rfl, rfl⟩ rfl ?_
  refine SL.fa ⟨rfl, rfl, rfl, rfl⟩ rfl fo41_0 ?_
  refine SL.ld ⟨rfl, rfl, rfl, rfl⟩ sc22 rfl (cell_own 8 rfl rfl) ?_
  refine SL.mv ⟨rfl, rfl, rfl, rfl⟩ rfl ?_
  refine SL.call (vs := [_, _, _]) (Hin := [_, _, _, _]) (Hr := _ :: _ :: _ :: _ :: _ :: _ :: _ :: _ :: _ :: _ :: _ :: _ :: _) ⟨rfl, rfl, rfl, rfl⟩ rfl ⟨rfl, rfl, rfl, trivial⟩ cal18 rfl rfl (c_device_Device_Put hy7) ?_
  rintro _ _ ⟨rfl, rfl⟩
  refine ⟨trivial, ?_⟩
  refine SL.asg ⟨rfl, rfl, rfl, rfl⟩ rfl ?_
  refine SL.nx ?_
  refine SX.sr ?_
  obtain ⟨y8, hy8, h⟩ := bnd h
  refine SL.mv ⟨rfl, rfl, rfl, rfl⟩ rfl ?_
  refine SL.fa ⟨rfl, rfl, rfl, rfl⟩ rfl fo41_0 ?_
  refine SL.ld ⟨rfl, rfl, rfl, rfl⟩ sc22 rfl (cell_own 4 rfl rfl) ?_
  refine SL.mv ⟨rfl, rfl, rfl, rfl⟩ rfl ?_
  refine SL.call (vs := [_, _, _]) (Hin := [_, _, _, _]) (Hr := _ :: _ :: _ :: _ :: _ :: _ :: _ :: _ :: _ :: _ :: _ :: _ :: _) ⟨rfl, rfl, rfl, rfl⟩ rfl ⟨rfl, rfl, rfl, trivial⟩ cal18 rfl rfl (c_device_Device_Put hy8) ?_
  rintro _ _ ⟨rfl, rfl⟩
  refine ⟨trivial, ?_⟩
  refine SL.asg ⟨rfl, rfl, rfl, rfl⟩ rfl ?_
  refine SL.nx ?_
  refine SX.seq ?_
  refine SX.sr ?_
  refine SL.mv ⟨rfl, rfl, rfl, rfl⟩ rfl ?_
  refine SL.not ⟨rfl, rfl, rfl, rfl⟩ rfl ?_
  refine SL.mv ⟨rfl, rfl, rfl, rfl⟩ rfl ?_
  refine SL.or (c := !decide (y3.2.1 = 0)) 77 3 80 rfl (fun hb k => ?_) (fun hb k => ?_) ?_
  · skip
    refine SL.pass rfl rfl rfl ?_
    refine SL.pass rfl rfl rfl ?_
    refine SL.pk ⟨rfl, rfl, rfl, rfl⟩ rfl rfl ?_
    exact k.mono (by repeat' (first | exact trivial | refine And.intro rfl ?_))
  · skip
    refine SL.mv ⟨rfl, rfl, rfl, rfl⟩ rfl ?_
    refine SL.bin ⟨rfl, rfl, rfl, rfl⟩ rfl rfl Bin.neI ?_
    refine SL.pk ⟨rfl, rfl, rfl, rfl⟩ rfl rfl ?_
    exact k.mono (by repeat' (first | exact trivial | refine And.intro rfl ?_))
  refine SL.mv ⟨rfl, rfl, rfl, rfl⟩ rfl ?_
  refine SL.or (c := !decide (y4.2.1 = 0)) 81 3 84 rfl (fun hb k => ?_) (fun hb k => ?_) ?_
  · skip
    refine SL.pass rfl rfl rfl ?_
    refine SL.pass rfl rfl rfl ?_
    refine SL.pk ⟨rfl, rfl, rfl, rfl⟩ rfl rfl ?_
    exact k.mono (by repeat' (first | exact trivial | refine And.intro rfl ?_))
  · skip
    refine SL.mv ⟨rfl, rfl, rfl, rfl⟩ rfl ?_
    refine SL.bin ⟨rfl, rfl, rfl, rfl⟩ rfl rfl Bin.neI ?_
    refine SL.pk ⟨rfl, rfl, rfl, rfl⟩ rfl rfl ?_
    exact k.mono (by repeat' (first | exact trivial | refine And.intro rfl ?_))
  refine SL.mv ⟨rfl, rfl, rfl, rfl⟩ rfl ?_
  refine SL.or (c := !decide (y5.2 = 0)) 85 3 88 rfl (fun hb k => ?_) (fun hb k => ?_) ?_
  · skip
    refine SL.pass rfl rfl rfl ?_
    refine SL.pass rfl rfl rfl ?_
    refine SL.pk ⟨rfl, rfl, rfl, rfl⟩ rfl rfl ?_
    exact k.mono (by repeat' (first | exact trivial | refine And.intro rfl ?_))
  · skip
    refine SL.mv ⟨rfl, rfl, rfl, rfl⟩ rfl ?_
    refine SL.bin ⟨rfl, rfl, rfl, rfl⟩ rfl rfl Bin.neI ?_
    refine SL.pk ⟨rfl, rfl, rfl, rfl⟩ rfl rfl ?_
    exact k.mono (by repeat' (first | exact trivial | refine And.intro rfl ?_))
  refine SL.mv ⟨rfl, rfl, rfl, rfl⟩ rfl ?_
  refine SL.or (c := !decide (y6.2 = 0)) 89 3 92 rfl (fun hb k => ?_) (fun hb k => ?_) ?_
  · skip
    refine SL.pass rfl rfl rfl ?_
    refine SL.pass rfl rfl rfl ?_
    refine SL.pk ⟨rfl, rfl, rfl, rfl⟩ rfl rfl ?_
    exact k.mono (by repeat' (first | exact trivial | refine And.intro rfl ?_))
  · skip
    refine SL.mv ⟨rfl, rfl, rfl, rfl⟩ rfl ?_
    refine SL.bin ⟨rfl, rfl, rfl, rfl⟩ rfl rfl Bin.neI ?_
    refine SL.pk ⟨rfl, rfl, rfl, rfl⟩ rfl rfl ?_
    exact k.mono (by repeat' (first | exact trivial | refine And.intro rfl ?_))
  refine SL.mv ⟨rfl, rfl, rfl, rfl⟩ rfl ?_
  refine SL.or (c := !decide (y7.1 = 0)) 93 3 96 rfl (fun hb k => ?_) (fun hb k => ?_) ?_
  · skip
    refine SL.pass rfl rfl rfl ?_
    refine SL.pass rfl rfl rfl ?_
    refine SL.pk ⟨rfl, rfl, rfl, rfl⟩ rfl rfl ?_
    exact k.mono (by repeat' (first | exact trivial | refine And.intro rfl ?_))
  · skip
    refine SL.mv ⟨rfl, rfl, rfl, rfl⟩ rfl ?_
    refine SL.bin ⟨rfl, rfl, rfl, rfl⟩ rfl rfl Bin.neI ?_
    refine SL.pk ⟨rfl, rfl, rfl, rfl⟩ rfl rfl ?_
    exact k.mono (by repeat' (first | exact trivial | refine And.intro rfl ?_))
  refine SL.mv ⟨rfl, rfl, rfl, rfl⟩ rfl ?_
  refine SL.or (c := !decide (y8.1 = 0)) 97 3 100 rfl (fun hb k => ?_) (fun hb k => ?_) ?_
  · skip
    refine SL.pass rfl rfl rfl ?_
    refine SL.pass rfl rfl rfl ?_
    refine SL.pk ⟨rfl, rfl, rfl, rfl⟩ rfl rfl ?_
    exact k.mono (by repeat' (first | exact trivial | refine And.intro rfl ?_))
  · skip
    refine SL.mv ⟨rfl, rfl, rfl, rfl⟩ rfl ?_
    refine SL.bin ⟨rfl, rfl, rfl, rfl⟩ rfl rfl Bin.neI ?_
    refine SL.pk ⟨rfl, rfl, rfl, rfl⟩ rfl rfl ?_
    exact k.mono (by repeat' (first | exact trivial | refine And.intro rfl ?_))
  refine SL.nx ?_
  refine SX.cond rfl (fun hc1 => ?_) (fun hc1 => ?_)
  · skip
    replace h := cT hc1 h
    refine SX.sr ?_
    refine SL.asg ⟨rfl, rfl, rfl, rfl⟩ rfl ?_
    refine SL.nx ?_
    refine SX.ret ?_
    refine SQ.thnR ?_
    obtain rfl := Option.some.inj h
    exact SQ.fret (res1 rfl rfl) (ret_of (M := []) ⟨rfl, rfl⟩ fun _ hw => HpOk.pick (H := [_, _, _, _, _, _, _, _, _, _, _, _, _, _, _, _]) hw [] 16 rfl)
  · skip
    replace h := cF hc1 h
    refine SX.skip ?_
    refine SQ.thn ?_
    refine SX.sr ?_
    obtain ⟨y9, hy9, h⟩ := bnd h
    refine SL.mv ⟨rfl, rfl, rfl, rfl⟩ rfl ?_
    refine SL.fa ⟨rfl, rfl, rfl, rfl⟩ rfl fo41_0 ?_
    refine SL.ld ⟨rfl, rfl, rfl, rfl⟩ sc22 rfl (cell_own 8 rfl rfl) ?_
    refine SL.fa ⟨rfl, rfl, rfl, rfl⟩ rfl fo41_1 ?_
    refine SL.ld ⟨rfl, rfl, rfl, rfl⟩ sc9 rfl (cell_own 4 rfl rfl) ?_
    refine SL.bld [_, _] ⟨rfl, rfl, rfl, rfl⟩ pl41 pk41 ze41 ⟨rfl, rfl, trivial⟩ rfl ?_
    refine SL.pick [5, 6, 7, 0, 1, 2, 3, 4] 8 ?_
    refine SL.call (vs := [_, _]) (Hin := [_, _, _, _, _, _, _]) (Hr := _ :: _ :: _ :: _ :: _ :: _ :: _ :: _ :: _ :: _) ⟨rfl, rfl, rfl, rfl⟩ rfl ⟨rfl, rfl, trivial⟩ cal19 rfl rfl ((c_vault_Vault_Read hy9 hS :)) ?_
    rintro _ _ ⟨rfl, rfl⟩
    refine ⟨trivial, ?_⟩
    refine SL.mv ⟨rfl, rfl, rfl, rfl⟩ rfl ?_
    refine SL.ext ⟨rfl, rfl, rfl, rfl⟩ rfl rfl ?_
    refine SL.ext ⟨rfl, rfl, rfl, rfl⟩ rfl rfl ?_
    refine SL.asg ⟨rfl, rfl, rfl, rfl⟩ rfl ?_
    refine SL.asg ⟨rfl, rfl, rfl, rfl⟩ rfl ?_
    refine SL.nx ?_
    refine SX.sr ?_
    obtain ⟨y10, hy10, h⟩ := bnd h
    refine SL.mv ⟨rfl, rfl, rfl, rfl⟩ rfl ?_
    refine SL.fa ⟨rfl, rfl, rfl, rfl⟩ rfl fo41_0 ?_
    refine SL.ld ⟨rfl, rfl, rfl, rfl⟩ sc22 rfl (cell_own 7 rfl rfl) ?_
    refine SL.fa ⟨rfl, rfl, rfl, rfl⟩ rfl fo41_1 ?_
    refine SL.ld ⟨rfl, rfl, rfl, rfl⟩ sc9 rfl (cell_own 8 rfl rfl) ?_
    refine SL.bld [_, _] ⟨rfl, rfl, rfl, rfl⟩ pl41 pk41 ze41 ⟨rfl, rfl, trivial⟩ rfl ?_
    refine SL.call (vs := [_, _]) (Hin := [_, _, _, _, _, _, _]) (Hr := _ :: _ :: _ :: _ :: _ :: _ :: _ :: _ :: _ :: _) ⟨rfl, rfl, rfl, rfl⟩ rfl ⟨rfl, rfl, trivial⟩ cal19 rfl rfl ((c_vault_Vault_Read hy10 hS :)) ?_
    rintro _ _ ⟨rfl, rfl⟩
    refine ⟨trivial, ?_⟩
    refine SL.mv ⟨rfl, rfl, rfl, rfl⟩ rfl ?_
    refine SL.ext ⟨rfl, rfl, rfl, rfl⟩ rfl rfl ?_
    refine SL.ext ⟨rfl, rfl, rfl, rfl⟩ rfl rfl ?_
    refine SL.asg ⟨rfl, rfl, rfl, rfl⟩ rfl ?_
    refine SL.asg ⟨rfl, rfl, rfl, rfl⟩ rfl ?_
    refine SL.nx ?_
    refine SX.sr ?_
    obtain ⟨x1, ex1, h⟩ := retE h
    refine SL.mv ⟨rfl, rfl, rfl, rfl⟩ rfl ?_
    refine SL.mv ⟨rfl, rfl, rfl, rfl⟩ rfl ?_
    refine SL.and (c := decide (y9.2 = 61)) 122 3 125 rfl (fun hb k => ?_) (fun hb k => ?_) ?_
    · skip
      refine SL.mv ⟨rfl, rfl, rfl, rfl⟩ rfl ?_
      refine SL.bin ⟨rfl, rfl, rfl, rfl⟩ rfl rfl Bin.eqI ?_
      refine SL.pk ⟨rfl, rfl, rfl, rfl⟩ rfl rfl ?_
      exact k.mono (by repeat' (first | exact trivial | refine And.intro rfl ?_))
    · skip
      refine SL.pass rfl rfl rfl ?_
      refine SL.pass rfl rfl rfl ?_
      refine SL.pk ⟨rfl, rfl, rfl, rfl⟩ rfl rfl ?_
      exact k.mono (by repeat' (first | exact trivial | refine And.intro rfl ?_))
    refine SL.mv ⟨rfl, rfl, rfl, rfl⟩ rfl ?_
    refine SL.and (c := decide (y10.2 = 61)) 126 3 129 rfl (fun hb k => ?_) (fun hb k => ?_) ?_
    · skip
      refine SL.mv ⟨rfl, rfl, rfl, rfl⟩ rfl ?_
      refine SL.bin ⟨rfl, rfl, rfl, rfl⟩ rfl rfl Bin.eqI ?_
      refine SL.pk ⟨rfl, rfl, rfl, rfl⟩ rfl rfl ?_
      exact k.mono (by repeat' (first | exact trivial | refine And.intro rfl ?_))
    · skip
      refine SL.pass rfl rfl rfl ?_
      refine SL.pass rfl rfl rfl ?_
      refine SL.pk ⟨rfl, rfl, rfl, rfl⟩ rfl rfl ?_
      exact k.mono (by repeat' (first | exact trivial | refine And.intro rfl ?_))
    refine SL.asgX (u := vB x1) ⟨rfl, rfl, rfl, rfl⟩ rfl (congrArg vB ex1) ?_
    refine SL.nx ?_
    refine SX.ret ?_
    obtain rfl := Option.some.inj h
    exact SQ.fret (res1 rfl rfl) (ret_of (M := []) ⟨rfl, rfl⟩ fun _ hw => HpOk.pick (H := [_, _, _, _, _, _, _, _, _, _, _, _, _, _, _, _]) hw [] 16 rfl)

def f_law13_VaultNumbers_j1 (y1 : Bool) (y2 : Option (VltA × DevA × RVltA × RDevA) × Bool) : Option Bool :=
  ret (y1 && y2.2) fun x3 =>
  some x3
def f_law13_VaultNumbers_l1_b (T : List UInt32) (p0 : List (List UInt8)) (y1 : Bool) (y2 : Option (VltA × DevA × RVltA × RDevA) × Bool) (nx_f_law13_VaultNumbers_l1 : Bool × Bool × Int × Int × List (List UInt8) × List (UInt32 × List UInt8) × List (UInt32 × Bool) × UInt64 × List UInt8 × UInt32 × List KeyA × UInt32 × UInt32 × UInt64 × List (UInt32 × Bool) × Int → Option Bool) (y3 : Bool) (y4 : Bool) (y5 : Int) (y6 : Int) (l1 : List (List UInt8)) (l2 : List (UInt32 × List UInt8)) (l3 : List (UInt32 × Bool)) (y7 : UInt64) (y8 : List UInt8) (y9 : UInt32) (l4 : List KeyA) (y10 : UInt32) (y11 : UInt32) (y12 : UInt64) (l5 : List (UInt32 × Bool)) (a1 : Int) : Option Bool :=
  cond (((decide (a1 < (p0.length : Int))) && (decide (a1 < 10))) && y2.2)
  (
    (remI a1 2).bind fun q1 =>
    (nthI p0 a1).bind fun x1 =>
    (nthI p0 a1).bind fun x2 =>
    (slcI x1 0 (min (x2.length : Int) 198)).bind fun s1 =>
    (f_vault_Vault_Super T ({ ring := l4, gen := y10, boot := y11, seals := y12, taken := l5 } : VltA) ({ off := y3, isCut := y4, lasts := y5, counts := y6, blocks := l1, pend := l2, bad := l3, rcnt := y7, rtag := y8, rboots := y9 } : DevA) (toU32 q1) s1).bind fun y13 =>
    (remI a1 2).bind fun q2 =>
    (f_device_Device_Read y13.2.2.2 (toU32 q2)).bind fun y14 =>
    (orO (((!decide (y13.2.1 = 0)) || (!decide (y14.2 = 0))) || (!decide ((y14.1.length : Int) = 256))) ((slcI y14.1 0 4).bind fun s2 => (remI a1 2).bind fun q3 => some (!decide (s2 = [toU8 q3, 0, 0, 0])))).bind fun y15 =>
    (orO y15 ((slcI y14.1 8 13).bind fun s3 => some (!decide (s3 = [7, 0, 0, 0, toU8 a1])))).bind fun y16 =>
    (orO y16 ((f_vault_Vault_Seals y13.2.2.1 y13.2.2.2).bind fun y17 => some (!decide (y17 = toU64 (wI (a1 + 1)))))).bind fun y18 =>
    cond y18
    (
      some false)
    (
      ret (wI (a1 + 1)) fun i_1 =>
      nx_f_law13_VaultNumbers_l1 (y13.2.2.2.off, y13.2.2.2.isCut, y13.2.2.2.lasts, y13.2.2.2.counts, y13.2.2.2.blocks, y13.2.2.2.pend, y13.2.2.2.bad, y13.2.2.2.rcnt, y13.2.2.2.rtag, y13.2.2.2.rboots, y13.2.2.1.ring, y13.2.2.1.gen, y13.2.2.1.boot, y13.2.2.1.seals, y13.2.2.1.taken, i_1)))
  (
    f_law13_VaultNumbers_j1 y1 y2)
def f_law13_VaultNumbers_l1 (T : List UInt32) (p0 : List (List UInt8)) (y1 : Bool) (y2 : Option (VltA × DevA × RVltA × RDevA) × Bool) : Nat → (Bool × Bool × Int × Int × List (List UInt8) × List (UInt32 × List UInt8) × List (UInt32 × Bool) × UInt64 × List UInt8 × UInt32 × List KeyA × UInt32 × UInt32 × UInt64 × List (UInt32 × Bool) × Int) → Option Bool := loopN fun nx x => f_law13_VaultNumbers_l1_b T p0 y1 y2 nx x.1 x.2.1 x.2.2.1 x.2.2.2.1 x.2.2.2.2.1 x.2.2.2.2.2.1 x.2.2.2.2.2.2.1 x.2.2.2.2.2.2.2.1 x.2.2.2.2.2.2.2.2.1 x.2.2.2.2.2.2.2.2.2.1 x.2.2.2.2.2.2.2.2.2.2.1 x.2.2.2.2.2.2.2.2.2.2.2.1 x.2.2.2.2.2.2.2.2.2.2.2.2.1 x.2.2.2.2.2.2.2.2.2.2.2.2.2.1 x.2.2.2.2.2.2.2.2.2.2.2.2.2.2.1 x.2.2.2.2.2.2.2.2.2.2.2.2.2.2.2
def f_law13_VaultNumbers (n : Nat) (T : List UInt32) (p0 : List (List UInt8)) : Option Bool :=
  (f_law13_shown n T).bind fun y1 =>
  (f_law13_made n 4).bind fun y2 =>
  (y2.1).bind fun d1 =>
  f_law13_VaultNumbers_l1 T p0 y1 y2 n (d1.2.1.off, d1.2.1.isCut, d1.2.1.lasts, d1.2.1.counts, d1.2.1.blocks, d1.2.1.pend, d1.2.1.bad, d1.2.1.rcnt, d1.2.1.rtag, d1.2.1.rboots, d1.1.ring, d1.1.gen, d1.1.boot, d1.1.seals, d1.1.taken, 0)
set_option maxHeartbeats 4000000 in
set_option maxRecDepth 100000 in
theorem c_law13_VaultNumbers {n : Nat} {T : List UInt32} {v0_ : Value} {p0 : List (List UInt8)} {r : Bool} (h : f_law13_VaultNumbers n T p0 = some r) (hS : ShaT K w0 T) (hs0_ : SlOf K w0 eS 1 v0_ p0) : Con Tryd.prog K w0 5 [v0_] [] H (fun u M => u = vB r ∧ M = []) := by
  unfold f_law13_VaultNumbers at h
  refine Con.enter Tryd.func5 rfl rfl ?_
  refine SX.sr ?_
  refine SL.asg ⟨rfl, rfl, rfl, rfl⟩ rfl ?_
  refine SL.nx ?_
  refine SX.sr ?_
  obtain ⟨y1, hy1, h⟩ := bnd h
  refine SL.call (vs := []) (Hin := []) (Hr := _) ⟨rfl, rfl, rfl, rfl⟩ rfl trivial cal9 rfl rfl (c_law13_shown hy1 hS) ?_
  rintro _ _ ⟨rfl, rfl⟩
  refine ⟨trivial, ?_⟩
  refine SL.asg ⟨rfl, rfl, rfl, rfl⟩ rfl ?_
  refine SL.nx ?_
  refine SX.sr ?_
  obtain ⟨y2, hy2, h⟩ := bnd h
  obtain ⟨d1, hd1, h⟩ := bnd h
  refine SL.call (vs := [_]) (Hin := []) (Hr := _) ⟨rfl, rfl, rfl, rfl⟩ rfl ⟨rfl, trivial⟩ cal15 rfl rfl (c_law13_made hy2) ?_
  rintro _ _ (⟨hn, -, -⟩ | ⟨d_, b1, v1, m1, b2, v2, m2, m3, b3, v3, v4, b4, v5, v6, v7, hn, rfl, rfl⟩)
  · rw [hd1] at hn; cases hn
  obtain rfl : d1 = d_ := Option.some.inj (hd1.symm.trans hn)
  refine ⟨trivial, ?_⟩
  refine SL.mv ⟨rfl, rfl, rfl, rfl⟩ rfl ?_
  refine SL.ext ⟨rfl, rfl, rfl, rfl⟩ rfl rfl ?_
  refine SL.ext ⟨rfl, rfl, rfl, rfl⟩ rfl rfl ?_
  refine SL.ext ⟨rfl, rfl, rfl, rfl⟩ rfl rfl ?_
  refine SL.ext ⟨rfl, rfl, rfl, rfl⟩ rfl rfl ?_
  refine SL.asg ⟨rfl, rfl, rfl, rfl⟩ rfl ?_
  refine SL.asg ⟨rfl, rfl, rfl, rfl⟩ rfl ?_
  refine SL.asg ⟨rfl, rfl, rfl, rfl⟩ rfl ?_
  refine SL.asg ⟨rfl, rfl, rfl, rfl⟩ rfl ?_
  refine SL.nx ?_
  refine SX.meetD (α := Unit) (fun x => f_law13_VaultNumbers_j1 y1 y2 = some r) (fun x => [(3, vB y1), (7, vB y2.2)]) (fun x => H) ?_ (fun x D h => ?_)
  · skip
    refine SX.sr ?_
    refine SL.asg ⟨rfl, rfl, rfl, rfl⟩ rfl ?_
    refine SL.nx ?_
    refine SX.block ?_
    refine SX.heap (SX.mono (SX.loop (α := Nat × Bool × Bool × Int × Int × List (List UInt8) × List (UInt32 × List UInt8) × List (UInt32 × Bool) × UInt64 × List UInt8 × UInt32 × List KeyA × UInt32 × UInt32 × UInt64 × List (UInt32 × Bool) × Int) (fun x => f_law13_VaultNumbers_l1 T p0 y1 y2 x.1 (x.2.1, x.2.2.1, x.2.2.2.1, x.2.2.2.2.1, x.2.2.2.2.2.1, x.2.2.2.2.2.2.1, x.2.2.2.2.2.2.2.1, x.2.2.2.2.2.2.2.2.1, x.2.2.2.2.2.2.2.2.2.1, x.2.2.2.2.2.2.2.2.2.2.1, x.2.2.2.2.2.2.2.2.2.2.2.1, x.2.2.2.2.2.2.2.2.2.2.2.2.1, x.2.2.2.2.2.2.2.2.2.2.2.2.2.1, x.2.2.2.2.2.2.2.2.2.2.2.2.2.2.1, x.2.2.2.2.2.2.2.2.2.2.2.2.2.2.2.1, x.2.2.2.2.2.2.2.2.2.2.2.2.2.2.2.2) = some r) (fun x => [(0, v0_), (3, vB y1), (4, vP b1 0), (5, vP b2 0), (7, vB y2.2), (8, vI x.2.2.2.2.2.2.2.2.2.2.2.2.2.2.2.2)]) (fun x => own b1 (.cells #[vP b2 0, v1, vU32 x.2.2.2.2.2.2.2.2.2.2.2.2.1, vU32 x.2.2.2.2.2.2.2.2.2.2.2.2.2.1, vU64 x.2.2.2.2.2.2.2.2.2.2.2.2.2.2.1, .map (some m1)] 74) :: own b2 (.cells #[vB x.2.1, vB x.2.2.1, vI x.2.2.2.1, vI x.2.2.2.2.1, v2, .map (some m2), .map (some m3), vU64 x.2.2.2.2.2.2.2.2.1, vS x.2.2.2.2.2.2.2.2.2.1, vU32 x.2.2.2.2.2.2.2.2.2.2.1] 66) :: rowT 9 1 v2 eS x.2.2.2.2.2.1 :: mapC m2 vU32 vS x.2.2.2.2.2.2.1 :: mapC m3 vU32 vB x.2.2.2.2.2.2.2.1 :: rowT 70 2 v1 encKey x.2.2.2.2.2.2.2.2.2.2.2.1 :: mapC m1 vU32 vB x.2.2.2.2.2.2.2.2.2.2.2.2.2.2.2.1 :: H) (fun x => x.1) (fun x D h => ?_) (n, d1.2.1.off, d1.2.1.isCut, d1.2.1.lasts, d1.2.1.counts, d1.2.1.blocks, d1.2.1.pend, d1.2.1.bad, d1.2.1.rcnt, d1.2.1.rtag, d1.2.1.rboots, d1.1.ring, d1.1.gen, d1.1.boot, d1.1.seals, d1.1.taken, 0) h) (by repeat' (first | exact trivial | refine And.intro rfl ?_))) (fun _ hw => HpOk.pick (H := [_, _, _, _, _, _, _, _, _, _, _, _, _, _]) hw [0, 3, 4, 5, 6, 1, 2] 14 rfl)
    obtain ⟨m4, y3, y4, y5, y6, l1, l2, l3, y7, y8, y9, l4, y10, y11, y12, l5, a1⟩ := x
    dsimp only at h
    rcases m4 with _ | m4
    · cases (show (none : Option _) = some r from h)
    replace h : f_law13_VaultNumbers_l1_b T p0 y1 y2 (f_law13_VaultNumbers_l1 T p0 y1 y2 m4) y3 y4 y5 y6 l1 l2 l3 y7 y8 y9 l4 y10 y11 y12 l5 a1 = some r := h
    unfold f_law13_VaultNumbers_l1_b at h
    refine SX.re [(0, v0_), (3, vB y1), (4, vP b1 0), (5, vP b2 0), (7, vB y2.2), (8, vI a1)] (own b1 (.cells #[vP b2 0, v1, vU32 y10, vU32 y11, vU64 y12, .map (some m1)] 74) :: own b2 (.cells #[vB y3, vB y4, vI y5, vI y6, v2, .map (some m2), .map (some m3), vU64 y7, vS y8, vU32 y9] 66) :: rowT 9 1 v2 eS l1 :: mapC m2 vU32 vS l2 :: mapC m3 vU32 vB l3 :: rowT 70 2 v1 encKey l4 :: mapC m1 vU32 vB l5 :: H) ?_ (by repeat' (first | exact trivial | refine And.intro rfl ?_))
    refine SX.seq ?_
    refine SX.sr ?_
    refine SL.mv ⟨rfl, rfl, rfl, rfl⟩ rfl ?_
    refine SL.mv ⟨rfl, rfl, rfl, rfl⟩ rfl ?_
    refine SL.lenV hs0_ ⟨rfl, rfl, rfl, rfl⟩ ty49 rfl ?_
    refine SL.bin ⟨rfl, rfl, rfl, rfl⟩ rfl rfl Bin.ltI ?_
    refine SL.mv ⟨rfl, rfl, rfl, rfl⟩ rfl ?_
    refine SL.and (c := decide (a1 < 10)) 24 3 27 rfl (fun hb k => ?_) (fun hb k => ?_) ?_
    · skip
      refine SL.mv ⟨rfl, rfl, rfl, rfl⟩ rfl ?_
      refine SL.bin ⟨rfl, rfl, rfl, rfl⟩ rfl rfl Bin.ltI ?_
      refine SL.pk ⟨rfl, rfl, rfl, rfl⟩ rfl rfl ?_
      exact k.mono (by repeat' (first | exact trivial | refine And.intro rfl ?_))
    · skip
      refine SL.pass rfl rfl rfl ?_
      refine SL.pass rfl rfl rfl ?_
      refine SL.pk ⟨rfl, rfl, rfl, rfl⟩ rfl rfl ?_
      exact k.mono (by repeat' (first | exact trivial | refine And.intro rfl ?_))
    refine SL.mv ⟨rfl, rfl, rfl, rfl⟩ rfl ?_
    refine SL.and (c := y2.2) 28 2 30 rfl (fun hb k => ?_) (fun hb k => ?_) ?_
    · skip
      refine SL.mv ⟨rfl, rfl, rfl, rfl⟩ rfl ?_
      refine SL.pk ⟨rfl, rfl, rfl, rfl⟩ rfl rfl ?_
      exact k.mono (by repeat' (first | exact trivial | refine And.intro rfl ?_))
    · skip
      refine SL.pass rfl rfl rfl ?_
      refine SL.pk ⟨rfl, rfl, rfl, rfl⟩ rfl rfl ?_
      exact k.mono (by repeat' (first | exact trivial | refine And.intro rfl ?_))
    refine SL.nx ?_
    refine SX.cond rfl (fun hc1 => ?_) (fun hc1 => ?_)
    · skip
      replace h := cT hc1 h
      refine SX.skip ?_
      refine SQ.thn ?_
      refine SX.seq ?_
      refine SX.block ?_
      refine SX.seq ?_
      obtain ⟨q1, hq1, h⟩ := bnd h
      obtain ⟨x1, hx1, h⟩ := bnd h
      obtain ⟨x2, hx2, h⟩ := bnd h
      obtain ⟨s1, hs1, h⟩ := bnd h
      obtain ⟨y13, hy13, h⟩ := bnd h
      refine SX.drawI mix [] (Pl.ap [(true, 0), (true, 1), (true, 2), (true, 3), (true, 4), (true, 5), (true, 6), (true, 7), (true, 8), (true, 9), (true, 10), (true, 11), (true, 12), (true, 13), (true, 14), (false, 15), (false, 16), (true, 17), (true, 18), (false, 19)] (.last 20 .nil)) (by kernel_rfl) ?_
      refine SL.mv ⟨rfl, rfl, rfl, rfl⟩ rfl ?_
      refine SL.mv ⟨rfl, rfl, rfl, rfl⟩ rfl ?_
      refine SL.bin ⟨rfl, rfl, rfl, rfl⟩ rfl rfl (Bin.modO hq1) ?_
      refine SL.cv ⟨rfl, rfl, rfl, rfl⟩ rfl (Cv.i_32 ty3 ty22) ?_
      refine SL.mv ⟨rfl, rfl, rfl, rfl⟩ rfl ?_
      refine SL.mv ⟨rfl, rfl, rfl, rfl⟩ rfl ?_
      refine SL.iaN hx1 hs0_ ⟨rfl, rfl, rfl, rfl⟩ ty49 sz9 rfl rfl fun be1 of1 hc2 => ?_
      refine SL.ld ⟨rfl, rfl, rfl, rfl⟩ sc9 rfl (cell_kept (j := 0) hc2 rfl) ?_
      refine SL.mv ⟨rfl, rfl, rfl, rfl⟩ rfl ?_
      refine SL.mv ⟨rfl, rfl, rfl, rfl⟩ rfl ?_
      refine SL.iaN hx2 hs0_ ⟨rfl, rfl, rfl, rfl⟩ ty49 sz9 rfl rfl fun be2 of2 hc3 => ?_
      refine SL.ld ⟨rfl, rfl, rfl, rfl⟩ sc9 rfl (cell_kept (j := 0) hc3 rfl) ?_
      refine SL.lenS ⟨rfl, rfl, rfl, rfl⟩ ty9 rfl ?_
      refine SL.minI ⟨rfl, rfl, rfl, rfl⟩ rfl rfl ?_
      refine SL.slNh hs1 ⟨rfl, rfl, rfl, rfl⟩ ty9 rfl rfl ?_
      refine SL.pick [0, 5, 6, 1, 2, 3, 4] 7 ?_
      refine SL.call (vs := [_, _, _]) (Hin := [_, _, _, _, _, _, _]) (Hr := _) ⟨rfl, rfl, rfl, rfl⟩ rfl ⟨rfl, rfl, rfl, trivial⟩ cal20 rfl rfl (c_vault_Vault_Super hy13 hS) ?_
      rintro _ _ ⟨rfl, rfl⟩
      refine ⟨trivial, ?_⟩
      refine SL.mv ⟨rfl, rfl, rfl, rfl⟩ rfl ?_
      refine SL.ext ⟨rfl, rfl, rfl, rfl⟩ rfl rfl ?_
      refine SL.ext ⟨rfl, rfl, rfl, rfl⟩ rfl rfl ?_
      refine SL.asg ⟨rfl, rfl, rfl, rfl⟩ rfl ?_
      refine SL.last ?_
      refine SL.asg ⟨rfl, rfl, rfl, rfl⟩ rfl ?_
      refine SL.nx ?_
      refine SX.sr ?_
      obtain ⟨q2, hq2, h⟩ := bnd h
      obtain ⟨y14, hy14, h⟩ := bnd h
      refine SL.mv ⟨rfl, rfl, rfl, rfl⟩ rfl ?_
      refine SL.mv ⟨rfl, rfl, rfl, rfl⟩ rfl ?_
      refine SL.bin ⟨rfl, rfl, rfl, rfl⟩ rfl rfl (Bin.modO hq2) ?_
      refine SL.cv ⟨rfl, rfl, rfl, rfl⟩ rfl (Cv.i_32 ty3 ty22) ?_
      refine SL.pick [3, 4, 5, 6, 0, 1, 2] 7 ?_
      refine SL.call (vs := [_, _]) (Hin := [_, _, _, _]) (Hr := _ :: _ :: _ :: _) ⟨rfl, rfl, rfl, rfl⟩ rfl ⟨rfl, rfl, trivial⟩ cal17 rfl rfl (c_device_Device_Read hy14) ?_
      rintro _ _ ⟨rfl, rfl⟩
      refine ⟨trivial, ?_⟩
      refine SL.mv ⟨rfl, rfl, rfl, rfl⟩ rfl ?_
      refine SL.ext ⟨rfl, rfl, rfl, rfl⟩ rfl rfl ?_
      refine SL.ext ⟨rfl, rfl, rfl, rfl⟩ rfl rfl ?_
      refine SL.asg ⟨rfl, rfl, rfl, rfl⟩ rfl ?_
      refine SL.asg ⟨rfl, rfl, rfl, rfl⟩ rfl ?_
      refine SL.nx ?_
      refine SX.seq ?_
      obtain ⟨y15, hy15, h⟩ := bnd h
      obtain ⟨y16, hy16, h⟩ := bnd h
      obtain ⟨y18, hy18, h⟩ := bnd h
      refine SX.drawI mix [] (Pl.of [(true, 0), (true, 1), (true, 2), (true, 3), (true, 4), (true, 5), (true, 6), (true, 7), (true, 8), (true, 9), (true, 10), (true, 11), (true, 12), (true, 13), (true, 14), (true, 15), (true, 16), (false, 17), (false, 18), (true, 19), (true, 20), (true, 21), (true, 22), (true, 23), (true, 24), (true, 25), (false, 26), (false, 27), (true, 28), (true, 29), (true, 30), (true, 31), (true, 33), (true, 34), (true, 35), (false, 32), (false, 36), (false, 37)]) (by kernel_rfl) ?_
      refine SL.mv ⟨rfl, rfl, rfl, rfl⟩ rfl ?_
      refine SL.bin ⟨rfl, rfl, rfl, rfl⟩ rfl rfl Bin.neI ?_
      refine SL.mv ⟨rfl, rfl, rfl, rfl⟩ rfl ?_
      refine SL.or (c := !decide (y14.2 = 0)) 62 3 65 rfl (fun hb k => ?_) (fun hb k => ?_) ?_
      · skip
        refine SL.pass rfl rfl rfl ?_
        refine SL.pass rfl rfl rfl ?_
        refine SL.pk ⟨rfl, rfl, rfl, rfl⟩ rfl rfl ?_
        exact k.mono (by repeat' (first | exact trivial | refine And.intro rfl ?_))
      · skip
        refine SL.mv ⟨rfl, rfl, rfl, rfl⟩ rfl ?_
        refine SL.bin ⟨rfl, rfl, rfl, rfl⟩ rfl rfl Bin.neI ?_
        refine SL.pk ⟨rfl, rfl, rfl, rfl⟩ rfl rfl ?_
        exact k.mono (by repeat' (first | exact trivial | refine And.intro rfl ?_))
      refine SL.mv ⟨rfl, rfl, rfl, rfl⟩ rfl ?_
      refine SL.or (c := !decide ((y14.1.length : Int) = 256)) 66 4 70 rfl (fun hb k => ?_) (fun hb k => ?_) ?_
      · skip
        refine SL.pass rfl rfl rfl ?_
        refine SL.pass rfl rfl rfl ?_
        refine SL.pass rfl rfl rfl ?_
        refine SL.pk ⟨rfl, rfl, rfl, rfl⟩ rfl rfl ?_
        exact k.mono (by repeat' (first | exact trivial | refine And.intro rfl ?_))
      · skip
        refine SL.mv ⟨rfl, rfl, rfl, rfl⟩ rfl ?_
        refine SL.lenS ⟨rfl, rfl, rfl, rfl⟩ ty9 rfl ?_
        refine SL.bin ⟨rfl, rfl, rfl, rfl⟩ rfl rfl Bin.neI ?_
        refine SL.pk ⟨rfl, rfl, rfl, rfl⟩ rfl rfl ?_
        exact k.mono (by repeat' (first | exact trivial | refine And.intro rfl ?_))
      refine SL.mv ⟨rfl, rfl, rfl, rfl⟩ rfl ?_
      refine SL.orN 71 9 80 hy15 rfl (fun hb k => ?_) (fun hb hg5 k => ?_) ?_
      · skip
        refine SL.pass rfl rfl rfl ?_
        refine SL.pass rfl rfl rfl ?_
        refine SL.pass rfl rfl rfl ?_
        refine SL.pass rfl rfl rfl ?_
        refine SL.pass rfl rfl rfl ?_
        refine SL.pass rfl rfl rfl ?_
        refine SL.pass rfl rfl rfl ?_
        refine SL.pass rfl rfl rfl ?_
        refine SL.pk ⟨rfl, rfl, rfl, rfl⟩ rfl rfl ?_
        exact k.mono (by repeat' (first | exact trivial | refine And.intro rfl ?_))
      · skip
        obtain ⟨s2, hs2, hg5⟩ := bnd hg5
        obtain ⟨q3, hq3, hg5⟩ := bnd hg5
        obtain rfl := Option.some.inj hg5
        refine SL.mv ⟨rfl, rfl, rfl, rfl⟩ rfl ?_
        refine SL.slNh hs2 ⟨rfl, rfl, rfl, rfl⟩ ty9 rfl rfl ?_
        refine SL.mv ⟨rfl, rfl, rfl, rfl⟩ rfl ?_
        refine SL.bin ⟨rfl, rfl, rfl, rfl⟩ rfl rfl (Bin.modO hq3) ?_
        refine SL.cv ⟨rfl, rfl, rfl, rfl⟩ rfl (Cv.i_8 ty3 ty5) ?_
        refine SL.bsl [_, _, _, _] ⟨rfl, rfl, rfl, rfl⟩ ty51 sz5 ze5 ⟨rfl, rfl, rfl, rfl, trivial⟩ rfl rfl rfl (by first | (simp [Value.cells]; done) | (intro v hv; simp only [List.mem_cons, List.not_mem_nil, or_false] at hv; rcases hv with rfl | rfl | rfl | rfl <;> rfl)) rfl rfl (fun _ => trivial) fun b5 => ?_
        refine SL.ownT eU8 1 ([toU8 q3, 0, 0, 0] : List UInt8) rfl (fun _ => rfl) rfl ?_
        refine SL.btsT 0 ⟨rfl, rfl, rfl, rfl⟩ ty51 ty5 ty9 rfl rfl ?_
        refine SL.bin ⟨rfl, rfl, rfl, rfl⟩ rfl rfl Bin.neS ?_
        refine SL.pk ⟨rfl, rfl, rfl, rfl⟩ rfl rfl ?_
        exact SL.mono (SL.heap k fun _ hw => HpOk.pick (H := [_, _, _, _, _, _, _, _]) hw [1, 2, 3, 4, 5, 6, 7] 8 rfl) (by repeat' (first | exact trivial | refine And.intro rfl ?_))
      refine SL.mv ⟨rfl, rfl, rfl, rfl⟩ rfl ?_
      refine SL.orN 81 8 89 hy16 rfl (fun hb k => ?_) (fun hb hg6 k => ?_) ?_
      · skip
        refine SL.pass rfl rfl rfl ?_
        refine SL.pass rfl rfl rfl ?_
        refine SL.pass rfl rfl rfl ?_
        refine SL.pass rfl rfl rfl ?_
        refine SL.pass rfl rfl rfl ?_
        refine SL.pass rfl rfl rfl ?_
        refine SL.pass rfl rfl rfl ?_
        refine SL.pk ⟨rfl, rfl, rfl, rfl⟩ rfl rfl ?_
        exact k.mono (by repeat' (first | exact trivial | refine And.intro rfl ?_))
      · skip
        obtain ⟨s3, hs3, hg6⟩ := bnd hg6
        obtain rfl := Option.some.inj hg6
        refine SL.mv ⟨rfl, rfl, rfl, rfl⟩ rfl ?_
        refine SL.slN hs3 ⟨rfl, rfl, rfl, rfl⟩ ty9 rfl rfl rfl ?_
        refine SL.mv ⟨rfl, rfl, rfl, rfl⟩ rfl ?_
        refine SL.cv ⟨rfl, rfl, rfl, rfl⟩ rfl (Cv.i_8 ty3 ty5) ?_
        refine SL.bsl [_, _, _, _, _] ⟨rfl, rfl, rfl, rfl⟩ ty51 sz5 ze5 ⟨rfl, rfl, rfl, rfl, rfl, trivial⟩ rfl rfl rfl (by first | (simp [Value.cells]; done) | (intro v hv; simp only [List.mem_cons, List.not_mem_nil, or_false] at hv; rcases hv with rfl | rfl | rfl | rfl | rfl <;> rfl)) rfl rfl (fun _ => trivial) fun b6 => ?_
        refine SL.ownT eU8 1 ([7, 0, 0, 0, toU8 a1] : List UInt8) rfl (fun _ => rfl) rfl ?_
        refine SL.btsT 0 ⟨rfl, rfl, rfl, rfl⟩ ty51 ty5 ty9 rfl rfl ?_
        refine SL.bin ⟨rfl, rfl, rfl, rfl⟩ rfl rfl Bin.neS ?_
        refine SL.pk ⟨rfl, rfl, rfl, rfl⟩ rfl rfl ?_
        exact SL.mono (SL.heap k fun _ hw => HpOk.pick (H := [_, _, _, _, _, _, _, _]) hw [1, 2, 3, 4, 5, 6, 7] 8 rfl) (by repeat' (first | exact trivial | refine And.intro rfl ?_))
      refine SL.mv ⟨rfl, rfl, rfl, rfl⟩ rfl ?_
      refine SL.orN 90 7 97 hy18 rfl (fun hb k => ?_) (fun hb hg7 k => ?_) ?_
      · skip
        refine SL.pass rfl rfl rfl ?_
        refine SL.pass rfl rfl rfl ?_
        refine SL.pass rfl rfl rfl ?_
        refine SL.pass rfl rfl rfl ?_
        refine SL.pass rfl rfl rfl ?_
        refine SL.pass rfl rfl rfl ?_
        refine SL.pk ⟨rfl, rfl, rfl, rfl⟩ rfl rfl ?_
        exact k.mono (by repeat' (first | exact trivial | refine And.intro rfl ?_))
      · skip
        obtain ⟨y17, hy17, hg7⟩ := bnd hg7
        obtain rfl := Option.some.inj hg7
        refine SL.mv ⟨rfl, rfl, rfl, rfl⟩ rfl ?_
        refine SL.mv ⟨rfl, rfl, rfl, rfl⟩ rfl ?_
        refine SL.bin ⟨rfl, rfl, rfl, rfl⟩ rfl rfl Bin.addW ?_
        refine SL.cv ⟨rfl, rfl, rfl, rfl⟩ rfl (Cv.i_64 ty3 ty34) ?_
        refine SL.pick [4, 5, 6, 0, 1, 2, 3] 7 ?_
        refine SL.call (vs := [_]) (Hin := [_, _, _, _, _, _, _]) (Hr := _) ⟨rfl, rfl, rfl, rfl⟩ rfl ⟨rfl, trivial⟩ cal14 rfl rfl (c_vault_Vault_Seals hy17) ?_
        rintro _ _ ⟨rfl, rfl⟩
        refine ⟨trivial, ?_⟩
        refine SL.bin ⟨rfl, rfl, rfl, rfl⟩ rfl rfl Bin.ne64 ?_
        refine SL.pk ⟨rfl, rfl, rfl, rfl⟩ rfl rfl ?_
        exact SL.mono (SL.heap k fun _ hw => HpOk.pick (H := [_, _, _, _, _, _, _]) hw [3, 4, 5, 6, 0, 1, 2] 7 rfl) (by repeat' (first | exact trivial | refine And.intro rfl ?_))
      refine SL.nx ?_
      refine SX.cond rfl (fun hc4 => ?_) (fun hc4 => ?_)
      · skip
        replace h := cT hc4 h
        refine SX.sr ?_
        refine SL.asg ⟨rfl, rfl, rfl, rfl⟩ rfl ?_
        refine SL.nx ?_
        refine SX.ret ?_
        refine SQ.blkR ?_
        refine SQ.thnR ?_
        refine SQ.lpR ?_
        refine SQ.blkR ?_
        refine SQ.midDR ?_
        obtain rfl := Option.some.inj h
        exact SQ.fret (res1 rfl rfl) (ret_of (M := []) ⟨rfl, rfl⟩ fun _ hw => HpOk.pick (H := [_, _, _, _, _, _, _]) hw [] 7 rfl)
      · skip
        replace h := cF hc4 h
        refine SX.skip ?_
        refine SQ.blk ?_
        refine SQ.thn ?_
        refine SX.region ?_
        obtain ⟨i_1, ei_1, h⟩ := retE h
        refine SL.mv ⟨rfl, rfl, rfl, rfl⟩ rfl ?_
        refine SL.bin ⟨rfl, rfl, rfl, rfl⟩ rfl rfl Bin.addW ?_
        refine SL.asgX (u := vI i_1) ⟨rfl, rfl, rfl, rfl⟩ rfl (congrArg vI ei_1) ?_
        refine SL.nil ?_
        exact SQ.again (m4, y13.2.2.2.off, y13.2.2.2.isCut, y13.2.2.2.lasts, y13.2.2.2.counts, y13.2.2.2.blocks, y13.2.2.2.pend, y13.2.2.2.bad, y13.2.2.2.rcnt, y13.2.2.2.rtag, y13.2.2.2.rboots, y13.2.2.1.ring, y13.2.2.1.gen, y13.2.2.1.boot, y13.2.2.1.seals, y13.2.2.1.taken, i_1) h (Nat.lt_succ_self _) (by repeat' (first | exact trivial | refine And.intro rfl ?_)) (fun _ hw => HpOk.pick (H := [_, _, _, _, _, _, _]) hw [4, 0, 1, 2, 3, 5, 6] 7 rfl)
    · skip
      replace h := cF hc1 h
      refine SX.exit ?_
      refine SQ.thnE ?_
      refine SQ.lpE ?_
      refine SQ.blkE ?_
      exact SQ.midD () h (by repeat' (first | exact trivial | refine And.intro rfl ?_)) (fun _ hw => HpOk.pick (H := [_, _, _, _, _, _, _]) hw [] 7 rfl)
  · skip
    unfold f_law13_VaultNumbers_j1 at h
    refine SX.re [(3, vB y1), (7, vB y2.2)] (H) ?_ (by repeat' (first | exact trivial | refine And.intro rfl ?_))
    refine SX.sr ?_
    obtain ⟨x3, ex3, h⟩ := retE h
    refine SL.mv ⟨rfl, rfl, rfl, rfl⟩ rfl ?_
    refine SL.mv ⟨rfl, rfl, rfl, rfl⟩ rfl ?_
    refine SL.and (c := y2.2) 99 2 101 rfl (fun hb k => ?_) (fun hb k => ?_) ?_
    · skip
      refine SL.mv ⟨rfl, rfl, rfl, rfl⟩ rfl ?_
      refine SL.pk ⟨rfl, rfl, rfl, rfl⟩ rfl rfl ?_
      exact k.mono (by repeat' (first | exact trivial | refine And.intro rfl ?_))
    · skip
      refine SL.pass rfl rfl rfl ?_
      refine SL.pk ⟨rfl, rfl, rfl, rfl⟩ rfl rfl ?_
      exact k.mono (by repeat' (first | exact trivial | refine And.intro rfl ?_))
    refine SL.asgX (u := vB x3) ⟨rfl, rfl, rfl, rfl⟩ rfl (congrArg vB ex3) ?_
    refine SL.nx ?_
    refine SX.ret ?_
    obtain rfl := Option.some.inj h
    exact SQ.fret (res1 rfl rfl) (ret_of (M := []) ⟨rfl, rfl⟩ fun _ hw => HpOk.pick (H := []) hw [] 0 rfl)

def f_law13_VaultKeeps_j2 (y1 : Bool) (y2 : Option (VltA × DevA × RVltA × RDevA) × Bool) (y3 : Bool) (y4 : Bool) (y5 : Int) (y6 : Int) (l1 : List (List UInt8)) (l2 : List (UInt32 × List UInt8)) (l3 : List (UInt32 × Bool)) (y7 : UInt64) (y8 : List UInt8) (y9 : UInt32) (l4 : List KeyA) (y10 : UInt32) (y11 : UInt32) (y12 : UInt64) (l5 : List (UInt32 × Bool)) (l6 : List RefA) : Option Bool :=
  (andO (y1 && y2.2) ((f_vault_Vault_Free ({ ring := l4, gen := y10, boot := y11, seals := y12, taken := l5 } : VltA) ({ off := y3, isCut := y4, lasts := y5, counts := y6, blocks := l1, pend := l2, bad := l3, rcnt := y7, rtag := y8, rboots := y9 } : DevA)).bind fun y27 => some (decide (y27 = wI (14 - (l6.length : Int)))))).bind fun y28 =>
  some y28
def f_law13_VaultKeeps_l2_b (T : List UInt32) (y1 : Bool) (y2 : Option (VltA × DevA × RVltA × RDevA) × Bool) (y3 : Bool) (y4 : Bool) (y5 : Int) (y6 : Int) (l1 : List (List UInt8)) (l2 : List (UInt32 × List UInt8)) (l3 : List (UInt32 × Bool)) (y7 : UInt64) (y8 : List UInt8) (y9 : UInt32) (l4 : List KeyA) (y10 : UInt32) (y11 : UInt32) (y12 : UInt64) (l5 : List (UInt32 × Bool)) (l6 : List RefA) (l7 : List (List UInt8)) (nx_f_law13_VaultKeeps_l2 : Int → Option Bool) (a2 : Int) : Option Bool :=
  cond (decide (a2 < (l6.length : Int)))
  (
    (nthI l6 a2).bind fun x3 =>
    (f_vault_Vault_Read T ({ ring := l4, gen := y10, boot := y11, seals := y12, taken := l5 } : VltA) ({ off := y3, isCut := y4, lasts := y5, counts := y6, blocks := l1, pend := l2, bad := l3, rcnt := y7, rtag := y8, rboots := y9 } : DevA) x3).bind fun y24 =>
    (nthI l6 a2).bind fun x4 =>
    (f_vault_Vault_Gen T ({ ring := l4, gen := y10, boot := y11, seals := y12, taken := l5 } : VltA) ({ off := y3, isCut := y4, lasts := y5, counts := y6, blocks := l1, pend := l2, bad := l3, rcnt := y7, rtag := y8, rboots := y9 } : DevA) x4).bind fun y25 =>
    (orO ((!decide (y24.2 = 0)) || (!decide (y25.2 = 0))) ((nthI l7 a2).bind fun x5 => some (!decide (y24.1 = x5)))).bind fun y26 =>
    cond (y26 || (!decide (y25.1 = 1)))
    (
      some false)
    (
      ret (wI (a2 + 1)) fun i_2 =>
      nx_f_law13_VaultKeeps_l2 i_2))
  (
    f_law13_VaultKeeps_j2 y1 y2 y3 y4 y5 y6 l1 l2 l3 y7 y8 y9 l4 y10 y11 y12 l5 l6)
def f_law13_VaultKeeps_l2 (T : List UInt32) (y1 : Bool) (y2 : Option (VltA × DevA × RVltA × RDevA) × Bool) (y3 : Bool) (y4 : Bool) (y5 : Int) (y6 : Int) (l1 : List (List UInt8)) (l2 : List (UInt32 × List UInt8)) (l3 : List (UInt32 × Bool)) (y7 : UInt64) (y8 : List UInt8) (y9 : UInt32) (l4 : List KeyA) (y10 : UInt32) (y11 : UInt32) (y12 : UInt64) (l5 : List (UInt32 × Bool)) (l6 : List RefA) (l7 : List (List UInt8)) : Nat → Int → Option Bool := loopN fun nx x => f_law13_VaultKeeps_l2_b T y1 y2 y3 y4 y5 y6 l1 l2 l3 y7 y8 y9 l4 y10 y11 y12 l5 l6 l7 nx x
def f_law13_VaultKeeps_j1 (n : Nat) (T : List UInt32) (y1 : Bool) (y2 : Option (VltA × DevA × RVltA × RDevA) × Bool) (y3 : Bool) (y4 : Bool) (y5 : Int) (y6 : Int) (l1 : List (List UInt8)) (l2 : List (UInt32 × List UInt8)) (l3 : List (UInt32 × Bool)) (y7 : UInt64) (y8 : List UInt8) (y9 : UInt32) (l4 : List KeyA) (y10 : UInt32) (y11 : UInt32) (y12 : UInt64) (l5 : List (UInt32 × Bool)) (l6 : List RefA) (l7 : List (List UInt8)) : Option Bool :=
  f_law13_VaultKeeps_l2 T y1 y2 y3 y4 y5 y6 l1 l2 l3 y7 y8 y9 l4 y10 y11 y12 l5 l6 l7 n 0
def f_law13_VaultKeeps_l1_b (n : Nat) (T : List UInt32) (p0 : List (List UInt8)) (y1 : Bool) (y2 : Option (VltA × DevA × RVltA × RDevA) × Bool) (nx_f_law13_VaultKeeps_l1 : Bool × Bool × Int × Int × List (List UInt8) × List (UInt32 × List UInt8) × List (UInt32 × Bool) × UInt64 × List UInt8 × UInt32 × List KeyA × UInt32 × UInt32 × UInt64 × List (UInt32 × Bool) × List RefA × List (List UInt8) × Int → Option Bool) (y13 : Bool) (y14 : Bool) (y15 : Int) (y16 : Int) (l8 : List (List UInt8)) (l9 : List (UInt32 × List UInt8)) (l10 : List (UInt32 × Bool)) (y17 : UInt64) (y18 : List UInt8) (y19 : UInt32) (l11 : List KeyA) (y20 : UInt32) (y21 : UInt32) (y22 : UInt64) (l12 : List (UInt32 × Bool)) (l13 : List RefA) (l14 : List (List UInt8)) (a1 : Int) : Option Bool :=
  cond (((decide (a1 < (p0.length : Int))) && (decide (a1 < 15))) && y2.2)
  (
    (nthI p0 a1).bind fun x1 =>
    (nthI p0 a1).bind fun x2 =>
    (slcI x1 0 (min (x2.length : Int) 198)).bind fun s1 =>
    (f_vault_Vault_Write T ({ ring := l11, gen := y20, boot := y21, seals := y22, taken := l12 } : VltA) ({ off := y13, isCut := y14, lasts := y15, counts := y16, blocks := l8, pend := l9, bad := l10, rcnt := y17, rtag := y18, rboots := y19 } : DevA) s1).bind fun y23 =>
    cond (decide ((l13.length : Int) = 14))
    (
      cond (!decide (y23.2.1 = 110))
      (
        some false)
      (
        f_law13_VaultKeeps_j1 n T y1 y2 y23.2.2.2.off y23.2.2.2.isCut y23.2.2.2.lasts y23.2.2.2.counts y23.2.2.2.blocks y23.2.2.2.pend y23.2.2.2.bad y23.2.2.2.rcnt y23.2.2.2.rtag y23.2.2.2.rboots y23.2.2.1.ring y23.2.2.1.gen y23.2.2.1.boot y23.2.2.1.seals y23.2.2.1.taken l13 l14))
    (
      cond (!decide (y23.2.1 = 0))
      (
        some false)
      (
        (appL 24 l13 [y23.1]).bind fun l15 =>
        (appL 16 l14 [s1]).bind fun l16 =>
        ret (wI (a1 + 1)) fun i_1 =>
        nx_f_law13_VaultKeeps_l1 (y23.2.2.2.off, y23.2.2.2.isCut, y23.2.2.2.lasts, y23.2.2.2.counts, y23.2.2.2.blocks, y23.2.2.2.pend, y23.2.2.2.bad, y23.2.2.2.rcnt, y23.2.2.2.rtag, y23.2.2.2.rboots, y23.2.2.1.ring, y23.2.2.1.gen, y23.2.2.1.boot, y23.2.2.1.seals, y23.2.2.1.taken, l15, l16, i_1))))
  (
    f_law13_VaultKeeps_j1 n T y1 y2 y13 y14 y15 y16 l8 l9 l10 y17 y18 y19 l11 y20 y21 y22 l12 l13 l14)
def f_law13_VaultKeeps_l1 (n : Nat) (T : List UInt32) (p0 : List (List UInt8)) (y1 : Bool) (y2 : Option (VltA × DevA × RVltA × RDevA) × Bool) : Nat → (Bool × Bool × Int × Int × List (List UInt8) × List (UInt32 × List UInt8) × List (UInt32 × Bool) × UInt64 × List UInt8 × UInt32 × List KeyA × UInt32 × UInt32 × UInt64 × List (UInt32 × Bool) × List RefA × List (List UInt8) × Int) → Option Bool := loopN fun nx x => f_law13_VaultKeeps_l1_b n T p0 y1 y2 nx x.1 x.2.1 x.2.2.1 x.2.2.2.1 x.2.2.2.2.1 x.2.2.2.2.2.1 x.2.2.2.2.2.2.1 x.2.2.2.2.2.2.2.1 x.2.2.2.2.2.2.2.2.1 x.2.2.2.2.2.2.2.2.2.1 x.2.2.2.2.2.2.2.2.2.2.1 x.2.2.2.2.2.2.2.2.2.2.2.1 x.2.2.2.2.2.2.2.2.2.2.2.2.1 x.2.2.2.2.2.2.2.2.2.2.2.2.2.1 x.2.2.2.2.2.2.2.2.2.2.2.2.2.2.1 x.2.2.2.2.2.2.2.2.2.2.2.2.2.2.2.1 x.2.2.2.2.2.2.2.2.2.2.2.2.2.2.2.2.1 x.2.2.2.2.2.2.2.2.2.2.2.2.2.2.2.2.2
def f_law13_VaultKeeps (n : Nat) (T : List UInt32) (p0 : List (List UInt8)) : Option Bool :=
  (f_law13_shown n T).bind fun y1 =>
  (f_law13_made n 16).bind fun y2 =>
  (y2.1).bind fun d1 =>
  f_law13_VaultKeeps_l1 n T p0 y1 y2 n (d1.2.1.off, d1.2.1.isCut, d1.2.1.lasts, d1.2.1.counts, d1.2.1.blocks, d1.2.1.pend, d1.2.1.bad, d1.2.1.rcnt, d1.2.1.rtag, d1.2.1.rboots, d1.1.ring, d1.1.gen, d1.1.boot, d1.1.seals, d1.1.taken, [], [], 0)
set_option maxHeartbeats 4000000 in
set_option maxRecDepth 100000 in
theorem c_law13_VaultKeeps {n : Nat} {T : List UInt32} {v0_ : Value} {p0 : List (List UInt8)} {r : Bool} (h : f_law13_VaultKeeps n T p0 = some r) (hS : ShaT K w0 T) (hs0_ : SlOf K w0 eS 1 v0_ p0) : Con Tryd.prog K w0 6 [v0_] [] H (fun u M => u = vB r ∧ M = []) := by
  unfold f_law13_VaultKeeps at h
  refine Con.enter Tryd.func6 rfl rfl ?_
  refine SX.sr ?_
  refine SL.asg ⟨rfl, rfl, rfl, rfl⟩ rfl ?_
  refine SL.nx ?_
  refine SX.sr ?_
  obtain ⟨y1, hy1, h⟩ := bnd h
  refine SL.call (vs := []) (Hin := []) (Hr := _) ⟨rfl, rfl, rfl, rfl⟩ rfl trivial cal9 rfl rfl (c_law13_shown hy1 hS) ?_
  rintro _ _ ⟨rfl, rfl⟩
  refine ⟨trivial, ?_⟩
  refine SL.asg ⟨rfl, rfl, rfl, rfl⟩ rfl ?_
  refine SL.nx ?_
  refine SX.sr ?_
  obtain ⟨y2, hy2, h⟩ := bnd h
  obtain ⟨d1, hd1, h⟩ := bnd h
  refine SL.call (vs := [_]) (Hin := []) (Hr := _) ⟨rfl, rfl, rfl, rfl⟩ rfl ⟨rfl, trivial⟩ cal15 rfl rfl (c_law13_made hy2) ?_
  rintro _ _ (⟨hn, -, -⟩ | ⟨d_, b1, v1, m1, b2, v2, m2, m3, b3, v3, v4, b4, v5, v6, v7, hn, rfl, rfl⟩)
  · rw [hd1] at hn; cases hn
  obtain rfl : d1 = d_ := Option.some.inj (hd1.symm.trans hn)
  refine ⟨trivial, ?_⟩
  refine SL.mv ⟨rfl, rfl, rfl, rfl⟩ rfl ?_
  refine SL.ext ⟨rfl, rfl, rfl, rfl⟩ rfl rfl ?_
  refine SL.ext ⟨rfl, rfl, rfl, rfl⟩ rfl rfl ?_
  refine SL.ext ⟨rfl, rfl, rfl, rfl⟩ rfl rfl ?_
  refine SL.ext ⟨rfl, rfl, rfl, rfl⟩ rfl rfl ?_
  refine SL.asg ⟨rfl, rfl, rfl, rfl⟩ rfl ?_
  refine SL.asg ⟨rfl, rfl, rfl, rfl⟩ rfl ?_
  refine SL.asg ⟨rfl, rfl, rfl, rfl⟩ rfl ?_
  refine SL.asg ⟨rfl, rfl, rfl, rfl⟩ rfl ?_
  refine SL.nx ?_
  refine SX.sr ?_
  refine SL.nilT 41 2 encRef ?_
  refine SL.asg ⟨rfl, rfl, rfl, rfl⟩ rfl ?_
  refine SL.nx ?_
  refine SX.sr ?_
  refine SL.nilT 9 1 eS ?_
  refine SL.asg ⟨rfl, rfl, rfl, rfl⟩ rfl ?_
  refine SL.nx ?_
  refine SX.meetD (α := Bool × Bool × Int × Int × List (List UInt8) × List (UInt32 × List UInt8) × List (UInt32 × Bool) × UInt64 × List UInt8 × UInt32 × List KeyA × UInt32 × UInt32 × UInt64 × List (UInt32 × Bool) × List RefA × Value × List (List UInt8) × Value) (fun x => f_law13_VaultKeeps_j1 n T y1 y2 x.1 x.2.1 x.2.2.1 x.2.2.2.1 x.2.2.2.2.1 x.2.2.2.2.2.1 x.2.2.2.2.2.2.1 x.2.2.2.2.2.2.2.1 x.2.2.2.2.2.2.2.2.1 x.2.2.2.2.2.2.2.2.2.1 x.2.2.2.2.2.2.2.2.2.2.1 x.2.2.2.2.2.2.2.2.2.2.2.1 x.2.2.2.2.2.2.2.2.2.2.2.2.1 x.2.2.2.2.2.2.2.2.2.2.2.2.2.1 x.2.2.2.2.2.2.2.2.2.2.2.2.2.2.1 x.2.2.2.2.2.2.2.2.2.2.2.2.2.2.2.1 x.2.2.2.2.2.2.2.2.2.2.2.2.2.2.2.2.2.1 = some r) (fun x => [(3, vB y1), (4, vP b1 0), (7, vB y2.2), (8, x.2.2.2.2.2.2.2.2.2.2.2.2.2.2.2.2.1), (9, x.2.2.2.2.2.2.2.2.2.2.2.2.2.2.2.2.2.2)]) (fun x => own b1 (.cells #[vP b2 0, v1, vU32 x.2.2.2.2.2.2.2.2.2.2.2.1, vU32 x.2.2.2.2.2.2.2.2.2.2.2.2.1, vU64 x.2.2.2.2.2.2.2.2.2.2.2.2.2.1, .map (some m1)] 74) :: own b2 (.cells #[vB x.1, vB x.2.1, vI x.2.2.1, vI x.2.2.2.1, v2, .map (some m2), .map (some m3), vU64 x.2.2.2.2.2.2.2.1, vS x.2.2.2.2.2.2.2.2.1, vU32 x.2.2.2.2.2.2.2.2.2.1] 66) :: rowT 9 1 v2 eS x.2.2.2.2.1 :: mapC m2 vU32 vS x.2.2.2.2.2.1 :: mapC m3 vU32 vB x.2.2.2.2.2.2.1 :: rowT 70 2 v1 encKey x.2.2.2.2.2.2.2.2.2.2.1 :: mapC m1 vU32 vB x.2.2.2.2.2.2.2.2.2.2.2.2.2.2.1 :: rowT 41 2 x.2.2.2.2.2.2.2.2.2.2.2.2.2.2.2.2.1 encRef x.2.2.2.2.2.2.2.2.2.2.2.2.2.2.2.1 :: rowT 9 1 x.2.2.2.2.2.2.2.2.2.2.2.2.2.2.2.2.2.2 eS x.2.2.2.2.2.2.2.2.2.2.2.2.2.2.2.2.2.1 :: H) ?_ (fun x D h => ?_)
  · skip
    refine SX.sr ?_
    refine SL.asg ⟨rfl, rfl, rfl, rfl⟩ rfl ?_
    refine SL.nx ?_
    refine SX.block ?_
    refine SX.heap (SX.mono (SX.loop (α := Nat × Bool × Bool × Int × Int × List (List UInt8) × List (UInt32 × List UInt8) × List (UInt32 × Bool) × UInt64 × List UInt8 × UInt32 × List KeyA × UInt32 × UInt32 × UInt64 × List (UInt32 × Bool) × List RefA × Value × List (List UInt8) × Value × Int) (fun x => f_law13_VaultKeeps_l1 n T p0 y1 y2 x.1 (x.2.1, x.2.2.1, x.2.2.2.1, x.2.2.2.2.1, x.2.2.2.2.2.1, x.2.2.2.2.2.2.1, x.2.2.2.2.2.2.2.1, x.2.2.2.2.2.2.2.2.1, x.2.2.2.2.2.2.2.2.2.1, x.2.2.2.2.2.2.2.2.2.2.1, x.2.2.2.2.2.2.2.2.2.2.2.1, x.2.2.2.2.2.2.2.2.2.2.2.2.1, x.2.2.2.2.2.2.2.2.2.2.2.2.2.1, x.2.2.2.2.2.2.2.2.2.2.2.2.2.2.1, x.2.2.2.2.2.2.2.2.2.2.2.2.2.2.2.1, x.2.2.2.2.2.2.2.2.2.2.2.2.2.2.2.2.1, x.2.2.2.2.2.2.2.2.2.2.2.2.2.2.2.2.2.2.1, x.2.2.2.2.2.2.2.2.2.2.2.2.2.2.2.2.2.2.2.2) = some r) (fun x => [(0, v0_), (3, vB y1), (4, vP b1 0), (7, vB y2.2), (8, x.2.2.2.2.2.2.2.2.2.2.2.2.2.2.2.2.2.1), (9, x.2.2.2.2.2.2.2.2.2.2.2.2.2.2.2.2.2.2.2.1), (10, vI x.2.2.2.2.2.2.2.2.2.2.2.2.2.2.2.2.2.2.2.2)]) (fun x => own b1 (.cells #[vP b2 0, v1, vU32 x.2.2.2.2.2.2.2.2.2.2.2.2.1, vU32 x.2.2.2.2.2.2.2.2.2.2.2.2.2.1, vU64 x.2.2.2.2.2.2.2.2.2.2.2.2.2.2.1, .map (some m1)] 74) :: own b2 (.cells #[vB x.2.1, vB x.2.2.1, vI x.2.2.2.1, vI x.2.2.2.2.1, v2, .map (some m2), .map (some m3), vU64 x.2.2.2.2.2.2.2.2.1, vS x.2.2.2.2.2.2.2.2.2.1, vU32 x.2.2.2.2.2.2.2.2.2.2.1] 66) :: rowT 9 1 v2 eS x.2.2.2.2.2.1 :: mapC m2 vU32 vS x.2.2.2.2.2.2.1 :: mapC m3 vU32 vB x.2.2.2.2.2.2.2.1 :: rowT 70 2 v1 encKey x.2.2.2.2.2.2.2.2.2.2.2.1 :: mapC m1 vU32 vB x.2.2.2.2.2.2.2.2.2.2.2.2.2.2.2.1 :: rowT 41 2 x.2.2.2.2.2.2.2.2.2.2.2.2.2.2.2.2.2.1 encRef x.2.2.2.2.2.2.2.2.2.2.2.2.2.2.2.2.1 :: rowT 9 1 x.2.2.2.2.2.2.2.2.2.2.2.2.2.2.2.2.2.2.2.1 eS x.2.2.2.2.2.2.2.2.2.2.2.2.2.2.2.2.2.2.1 :: H) (fun x => x.1) (fun x D h => ?_) (n, d1.2.1.off, d1.2.1.isCut, d1.2.1.lasts, d1.2.1.counts, d1.2.1.blocks, d1.2.1.pend, d1.2.1.bad, d1.2.1.rcnt, d1.2.1.rtag, d1.2.1.rboots, d1.1.ring, d1.1.gen, d1.1.boot, d1.1.seals, d1.1.taken, [], .slice none 0 0, [], .slice none 0 0, 0) h) (by repeat' (first | exact trivial | refine And.intro rfl ?_))) (fun _ hw => HpOk.pick (H := [_, _, _, _, _, _, _, _, _, _, _, _, _, _, _, _]) hw [2, 5, 6, 7, 8, 3, 4, 1, 0] 16 rfl)
    obtain ⟨m4, y13, y14, y15, y16, l8, l9, l10, y17, y18, y19, l11, y20, y21, y22, l12, l13, v10, l14, v11, a1⟩ := x
    dsimp only at h
    rcases m4 with _ | m4
    · cases (show (none : Option _) = some r from h)
    replace h : f_law13_VaultKeeps_l1_b n T p0 y1 y2 (f_law13_VaultKeeps_l1 n T p0 y1 y2 m4) y13 y14 y15 y16 l8 l9 l10 y17 y18 y19 l11 y20 y21 y22 l12 l13 l14 a1 = some r := h
    unfold f_law13_VaultKeeps_l1_b at h
    refine SX.re [(0, v0_), (3, vB y1), (4, vP b1 0), (7, vB y2.2), (8, v10), (9, v11), (10, vI a1)] (own b1 (.cells #[vP b2 0, v1, vU32 y20, vU32 y21, vU64 y22, .map (some m1)] 74) :: own b2 (.cells #[vB y13, vB y14, vI y15, vI y16, v2, .map (some m2), .map (some m3), vU64 y17, vS y18, vU32 y19] 66) :: rowT 9 1 v2 eS l8 :: mapC m2 vU32 vS l9 :: mapC m3 vU32 vB l10 :: rowT 70 2 v1 encKey l11 :: mapC m1 vU32 vB l12 :: rowT 41 2 v10 encRef l13 :: rowT 9 1 v11 eS l14 :: H) ?_ (by repeat' (first | exact trivial | refine And.intro rfl ?_))
    refine SX.seq ?_
    refine SX.sr ?_
    refine SL.mv ⟨rfl, rfl, rfl, rfl⟩ rfl ?_
    refine SL.mv ⟨rfl, rfl, rfl, rfl⟩ rfl ?_
    refine SL.lenV hs0_ ⟨rfl, rfl, rfl, rfl⟩ ty49 rfl ?_
    refine SL.bin ⟨rfl, rfl, rfl, rfl⟩ rfl rfl Bin.ltI ?_
    refine SL.mv ⟨rfl, rfl, rfl, rfl⟩ rfl ?_
    refine SL.and (c := decide (a1 < 15)) 30 3 33 rfl (fun hb k => ?_) (fun hb k => ?_) ?_
    · skip
      refine SL.mv ⟨rfl, rfl, rfl, rfl⟩ rfl ?_
      refine SL.bin ⟨rfl, rfl, rfl, rfl⟩ rfl rfl Bin.ltI ?_
      refine SL.pk ⟨rfl, rfl, rfl, rfl⟩ rfl rfl ?_
      exact k.mono (by repeat' (first | exact trivial | refine And.intro rfl ?_))
    · skip
      refine SL.pass rfl rfl rfl ?_
      refine SL.pass rfl rfl rfl ?_
      refine SL.pk ⟨rfl, rfl, rfl, rfl⟩ rfl rfl ?_
      exact k.mono (by repeat' (first | exact trivial | refine And.intro rfl ?_))
    refine SL.mv ⟨rfl, rfl, rfl, rfl⟩ rfl ?_
    refine SL.and (c := y2.2) 34 2 36 rfl (fun hb k => ?_) (fun hb k => ?_) ?_
    · skip
      refine SL.mv ⟨rfl, rfl, rfl, rfl⟩ rfl ?_
      refine SL.pk ⟨rfl, rfl, rfl, rfl⟩ rfl rfl ?_
      exact k.mono (by repeat' (first | exact trivial | refine And.intro rfl ?_))
    · skip
      refine SL.pass rfl rfl rfl ?_
      refine SL.pk ⟨rfl, rfl, rfl, rfl⟩ rfl rfl ?_
      exact k.mono (by repeat' (first | exact trivial | refine And.intro rfl ?_))
    refine SL.nx ?_
    refine SX.cond rfl (fun hc1 => ?_) (fun hc1 => ?_)
    · skip
      replace h := cT hc1 h
      refine SX.skip ?_
      refine SQ.thn ?_
      refine SX.seq ?_
      refine SX.block ?_
      refine SX.seq ?_
      obtain ⟨x1, hx1, h⟩ := bnd h
      obtain ⟨x2, hx2, h⟩ := bnd h
      obtain ⟨s1, hs1, h⟩ := bnd h
      refine SX.drawI mix [] (Pl.of [(true, 0), (true, 1), (true, 2), (true, 3), (true, 4), (true, 5), (true, 6), (true, 7), (true, 8), (true, 9), (true, 10), (true, 11)]) (by kernel_rfl) ?_
      refine SL.mv ⟨rfl, rfl, rfl, rfl⟩ rfl ?_
      refine SL.mv ⟨rfl, rfl, rfl, rfl⟩ rfl ?_
      refine SL.iaN hx1 hs0_ ⟨rfl, rfl, rfl, rfl⟩ ty49 sz9 rfl rfl fun be1 of1 hc2 => ?_
      refine SL.ld ⟨rfl, rfl, rfl, rfl⟩ sc9 rfl (cell_kept (j := 0) hc2 rfl) ?_
      refine SL.mv ⟨rfl, rfl, rfl, rfl⟩ rfl ?_
      refine SL.mv ⟨rfl, rfl, rfl, rfl⟩ rfl ?_
      refine SL.iaN hx2 hs0_ ⟨rfl, rfl, rfl, rfl⟩ ty49 sz9 rfl rfl fun be2 of2 hc3 => ?_
      refine SL.ld ⟨rfl, rfl, rfl, rfl⟩ sc9 rfl (cell_kept (j := 0) hc3 rfl) ?_
      refine SL.lenS ⟨rfl, rfl, rfl, rfl⟩ ty9 rfl ?_
      refine SL.minI ⟨rfl, rfl, rfl, rfl⟩ rfl rfl ?_
      refine SL.slNh hs1 ⟨rfl, rfl, rfl, rfl⟩ ty9 rfl rfl ?_
      refine SL.asg ⟨rfl, rfl, rfl, rfl⟩ rfl ?_
      refine SL.nx ?_
      refine SX.sr ?_
      obtain ⟨y23, hy23, h⟩ := bnd h
      refine SL.mv ⟨rfl, rfl, rfl, rfl⟩ rfl ?_
      refine SL.mv ⟨rfl, rfl, rfl, rfl⟩ rfl ?_
      refine SL.pick [0, 5, 6, 1, 2, 3, 4] 7 ?_
      refine SL.call (vs := [_, _]) (Hin := [_, _, _, _, _, _, _]) (Hr := _ :: _ :: _) ⟨rfl, rfl, rfl, rfl⟩ rfl ⟨rfl, rfl, trivial⟩ cal16 rfl rfl (c_vault_Vault_Write hy23 hS) ?_
      rintro _ _ ⟨rfl, rfl⟩
      refine ⟨trivial, ?_⟩
      refine SL.mv ⟨rfl, rfl, rfl, rfl⟩ rfl ?_
      refine SL.ext ⟨rfl, rfl, rfl, rfl⟩ rfl rfl ?_
      refine SL.ext ⟨rfl, rfl, rfl, rfl⟩ rfl rfl ?_
      refine SL.alloc ⟨rfl, rfl, rfl, rfl⟩ ze41 (fun _ => trivial) fun b5 => ?_
      refine SL.st 0 ⟨rfl, rfl, rfl⟩ rfl rfl rfl sz41 rfl rfl rfl trivial ?_
      refine SL.asg ⟨rfl, rfl, rfl, rfl⟩ rfl ?_
      refine SL.nx ?_
      refine SX.seq ?_
      refine SX.sr ?_
      refine SL.mv ⟨rfl, rfl, rfl, rfl⟩ rfl ?_
      refine SL.lenT 8 ⟨rfl, rfl, rfl, rfl⟩ ty53 rfl rfl ?_
      refine SL.bin ⟨rfl, rfl, rfl, rfl⟩ rfl rfl Bin.eqI ?_
      refine SL.nx ?_
      refine SX.cond rfl (fun hc4 => ?_) (fun hc4 => ?_)
      · skip
        replace h := cT hc4 h
        refine SX.seq ?_
        refine SX.sr ?_
        refine SL.mv ⟨rfl, rfl, rfl, rfl⟩ rfl ?_
        refine SL.bin ⟨rfl, rfl, rfl, rfl⟩ rfl rfl Bin.neI ?_
        refine SL.nx ?_
        refine SX.cond rfl (fun hc5 => ?_) (fun hc5 => ?_)
        · skip
          replace h := cT hc5 h
          refine SX.sr ?_
          refine SL.asg ⟨rfl, rfl, rfl, rfl⟩ rfl ?_
          refine SL.nx ?_
          refine SX.ret ?_
          refine SQ.thnR ?_
          refine SQ.thnR ?_
          refine SQ.blkR ?_
          refine SQ.thnR ?_
          refine SQ.lpR ?_
          refine SQ.blkR ?_
          refine SQ.midDR ?_
          obtain rfl := Option.some.inj h
          exact SQ.fret (res1 rfl rfl) (ret_of (M := []) ⟨rfl, rfl⟩ fun _ hw => HpOk.pick (H := [_, _, _, _, _, _, _, _, _, _]) hw [] 10 rfl)
        · skip
          replace h := cF hc5 h
          refine SX.skip ?_
          refine SQ.thn ?_
          refine SX.exit ?_
          refine SQ.thnE ?_
          refine SQ.blkO ?_
          refine SQ.thnE ?_
          refine SQ.lpE ?_
          refine SQ.blkE ?_
          exact SQ.midD (y23.2.2.2.off, y23.2.2.2.isCut, y23.2.2.2.lasts, y23.2.2.2.counts, y23.2.2.2.blocks, y23.2.2.2.pend, y23.2.2.2.bad, y23.2.2.2.rcnt, y23.2.2.2.rtag, y23.2.2.2.rboots, y23.2.2.1.ring, y23.2.2.1.gen, y23.2.2.1.boot, y23.2.2.1.seals, y23.2.2.1.taken, l13, v10, l14, v11) h (by repeat' (first | exact trivial | refine And.intro rfl ?_)) (fun _ hw => HpOk.pick (H := [_, _, _, _, _, _, _, _, _, _]) hw [1, 4, 5, 6, 7, 2, 3, 8, 9] 10 rfl)
      · skip
        replace h := cF hc4 h
        refine SX.skip ?_
        refine SQ.thn ?_
        refine SX.seq ?_
        refine SX.sr ?_
        refine SL.mv ⟨rfl, rfl, rfl, rfl⟩ rfl ?_
        refine SL.bin ⟨rfl, rfl, rfl, rfl⟩ rfl rfl Bin.neI ?_
        refine SL.nx ?_
        refine SX.cond rfl (fun hc6 => ?_) (fun hc6 => ?_)
        · skip
          replace h := cT hc6 h
          refine SX.sr ?_
          refine SL.asg ⟨rfl, rfl, rfl, rfl⟩ rfl ?_
          refine SL.nx ?_
          refine SX.ret ?_
          refine SQ.thnR ?_
          refine SQ.blkR ?_
          refine SQ.thnR ?_
          refine SQ.lpR ?_
          refine SQ.blkR ?_
          refine SQ.midDR ?_
          obtain rfl := Option.some.inj h
          exact SQ.fret (res1 rfl rfl) (ret_of (M := []) ⟨rfl, rfl⟩ fun _ hw => HpOk.pick (H := [_, _, _, _, _, _, _, _, _, _]) hw [] 10 rfl)
        · skip
          replace h := cF hc6 h
          refine SX.skip ?_
          refine SQ.thn ?_
          refine SX.sr ?_
          obtain ⟨l15, hl15, h⟩ := bnd h
          refine SL.mv ⟨rfl, rfl, rfl, rfl⟩ rfl ?_
          refine SL.ldA [vU32 y23.1.page, vS y23.1.tag] ⟨rfl, rfl, rfl, rfl⟩ ag41 rfl rfl (cells_all 0 rfl) ?_
          refine SL.bsl [_] ⟨rfl, rfl, rfl, rfl⟩ ty53 sz41 ze41 ⟨rfl, trivial⟩ rfl rfl rfl (by first | (simp [Value.cells]; done) | (intro v hv; simp only [List.mem_cons, List.not_mem_nil, or_false] at hv; rcases hv with rfl <;> rfl)) rfl rfl (fun _ => trivial) fun b6 => ?_
          refine SL.ownT encRef 2 ([y23.1] : List RefA) rfl (fun _ => rfl) rfl ?_
          refine SL.appT 9 hl15 (sz := 2) (enc := encRef) (fun _ => rfl) ⟨rfl, rfl, rfl, rfl⟩ ty53 sz41 by41 ze41 rfl (by decide) rfl rfl rfl rfl (cells_rowA (sz := 2) (enc := encRef) 0 (fun _ => rfl) rfl) (by simp [encRef, Value.oneCell']) (fun _ => trivial) fun v12 => ?_
          refine SL.asg ⟨rfl, rfl, rfl, rfl⟩ rfl ?_
          refine SL.nx ?_
          refine SX.region ?_
          obtain ⟨l16, hl16, h⟩ := bnd h
          refine SL.mv ⟨rfl, rfl, rfl, rfl⟩ rfl ?_
          refine SL.mv ⟨rfl, rfl, rfl, rfl⟩ rfl ?_
          refine SL.bsl [_] ⟨rfl, rfl, rfl, rfl⟩ ty49 sz9 ze9 ⟨rfl, trivial⟩ rfl rfl rfl (by first | (simp [Value.cells]; done) | (intro v hv; simp only [List.mem_cons, List.not_mem_nil, or_false] at hv; rcases hv with rfl <;> rfl)) rfl rfl (fun _ => trivial) fun b7 => ?_
          refine SL.ownT eS 1 ([s1] : List (List UInt8)) rfl (fun _ => rfl) rfl ?_
          refine SL.appT 11 hl16 (sz := 1) (enc := eS) (fun _ => rfl) ⟨rfl, rfl, rfl, rfl⟩ ty49 sz9 by9 ze9 rfl (by decide) rfl rfl rfl rfl (cells_rowA (sz := 1) (enc := eS) 0 (fun _ => rfl) rfl) (by simp [eS, Value.oneCell']) (fun _ => trivial) fun v13 => ?_
          refine SL.asg ⟨rfl, rfl, rfl, rfl⟩ rfl ?_
          refine SL.nil ?_
          refine SQ.blk ?_
          refine SQ.thn ?_
          refine SX.region ?_
          obtain ⟨i_1, ei_1, h⟩ := retE h
          refine SL.mv ⟨rfl, rfl, rfl, rfl⟩ rfl ?_
          refine SL.bin ⟨rfl, rfl, rfl, rfl⟩ rfl rfl Bin.addW ?_
          refine SL.asgX (u := vI i_1) ⟨rfl, rfl, rfl, rfl⟩ rfl (congrArg vI ei_1) ?_
          refine SL.nil ?_
          exact SQ.again (m4, y23.2.2.2.off, y23.2.2.2.isCut, y23.2.2.2.lasts, y23.2.2.2.counts, y23.2.2.2.blocks, y23.2.2.2.pend, y23.2.2.2.bad, y23.2.2.2.rcnt, y23.2.2.2.rtag, y23.2.2.2.rboots, y23.2.2.1.ring, y23.2.2.1.gen, y23.2.2.1.boot, y23.2.2.1.seals, y23.2.2.1.taken, l15, v12, l16, v13, i_1) h (Nat.lt_succ_self _) (by repeat' (first | exact trivial | refine And.intro rfl ?_)) (fun _ hw => HpOk.pick (H := [_, _, _, _, _, _, _, _, _, _, _, _]) hw [3, 6, 7, 8, 9, 4, 5, 10, 11] 12 rfl)
    · skip
      replace h := cF hc1 h
      refine SX.exit ?_
      refine SQ.thnE ?_
      refine SQ.lpE ?_
      refine SQ.blkE ?_
      exact SQ.midD (y13, y14, y15, y16, l8, l9, l10, y17, y18, y19, l11, y20, y21, y22, l12, l13, v10, l14, v11) h (by repeat' (first | exact trivial | refine And.intro rfl ?_)) (fun _ hw => HpOk.pick (H := [_, _, _, _, _, _, _, _, _]) hw [0, 1, 2, 3, 4, 5, 6, 7, 8] 9 rfl)
  · skip
    obtain ⟨y3, y4, y5, y6, l1, l2, l3, y7, y8, y9, l4, y10, y11, y12, l5, l6, v8, l7, v9⟩ := x
    dsimp only at h
    unfold f_law13_VaultKeeps_j1 at h
    refine SX.re [(3, vB y1), (4, vP b1 0), (7, vB y2.2), (8, v8), (9, v9)] (own b1 (.cells #[vP b2 0, v1, vU32 y10, vU32 y11, vU64 y12, .map (some m1)] 74) :: own b2 (.cells #[vB y3, vB y4, vI y5, vI y6, v2, .map (some m2), .map (some m3), vU64 y7, vS y8, vU32 y9] 66) :: rowT 9 1 v2 eS l1 :: mapC m2 vU32 vS l2 :: mapC m3 vU32 vB l3 :: rowT 70 2 v1 encKey l4 :: mapC m1 vU32 vB l5 :: rowT 41 2 v8 encRef l6 :: rowT 9 1 v9 eS l7 :: H) ?_ (by repeat' (first | exact trivial | refine And.intro rfl ?_))
    refine SX.meetD (α := Unit) (fun x => f_law13_VaultKeeps_j2 y1 y2 y3 y4 y5 y6 l1 l2 l3 y7 y8 y9 l4 y10 y11 y12 l5 l6 = some r) (fun x => [(3, vB y1), (4, vP b1 0), (7, vB y2.2), (8, v8)]) (fun x => own b1 (.cells #[vP b2 0, v1, vU32 y10, vU32 y11, vU64 y12, .map (some m1)] 74) :: own b2 (.cells #[vB y3, vB y4, vI y5, vI y6, v2, .map (some m2), .map (some m3), vU64 y7, vS y8, vU32 y9] 66) :: rowT 9 1 v2 eS l1 :: mapC m2 vU32 vS l2 :: mapC m3 vU32 vB l3 :: rowT 70 2 v1 encKey l4 :: mapC m1 vU32 vB l5 :: rowT 41 2 v8 encRef l6 :: H) ?_ (fun x D h => ?_)
    · skip
      refine SX.sr ?_
      refine SL.asg ⟨rfl, rfl, rfl, rfl⟩ rfl ?_
      refine SL.nx ?_
      refine SX.block ?_
      refine SX.heap (SX.mono (SX.loop (α := Nat × Int) (fun x => f_law13_VaultKeeps_l2 T y1 y2 y3 y4 y5 y6 l1 l2 l3 y7 y8 y9 l4 y10 y11 y12 l5 l6 l7 x.1 x.2 = some r) (fun x => [(3, vB y1), (4, vP b1 0), (7, vB y2.2), (8, v8), (9, v9), (14, vI x.2)]) (fun x => own b1 (.cells #[vP b2 0, v1, vU32 y10, vU32 y11, vU64 y12, .map (some m1)] 74) :: own b2 (.cells #[vB y3, vB y4, vI y5, vI y6, v2, .map (some m2), .map (some m3), vU64 y7, vS y8, vU32 y9] 66) :: rowT 9 1 v2 eS l1 :: mapC m2 vU32 vS l2 :: mapC m3 vU32 vB l3 :: rowT 70 2 v1 encKey l4 :: mapC m1 vU32 vB l5 :: rowT 41 2 v8 encRef l6 :: rowT 9 1 v9 eS l7 :: H) (fun x => x.1) (fun x D h => ?_) (n, 0) h) (by repeat' (first | exact trivial | refine And.intro rfl ?_))) (fun _ hw => HpOk.pick (H := [_, _, _, _, _, _, _, _, _]) hw [0, 1, 2, 3, 4, 5, 6, 7, 8] 9 rfl)
      obtain ⟨m5, a2⟩ := x
      dsimp only at h
      rcases m5 with _ | m5
      · cases (show (none : Option _) = some r from h)
      replace h : f_law13_VaultKeeps_l2_b T y1 y2 y3 y4 y5 y6 l1 l2 l3 y7 y8 y9 l4 y10 y11 y12 l5 l6 l7 (f_law13_VaultKeeps_l2 T y1 y2 y3 y4 y5 y6 l1 l2 l3 y7 y8 y9 l4 y10 y11 y12 l5 l6 l7 m5) a2 = some r := h
      unfold f_law13_VaultKeeps_l2_b at h
      refine SX.re [(3, vB y1), (4, vP b1 0), (7, vB y2.2), (8, v8), (9, v9), (14, vI a2)] (own b1 (.cells #[vP b2 0, v1, vU32 y10, vU32 y11, vU64 y12, .map (some m1)] 74) :: own b2 (.cells #[vB y3, vB y4, vI y5, vI y6, v2, .map (some m2), .map (some m3), vU64 y7, vS y8, vU32 y9] 66) :: rowT 9 1 v2 eS l1 :: mapC m2 vU32 vS l2 :: mapC m3 vU32 vB l3 :: rowT 70 2 v1 encKey l4 :: mapC m1 vU32 vB l5 :: rowT 41 2 v8 encRef l6 :: rowT 9 1 v9 eS l7 :: H) ?_ (by repeat' (first | exact trivial | refine And.intro rfl ?_))
      refine SX.seq ?_
      refine SX.sr ?_
      refine SL.mv ⟨rfl, rfl, rfl, rfl⟩ rfl ?_
      refine SL.mv ⟨rfl, rfl, rfl, rfl⟩ rfl ?_
      refine SL.lenT 7 ⟨rfl, rfl, rfl, rfl⟩ ty53 rfl rfl ?_
      refine SL.bin ⟨rfl, rfl, rfl, rfl⟩ rfl rfl Bin.ltI ?_
      refine SL.nx ?_
      refine SX.cond rfl (fun hc7 => ?_) (fun hc7 => ?_)
      · skip
        replace h := cT hc7 h
        refine SX.skip ?_
        refine SQ.thn ?_
        refine SX.seq ?_
        refine SX.block ?_
        refine SX.sr ?_
        obtain ⟨x3, hx3, h⟩ := bnd h
        obtain ⟨y24, hy24, h⟩ := bnd h
        refine SL.mv ⟨rfl, rfl, rfl, rfl⟩ rfl ?_
        refine SL.mv ⟨rfl, rfl, rfl, rfl⟩ rfl ?_
        refine SL.mv ⟨rfl, rfl, rfl, rfl⟩ rfl ?_
        refine SL.iaT 7 hx3 ⟨rfl, rfl, rfl, rfl⟩ ty53 sz41 rfl rfl rfl fun g1 m6 cp1 hv1 => ?_
        refine SL.ldA (encRef x3) ⟨rfl, rfl, rfl, rfl⟩ ag41 rfl rfl (cells_rowT (sz := 2) (enc := encRef) 7 (fun _ => rfl) rfl hv1 hx3) ?_
        refine SL.pick [0, 5, 6, 1, 2, 3, 4] 7 ?_
        refine SL.call (vs := [_, _]) (Hin := [_, _, _, _, _, _, _]) (Hr := _ :: _ :: _) ⟨rfl, rfl, rfl, rfl⟩ rfl ⟨rfl, rfl, trivial⟩ cal19 rfl rfl ((c_vault_Vault_Read hy24 hS :)) ?_
        rintro _ _ ⟨rfl, rfl⟩
        refine ⟨trivial, ?_⟩
        refine SL.mv ⟨rfl, rfl, rfl, rfl⟩ rfl ?_
        refine SL.ext ⟨rfl, rfl, rfl, rfl⟩ rfl rfl ?_
        refine SL.ext ⟨rfl, rfl, rfl, rfl⟩ rfl rfl ?_
        refine SL.asg ⟨rfl, rfl, rfl, rfl⟩ rfl ?_
        refine SL.asg ⟨rfl, rfl, rfl, rfl⟩ rfl ?_
        refine SL.nx ?_
        refine SX.sr ?_
        obtain ⟨x4, hx4, h⟩ := bnd h
        obtain ⟨y25, hy25, h⟩ := bnd h
        refine SL.mv ⟨rfl, rfl, rfl, rfl⟩ rfl ?_
        refine SL.mv ⟨rfl, rfl, rfl, rfl⟩ rfl ?_
        refine SL.mv ⟨rfl, rfl, rfl, rfl⟩ rfl ?_
        refine SL.iaT 7 hx4 ⟨rfl, rfl, rfl, rfl⟩ ty53 sz41 rfl rfl rfl fun g2 m7 cp2 hv2 => ?_
        refine SL.ldA (encRef x4) ⟨rfl, rfl, rfl, rfl⟩ ag41 rfl rfl (cells_rowT (sz := 2) (enc := encRef) 7 (fun _ => rfl) rfl hv2 hx4) ?_
        refine SL.call (vs := [_, _]) (Hin := [_, _, _, _, _, _, _]) (Hr := _ :: _ :: _) ⟨rfl, rfl, rfl, rfl⟩ rfl ⟨rfl, rfl, trivial⟩ cal21 rfl rfl ((c_vault_Vault_Gen hy25 hS :)) ?_
        rintro _ _ ⟨rfl, rfl⟩
        refine ⟨trivial, ?_⟩
        refine SL.mv ⟨rfl, rfl, rfl, rfl⟩ rfl ?_
        refine SL.ext ⟨rfl, rfl, rfl, rfl⟩ rfl rfl ?_
        refine SL.ext ⟨rfl, rfl, rfl, rfl⟩ rfl rfl ?_
        refine SL.asg ⟨rfl, rfl, rfl, rfl⟩ rfl ?_
        refine SL.asg ⟨rfl, rfl, rfl, rfl⟩ rfl ?_
        refine SL.nx ?_
        refine SX.sr ?_
        obtain ⟨y26, hy26, h⟩ := bnd h
        refine SL.mv ⟨rfl, rfl, rfl, rfl⟩ rfl ?_
        refine SL.bin ⟨rfl, rfl, rfl, rfl⟩ rfl rfl Bin.neI ?_
        refine SL.mv ⟨rfl, rfl, rfl, rfl⟩ rfl ?_
        refine SL.or (c := !decide (y25.2 = 0)) 97 3 100 rfl (fun hb k => ?_) (fun hb k => ?_) ?_
        · skip
          refine SL.pass rfl rfl rfl ?_
          refine SL.pass rfl rfl rfl ?_
          refine SL.pk ⟨rfl, rfl, rfl, rfl⟩ rfl rfl ?_
          exact k.mono (by repeat' (first | exact trivial | refine And.intro rfl ?_))
        · skip
          refine SL.mv ⟨rfl, rfl, rfl, rfl⟩ rfl ?_
          refine SL.bin ⟨rfl, rfl, rfl, rfl⟩ rfl rfl Bin.neI ?_
          refine SL.pk ⟨rfl, rfl, rfl, rfl⟩ rfl rfl ?_
          exact k.mono (by repeat' (first | exact trivial | refine And.intro rfl ?_))
        refine SL.mv ⟨rfl, rfl, rfl, rfl⟩ rfl ?_
        refine SL.orN 101 7 108 hy26 rfl (fun hb k => ?_) (fun hb hg4 k => ?_) ?_
        · skip
          refine SL.pass rfl rfl rfl ?_
          refine SL.pass rfl rfl rfl ?_
          refine SL.pass rfl rfl rfl ?_
          refine SL.pass rfl rfl rfl ?_
          refine SL.pass rfl rfl rfl ?_
          refine SL.pass rfl rfl rfl ?_
          refine SL.pk ⟨rfl, rfl, rfl, rfl⟩ rfl rfl ?_
          exact k.mono (by repeat' (first | exact trivial | refine And.intro rfl ?_))
        · skip
          obtain ⟨x5, hx5, hg4⟩ := bnd hg4
          obtain rfl := Option.some.inj hg4
          refine SL.mv ⟨rfl, rfl, rfl, rfl⟩ rfl ?_
          refine SL.mv ⟨rfl, rfl, rfl, rfl⟩ rfl ?_
          refine SL.mv ⟨rfl, rfl, rfl, rfl⟩ rfl ?_
          refine SL.iaT 8 hx5 ⟨rfl, rfl, rfl, rfl⟩ ty49 sz9 rfl rfl rfl fun g3 m8 cp3 hv3 => ?_
          refine SL.ld ⟨rfl, rfl, rfl, rfl⟩ sc9 rfl (cell_rowT (sz := 1) (enc := eS) 8 0 (fun _ => rfl) rfl hv3 hx5 rfl) ?_
          refine SL.bin ⟨rfl, rfl, rfl, rfl⟩ rfl rfl Bin.neS ?_
          refine SL.pk ⟨rfl, rfl, rfl, rfl⟩ rfl rfl ?_
          exact k.mono (by repeat' (first | exact trivial | refine And.intro rfl ?_))
        refine SL.mv ⟨rfl, rfl, rfl, rfl⟩ rfl ?_
        refine SL.or (c := !decide (y25.1 = 1)) 109 3 112 rfl (fun hb k => ?_) (fun hb k => ?_) ?_
        · skip
          refine SL.pass rfl rfl rfl ?_
          refine SL.pass rfl rfl rfl ?_
          refine SL.pk ⟨rfl, rfl, rfl, rfl⟩ rfl rfl ?_
          exact k.mono (by repeat' (first | exact trivial | refine And.intro rfl ?_))
        · skip
          refine SL.mv ⟨rfl, rfl, rfl, rfl⟩ rfl ?_
          refine SL.bin ⟨rfl, rfl, rfl, rfl⟩ rfl rfl (Bin.ne32 (b := 1)) ?_
          refine SL.pk ⟨rfl, rfl, rfl, rfl⟩ rfl rfl ?_
          exact k.mono (by repeat' (first | exact trivial | refine And.intro rfl ?_))
        refine SL.nx ?_
        refine SX.cond rfl (fun hc8 => ?_) (fun hc8 => ?_)
        · skip
          replace h := cT hc8 h
          refine SX.sr ?_
          refine SL.asg ⟨rfl, rfl, rfl, rfl⟩ rfl ?_
          refine SL.nx ?_
          refine SX.ret ?_
          refine SQ.blkR ?_
          refine SQ.thnR ?_
          refine SQ.lpR ?_
          refine SQ.blkR ?_
          refine SQ.midDR ?_
          obtain rfl := Option.some.inj h
          exact SQ.fret (res1 rfl rfl) (ret_of (M := []) ⟨rfl, rfl⟩ fun _ hw => HpOk.pick (H := [_, _, _, _, _, _, _, _, _]) hw [] 9 rfl)
        · skip
          replace h := cF hc8 h
          refine SX.skip ?_
          refine SQ.blk ?_
          refine SQ.thn ?_
          refine SX.region ?_
          obtain ⟨i_2, ei_2, h⟩ := retE h
          refine SL.mv ⟨rfl, rfl, rfl, rfl⟩ rfl ?_
          refine SL.bin ⟨rfl, rfl, rfl, rfl⟩ rfl rfl Bin.addW ?_
          refine SL.asgX (u := vI i_2) ⟨rfl, rfl, rfl, rfl⟩ rfl (congrArg vI ei_2) ?_
          refine SL.nil ?_
          exact SQ.again (m5, i_2) h (Nat.lt_succ_self _) (by repeat' (first | exact trivial | refine And.intro rfl ?_)) (fun _ hw => HpOk.pick (H := [_, _, _, _, _, _, _, _, _]) hw [0, 3, 4, 5, 6, 1, 2, 7, 8] 9 rfl)
      · skip
        replace h := cF hc7 h
        refine SX.exit ?_
        refine SQ.thnE ?_
        refine SQ.lpE ?_
        refine SQ.blkE ?_
        exact SQ.midD () h (by repeat' (first | exact trivial | refine And.intro rfl ?_)) (fun _ hw => HpOk.pick (H := [_, _, _, _, _, _, _, _, _]) hw [0, 1, 2, 3, 4, 5, 6, 7] 9 rfl)
    · skip
      unfold f_law13_VaultKeeps_j2 at h
      refine SX.re [(3, vB y1), (4, vP b1 0), (7, vB y2.2), (8, v8)] (own b1 (.cells #[vP b2 0, v1, vU32 y10, vU32 y11, vU64 y12, .map (some m1)] 74) :: own b2 (.cells #[vB y3, vB y4, vI y5, vI y6, v2, .map (some m2), .map (some m3), vU64 y7, vS y8, vU32 y9] 66) :: rowT 9 1 v2 eS l1 :: mapC m2 vU32 vS l2 :: mapC m3 vU32 vB l3 :: rowT 70 2 v1 encKey l4 :: mapC m1 vU32 vB l5 :: rowT 41 2 v8 encRef l6 :: H) ?_ (by repeat' (first | exact trivial | refine And.intro rfl ?_))
      refine SX.sr ?_
      obtain ⟨y28, hy28, h⟩ := bnd h
      refine SL.mv ⟨rfl, rfl, rfl, rfl⟩ rfl ?_
      refine SL.mv ⟨rfl, rfl, rfl, rfl⟩ rfl ?_
      refine SL.and (c := y2.2) 114 2 116 rfl (fun hb k => ?_) (fun hb k => ?_) ?_
      · skip
        refine SL.mv ⟨rfl, rfl, rfl, rfl⟩ rfl ?_
        refine SL.pk ⟨rfl, rfl, rfl, rfl⟩ rfl rfl ?_
        exact k.mono (by repeat' (first | exact trivial | refine And.intro rfl ?_))
      · skip
        refine SL.pass rfl rfl rfl ?_
        refine SL.pk ⟨rfl, rfl, rfl, rfl⟩ rfl rfl ?_
        exact k.mono (by repeat' (first | exact trivial | refine And.intro rfl ?_))
      refine SL.mv ⟨rfl, rfl, rfl, rfl⟩ rfl ?_
      refine SL.andN 117 7 124 hy28 rfl (fun hb hg7 k => ?_) (fun hb k => ?_) ?_
      · skip
        obtain ⟨y27, hy27, hg7⟩ := bnd hg7
        obtain rfl := Option.some.inj hg7
        refine SL.mv ⟨rfl, rfl, rfl, rfl⟩ rfl ?_
        refine SL.pick [0, 5, 6, 1, 2, 3, 4] 7 ?_
        refine SL.call (vs := [_]) (Hin := [_, _, _, _, _, _, _]) (Hr := _ :: _) ⟨rfl, rfl, rfl, rfl⟩ rfl ⟨rfl, trivial⟩ cal13 rfl rfl (c_vault_Vault_Free hy27) ?_
        rintro _ _ ⟨rfl, rfl⟩
        refine ⟨trivial, ?_⟩
        refine SL.mv ⟨rfl, rfl, rfl, rfl⟩ rfl ?_
        refine SL.lenT 7 ⟨rfl, rfl, rfl, rfl⟩ ty53 rfl rfl ?_
        refine SL.bin ⟨rfl, rfl, rfl, rfl⟩ rfl rfl Bin.subW ?_
        refine SL.bin ⟨rfl, rfl, rfl, rfl⟩ rfl rfl Bin.eqI ?_
        refine SL.pk ⟨rfl, rfl, rfl, rfl⟩ rfl rfl ?_
        exact SL.mono (SL.heap k fun _ hw => HpOk.pick (H := [_, _, _, _, _, _, _, _]) hw [0, 3, 4, 5, 6, 1, 2, 7] 8 rfl) (by repeat' (first | exact trivial | refine And.intro rfl ?_))
      · skip
        refine SL.pass rfl rfl rfl ?_
        refine SL.pass rfl rfl rfl ?_
        refine SL.pass rfl rfl rfl ?_
        refine SL.pass rfl rfl rfl ?_
        refine SL.pass rfl rfl rfl ?_
        refine SL.pass rfl rfl rfl ?_
        refine SL.pk ⟨rfl, rfl, rfl, rfl⟩ rfl rfl ?_
        exact k.mono (by repeat' (first | exact trivial | refine And.intro rfl ?_))
      refine SL.asg ⟨rfl, rfl, rfl, rfl⟩ rfl ?_
      refine SL.nx ?_
      refine SX.ret ?_
      obtain rfl := Option.some.inj h
      exact SQ.fret (res1 rfl rfl) (ret_of (M := []) ⟨rfl, rfl⟩ fun _ hw => HpOk.pick (H := [_, _, _, _, _, _, _, _]) hw [] 8 rfl)

def f_law13_VaultTurns (n : Nat) (T : List UInt32) (p0 : List UInt8) (p1 : List UInt8) : Option Bool :=
  (f_law13_shown n T).bind fun y1 =>
  (f_law13_made n 6).bind fun y2 =>
  (y2.1).bind fun d1 =>
  (slcI p0 0 (min (p0.length : Int) 198)).bind fun s1 =>
  (slcI p1 0 (min (p1.length : Int) 198)).bind fun s2 =>
  (f_vault_Vault_Write T d1.1 d1.2.1 s1).bind fun y3 =>
  (f_law13_Ring n 2).bind fun y4 =>
  (f_vault_Vault_Turn y3.2.2.1 y3.2.2.2 y4 2).bind fun y5 =>
  (f_vault_Vault_Write T y5.2 y3.2.2.2 s2).bind fun y6 =>
  (f_vault_Vault_Read T y6.2.2.1 y6.2.2.2 y3.1).bind fun y7 =>
  (f_vault_Vault_Read T y6.2.2.1 y6.2.2.2 y6.1).bind fun y8 =>
  (f_vault_Vault_Gen T y6.2.2.1 y6.2.2.2 y3.1).bind fun y9 =>
  (f_vault_Vault_Gen T y6.2.2.1 y6.2.2.2 y6.1).bind fun y10 =>
  (f_law13_Ring n 2).bind fun y11 =>
  (slcI y11 1 (y11.length : Int)).bind fun l1 =>
  (ltI 1 y11.length).bind fun u1 =>
  (f_vault_Vault_Turn y6.2.2.1 y6.2.2.2 l1 2).bind fun y12 =>
  (f_vault_Vault_Read T y12.2 y6.2.2.2 y3.1).bind fun y13 =>
  (f_vault_Vault_Read T y12.2 y6.2.2.2 y6.1).bind fun y14 =>
  ret ((((((((((((((((y1 && y2.2) && (decide (y3.2.1 = 0))) && (decide (y5.1 = 0))) && (decide (y6.2.1 = 0))) && (decide (y7.2 = 0))) && (decide (y8.2 = 0))) && (decide (y9.2 = 0))) && (decide (y10.2 = 0))) && (decide (y12.1 = 0))) && (decide (y13.2 = 41))) && (decide (y14.2 = 0))) && (decide (y7.1 = s1))) && (decide (y8.1 = s2))) && (decide (y14.1 = s2))) && (decide (y9.1 = 1))) && (decide (y10.1 = 2))) fun x1 =>
  some x1
set_option maxHeartbeats 4000000 in
set_option maxRecDepth 100000 in
theorem c_law13_VaultTurns {n : Nat} {T : List UInt32} {p0 : List UInt8} {p1 : List UInt8} {r : Bool} (h : f_law13_VaultTurns n T p0 p1 = some r) (hS : ShaT K w0 T) : Con Tryd.prog K w0 7 [vS p0, vS p1] [] H (fun u M => u = vB r ∧ M = []) := by
  unfold f_law13_VaultTurns at h
  refine Con.enter Tryd.func7 rfl rfl ?_
  refine SX.sr ?_
  refine SL.asg ⟨rfl, rfl, rfl, rfl⟩ rfl ?_
  refine SL.nx ?_
  refine SX.sr ?_
  obtain ⟨y1, hy1, h⟩ := bnd h
  refine SL.call (vs := []) (Hin := []) (Hr := _) ⟨rfl, rfl, rfl, rfl⟩ rfl trivial cal9 rfl rfl (c_law13_shown hy1 hS) ?_
  rintro _ _ ⟨rfl, rfl⟩
  refine ⟨trivial, ?_⟩
  refine SL.asg ⟨rfl, rfl, rfl, rfl⟩ rfl ?_
  refine SL.nx ?_
  refine SX.sr ?_
  obtain ⟨y2, hy2, h⟩ := bnd h
  obtain ⟨d1, hd1, h⟩ := bnd h
  refine SL.call (vs := [_]) (Hin := []) (Hr := _) ⟨rfl, rfl, rfl, rfl⟩ rfl ⟨rfl, trivial⟩ cal15 rfl rfl (c_law13_made hy2) ?_
  rintro _ _ (⟨hn, -, -⟩ | ⟨d_, b1, v1, m1, b2, v2, m2, m3, b3, v3, v4, b4, v5, v6, v7, hn, rfl, rfl⟩)
  · rw [hd1] at hn; cases hn
  obtain rfl : d1 = d_ := Option.some.inj (hd1.symm.trans hn)
  refine ⟨trivial, ?_⟩
  refine SL.mv ⟨rfl, rfl, rfl, rfl⟩ rfl ?_
  refine SL.ext ⟨rfl, rfl, rfl, rfl⟩ rfl rfl ?_
  refine SL.ext ⟨rfl, rfl, rfl, rfl⟩ rfl rfl ?_
  refine SL.ext ⟨rfl, rfl, rfl, rfl⟩ rfl rfl ?_
  refine SL.ext ⟨rfl, rfl, rfl, rfl⟩ rfl rfl ?_
  refine SL.asg ⟨rfl, rfl, rfl, rfl⟩ rfl ?_
  refine SL.asg ⟨rfl, rfl, rfl, rfl⟩ rfl ?_
  refine SL.asg ⟨rfl, rfl, rfl, rfl⟩ rfl ?_
  refine SL.asg ⟨rfl, rfl, rfl, rfl⟩ rfl ?_
  refine SL.nx ?_
  refine SX.sr ?_
  obtain ⟨s1, hs1, h⟩ := bnd h
  refine SL.mv ⟨rfl, rfl, rfl, rfl⟩ rfl ?_
  refine SL.mv ⟨rfl, rfl, rfl, rfl⟩ rfl ?_
  refine SL.lenS ⟨rfl, rfl, rfl, rfl⟩ ty9 rfl ?_
  refine SL.minI ⟨rfl, rfl, rfl, rfl⟩ rfl rfl ?_
  refine SL.slNh hs1 ⟨rfl, rfl, rfl, rfl⟩ ty9 rfl rfl ?_
  refine SL.asg ⟨rfl, rfl, rfl, rfl⟩ rfl ?_
  refine SL.nx ?_
  refine SX.sr ?_
  obtain ⟨s2, hs2, h⟩ := bnd h
  refine SL.mv ⟨rfl, rfl, rfl, rfl⟩ rfl ?_
  refine SL.mv ⟨rfl, rfl, rfl, rfl⟩ rfl ?_
  refine SL.lenS ⟨rfl, rfl, rfl, rfl⟩ ty9 rfl ?_
  refine SL.minI ⟨rfl, rfl, rfl, rfl⟩ rfl rfl ?_
  refine SL.slNh hs2 ⟨rfl, rfl, rfl, rfl⟩ ty9 rfl rfl ?_
  refine SL.asg ⟨rfl, rfl, rfl, rfl⟩ rfl ?_
  refine SL.nx ?_
  refine SX.sr ?_
  obtain ⟨y3, hy3, h⟩ := bnd h
  refine SL.mv ⟨rfl, rfl, rfl, rfl⟩ rfl ?_
  refine SL.mv ⟨rfl, rfl, rfl, rfl⟩ rfl ?_
  refine SL.call (vs := [_, _]) (Hin := [_, _, _, _, _, _, _]) (Hr := _ :: _ :: _ :: _ :: _ :: _ :: _ :: _) ⟨rfl, rfl, rfl, rfl⟩ rfl ⟨rfl, rfl, trivial⟩ cal16 rfl rfl (c_vault_Vault_Write hy3 hS) ?_
  rintro _ _ ⟨rfl, rfl⟩
  refine ⟨trivial, ?_⟩
  refine SL.mv ⟨rfl, rfl, rfl, rfl⟩ rfl ?_
  refine SL.ext ⟨rfl, rfl, rfl, rfl⟩ rfl rfl ?_
  refine SL.ext ⟨rfl, rfl, rfl, rfl⟩ rfl rfl ?_
  refine SL.alloc ⟨rfl, rfl, rfl, rfl⟩ ze41 (fun _ => trivial) fun b5 => ?_
  refine SL.st 0 ⟨rfl, rfl, rfl⟩ rfl rfl rfl sz41 rfl rfl rfl trivial ?_
  refine SL.asg ⟨rfl, rfl, rfl, rfl⟩ rfl ?_
  refine SL.nx ?_
  refine SX.sr ?_
  obtain ⟨y4, hy4, h⟩ := bnd h
  obtain ⟨y5, hy5, h⟩ := bnd h
  refine SL.mv ⟨rfl, rfl, rfl, rfl⟩ rfl ?_
  refine SL.call (vs := [_]) (Hin := []) (Hr := _ :: _ :: _ :: _ :: _ :: _ :: _ :: _ :: _ :: _ :: _ :: _ :: _ :: _ :: _ :: _) ⟨rfl, rfl, rfl, rfl⟩ rfl ⟨rfl, trivial⟩ cal12 rfl rfl (c_law13_Ring hy4) ?_
  rintro v8 _ ⟨_, rfl, rfl⟩
  refine ⟨trivial, ?_⟩
  refine SL.pick [0, 2, 3, 4, 5, 6, 7, 8, 1] 9 ?_
  refine SL.call (vs := [_, _, vU32 2]) (Hin := [_, _, _, _, _, _, _, _]) (Hr := _ :: _ :: _ :: _ :: _ :: _ :: _ :: _ :: _) ⟨rfl, rfl, rfl, rfl⟩ rfl ⟨rfl, rfl, rfl, trivial⟩ cal22 rfl rfl (Con.lend (B := [_]) (Hin := [_, _, _, _, _, _, _]) fun K' w1 hk hB => c_vault_Vault_Turn hy5 (SlOf.lentT (e := 70) (v := v8) (fun _ => rfl) (hB _ (by simp)))) ?_
  rintro _ _ ⟨_, rfl, v9, rfl, rfl⟩
  refine ⟨trivial, ?_⟩
  refine SL.asg ⟨rfl, rfl, rfl, rfl⟩ rfl ?_
  refine SL.nx ?_
  refine SX.sr ?_
  obtain ⟨y6, hy6, h⟩ := bnd h
  refine SL.mv ⟨rfl, rfl, rfl, rfl⟩ rfl ?_
  refine SL.mv ⟨rfl, rfl, rfl, rfl⟩ rfl ?_
  refine SL.pick [1, 2, 3, 4, 5, 6, 7, 0] 8 ?_
  refine SL.call (vs := [_, _]) (Hin := [_, _, _, _, _, _, _]) (Hr := _ :: _ :: _ :: _ :: _ :: _ :: _ :: _ :: _ :: _) ⟨rfl, rfl, rfl, rfl⟩ rfl ⟨rfl, rfl, trivial⟩ cal16 rfl rfl (c_vault_Vault_Write hy6 hS) ?_
  rintro _ _ ⟨rfl, rfl⟩
  refine ⟨trivial, ?_⟩
  refine SL.mv ⟨rfl, rfl, rfl, rfl⟩ rfl ?_
  refine SL.ext ⟨rfl, rfl, rfl, rfl⟩ rfl rfl ?_
  refine SL.ext ⟨rfl, rfl, rfl, rfl⟩ rfl rfl ?_
  refine SL.alloc ⟨rfl, rfl, rfl, rfl⟩ ze41 (fun _ => trivial) fun b6 => ?_
  refine SL.st 0 ⟨rfl, rfl, rfl⟩ rfl rfl rfl sz41 rfl rfl rfl trivial ?_
  refine SL.asg ⟨rfl, rfl, rfl, rfl⟩ rfl ?_
  refine SL.nx ?_
  refine SX.sr ?_
  obtain ⟨y7, hy7, h⟩ := bnd h
  refine SL.mv ⟨rfl, rfl, rfl, rfl⟩ rfl ?_
  refine SL.ldA [vU32 y3.1.page, vS y3.1.tag] ⟨rfl, rfl, rfl, rfl⟩ ag41 rfl rfl (cells_all 9 rfl) ?_
  refine SL.pick [1, 2, 3, 4, 5, 6, 7, 0] 8 ?_
  refine SL.call (vs := [_, _]) (Hin := [_, _, _, _, _, _, _]) (Hr := _ :: _ :: _ :: _ :: _ :: _ :: _ :: _ :: _ :: _ :: _) ⟨rfl, rfl, rfl, rfl⟩ rfl ⟨rfl, rfl, trivial⟩ cal19 rfl rfl ((c_vault_Vault_Read hy7 hS :)) ?_
  rintro _ _ ⟨rfl, rfl⟩
  refine ⟨trivial, ?_⟩
  refine SL.mv ⟨rfl, rfl, rfl, rfl⟩ rfl ?_
  refine SL.ext ⟨rfl, rfl, rfl, rfl⟩ rfl rfl ?_
  refine SL.ext ⟨rfl, rfl, rfl, rfl⟩ rfl rfl ?_
  refine SL.asg ⟨rfl, rfl, rfl, rfl⟩ rfl ?_
  refine SL.asg ⟨rfl, rfl, rfl, rfl⟩ rfl ?_
  refine SL.nx ?_
  refine SX.sr ?_
  obtain ⟨y8, hy8, h⟩ := bnd h
  refine SL.mv ⟨rfl, rfl, rfl, rfl⟩ rfl ?_
  refine SL.ldA [vU32 y6.1.page, vS y6.1.tag] ⟨rfl, rfl, rfl, rfl⟩ ag41 rfl rfl (cells_all 7 rfl) ?_
  refine SL.call (vs := [_, _]) (Hin := [_, _, _, _, _, _, _]) (Hr := _ :: _ :: _ :: _ :: _ :: _ :: _ :: _ :: _ :: _ :: _) ⟨rfl, rfl, rfl, rfl⟩ rfl ⟨rfl, rfl, trivial⟩ cal19 rfl rfl ((c_vault_Vault_Read hy8 hS :)) ?_
  rintro _ _ ⟨rfl, rfl⟩
  refine ⟨trivial, ?_⟩
  refine SL.mv ⟨rfl, rfl, rfl, rfl⟩ rfl ?_
  refine SL.ext ⟨rfl, rfl, rfl, rfl⟩ rfl rfl ?_
  refine SL.ext ⟨rfl, rfl, rfl, rfl⟩ rfl rfl ?_
  refine SL.asg ⟨rfl, rfl, rfl, rfl⟩ rfl ?_
  refine SL.asg ⟨rfl, rfl, rfl, rfl⟩ rfl ?_
  refine SL.nx ?_
  refine SX.sr ?_
  obtain ⟨y9, hy9, h⟩ := bnd h
  refine SL.mv ⟨rfl, rfl, rfl, rfl⟩ rfl ?_
  refine SL.ldA [vU32 y3.1.page, vS y3.1.tag] ⟨rfl, rfl, rfl, rfl⟩ ag41 rfl rfl (cells_all 9 rfl) ?_
  refine SL.call (vs := [_, _]) (Hin := [_, _, _, _, _, _, _]) (Hr := _ :: _ :: _ :: _ :: _ :: _ :: _ :: _ :: _ :: _ :: _) ⟨rfl, rfl, rfl, rfl⟩ rfl ⟨rfl, rfl, trivial⟩ cal21 rfl rfl ((c_vault_Vault_Gen hy9 hS :)) ?_
  rintro _ _ ⟨rfl, rfl⟩
  refine ⟨trivial, ?_⟩
  refine SL.mv ⟨rfl, rfl, rfl, rfl⟩ rfl ?_
  refine SL.ext ⟨rfl, rfl, rfl, rfl⟩ rfl rfl ?_
  refine SL.ext ⟨rfl, rfl, rfl, rfl⟩ rfl rfl ?_
  refine SL.asg ⟨rfl, rfl, rfl, rfl⟩ rfl ?_
  refine SL.asg ⟨rfl, rfl, rfl, rfl⟩ rfl ?_
  refine SL.nx ?_
  refine SX.sr ?_
  obtain ⟨y10, hy10, h⟩ := bnd h
  refine SL.mv ⟨rfl, rfl, rfl, rfl⟩ rfl ?_
  refine SL.ldA [vU32 y6.1.page, vS y6.1.tag] ⟨rfl, rfl, rfl, rfl⟩ ag41 rfl rfl (cells_all 7 rfl) ?_
  refine SL.call (vs := [_, _]) (Hin := [_, _, _, _, _, _, _]) (Hr := _ :: _ :: _ :: _ :: _ :: _ :: _ :: _ :: _ :: _ :: _) ⟨rfl, rfl, rfl, rfl⟩ rfl ⟨rfl, rfl, trivial⟩ cal21 rfl rfl ((c_vault_Vault_Gen hy10 hS :)) ?_
  rintro _ _ ⟨rfl, rfl⟩
  refine ⟨trivial, ?_⟩
  refine SL.mv ⟨rfl, rfl, rfl, rfl⟩ rfl ?_
  refine SL.ext ⟨rfl, rfl, rfl, rfl⟩ rfl rfl ?_
  refine SL.ext ⟨rfl, rfl, rfl, rfl⟩ rfl rfl ?_
  refine SL.asg ⟨rfl, rfl, rfl, rfl⟩ rfl ?_
  refine SL.asg ⟨rfl, rfl, rfl, rfl⟩ rfl ?_
  refine SL.nx ?_
  refine SX.sr ?_
  obtain ⟨y11, hy11, h⟩ := bnd h
  obtain ⟨l1, hl1, h⟩ := bnd h
  obtain ⟨u1, hu1, h⟩ := bnd h
  obtain ⟨y12, hy12, h⟩ := bnd h
  refine SL.mv ⟨rfl, rfl, rfl, rfl⟩ rfl ?_
  refine SL.call (vs := [_]) (Hin := []) (Hr := _ :: _ :: _ :: _ :: _ :: _ :: _ :: _ :: _ :: _ :: _ :: _ :: _ :: _ :: _ :: _ :: _ :: _) ⟨rfl, rfl, rfl, rfl⟩ rfl ⟨rfl, trivial⟩ cal12 rfl rfl (c_law13_Ring hy11) ?_
  rintro v10 _ ⟨_, rfl, rfl⟩
  refine ⟨trivial, ?_⟩
  refine SL.slRN 0 rfl hl1 ⟨rfl, rfl, rfl, rfl⟩ ty31 sz70 rfl rfl (ltI_some hu1) fun v11 im1 => ?_
  refine SL.call (vs := [_, _, vU32 2]) (Hin := [_, _, _, _, _, _, _, _]) (Hr := _ :: _ :: _ :: _ :: _ :: _ :: _ :: _ :: _ :: _ :: _) ⟨rfl, rfl, rfl, rfl⟩ rfl ⟨rfl, rfl, rfl, trivial⟩ cal22 rfl rfl (Con.lend (B := [_]) (Hin := [_, _, _, _, _, _, _]) fun K' w1 hk hB => c_vault_Vault_Turn hy12 (im1 _ _ (SlOf.lentT (e := 70) (v := v10) (fun _ => rfl) (hB _ (by simp))))) ?_
  rintro _ _ ⟨_, rfl, v12, rfl, rfl⟩
  refine ⟨trivial, ?_⟩
  refine SL.asg ⟨rfl, rfl, rfl, rfl⟩ rfl ?_
  refine SL.nx ?_
  refine SX.sr ?_
  obtain ⟨y13, hy13, h⟩ := bnd h
  refine SL.mv ⟨rfl, rfl, rfl, rfl⟩ rfl ?_
  refine SL.ldA [vU32 y3.1.page, vS y3.1.tag] ⟨rfl, rfl, rfl, rfl⟩ ag41 rfl rfl (cells_all 10 rfl) ?_
  refine SL.pick [1, 2, 3, 4, 5, 6, 7, 0] 8 ?_
  refine SL.call (vs := [_, _]) (Hin := [_, _, _, _, _, _, _]) (Hr := _ :: _ :: _ :: _ :: _ :: _ :: _ :: _ :: _ :: _ :: _ :: _) ⟨rfl, rfl, rfl, rfl⟩ rfl ⟨rfl, rfl, trivial⟩ cal19 rfl rfl ((c_vault_Vault_Read hy13 hS :)) ?_
  rintro _ _ ⟨rfl, rfl⟩
  refine ⟨trivial, ?_⟩
  refine SL.mv ⟨rfl, rfl, rfl, rfl⟩ rfl ?_
  refine SL.ext ⟨rfl, rfl, rfl, rfl⟩ rfl rfl ?_
  refine SL.ext ⟨rfl, rfl, rfl, rfl⟩ rfl rfl ?_
  refine SL.asg ⟨rfl, rfl, rfl, rfl⟩ rfl ?_
  refine SL.asg ⟨rfl, rfl, rfl, rfl⟩ rfl ?_
  refine SL.nx ?_
  refine SX.sr ?_
  obtain ⟨y14, hy14, h⟩ := bnd h
  refine SL.mv ⟨rfl, rfl, rfl, rfl⟩ rfl ?_
  refine SL.ldA [vU32 y6.1.page, vS y6.1.tag] ⟨rfl, rfl, rfl, rfl⟩ ag41 rfl rfl (cells_all 8 rfl) ?_
  refine SL.call (vs := [_, _]) (Hin := [_, _, _, _, _, _, _]) (Hr := _ :: _ :: _ :: _ :: _ :: _ :: _ :: _ :: _ :: _ :: _ :: _) ⟨rfl, rfl, rfl, rfl⟩ rfl ⟨rfl, rfl, trivial⟩ cal19 rfl rfl ((c_vault_Vault_Read hy14 hS :)) ?_
  rintro _ _ ⟨rfl, rfl⟩
  refine ⟨trivial, ?_⟩
  refine SL.mv ⟨rfl, rfl, rfl, rfl⟩ rfl ?_
  refine SL.ext ⟨rfl, rfl, rfl, rfl⟩ rfl rfl ?_
  refine SL.ext ⟨rfl, rfl, rfl, rfl⟩ rfl rfl ?_
  refine SL.asg ⟨rfl, rfl, rfl, rfl⟩ rfl ?_
  refine SL.asg ⟨rfl, rfl, rfl, rfl⟩ rfl ?_
  refine SL.nx ?_
  refine SX.re [(0, vS s1), (1, vS s2), (5, vB y1), (9, vB y2.2), (11, vI y3.2.1), (12, vI y5.1), (14, vI y6.2.1), (15, vS y7.1), (16, vI y7.2), (17, vS y8.1), (18, vI y8.2), (19, vU32 y9.1), (20, vI y9.2), (21, vU32 y10.1), (22, vI y10.2), (23, vI y12.1), (25, vI y13.2), (26, vS y14.1), (27, vI y14.2)] (own b1 (.cells #[vP b2 0, v12, vU32 y12.2.gen, vU32 y12.2.boot, vU64 y12.2.seals, .map (some m1)] 74) :: rowT 70 2 v12 encKey y12.2.ring :: mapC m1 vU32 vB y12.2.taken :: own b2 (.cells #[vB y6.2.2.2.off, vB y6.2.2.2.isCut, vI y6.2.2.2.lasts, vI y6.2.2.2.counts, v2, .map (some m2), .map (some m3), vU64 y6.2.2.2.rcnt, vS y6.2.2.2.rtag, vU32 y6.2.2.2.rboots] 66) :: rowT 9 1 v2 eS y6.2.2.2.blocks :: mapC m2 vU32 vS y6.2.2.2.pend :: mapC m3 vU32 vB y6.2.2.2.bad :: rowT 70 2 v10 encKey y11 :: own b6 (.cells #[vU32 y6.1.page, vS y6.1.tag] 41) :: rowT 70 2 v8 encKey y4 :: own b5 (.cells #[vU32 y3.1.page, vS y3.1.tag] 41) :: own b3 (.cells #[vP b4 0, v3, vU32 d1.2.2.1.gen, vU32 d1.2.2.1.boot, vU64 d1.2.2.1.num, v4] 110) :: rowT 70 2 v3 encKey d1.2.2.1.ring :: rowT 4 1 v4 eB d1.2.2.1.taken :: own b4 (.cells #[v5, v6, v7, vU64 d1.2.2.2.rcnt, vS d1.2.2.2.rtag, vU32 d1.2.2.2.rboots, vI d1.2.2.2.left, vB d1.2.2.2.off] 108) :: rowT 9 1 v5 eS d1.2.2.2.blk :: rowT 9 1 v6 eS d1.2.2.2.pnd :: rowT 4 1 v7 eB d1.2.2.2.bads :: H) ?_ (by repeat' (first | exact trivial | refine And.intro rfl ?_))
  refine SX.sr ?_
  obtain ⟨x1, ex1, h⟩ := retE h
  refine SL.mv ⟨rfl, rfl, rfl, rfl⟩ rfl ?_
  refine SL.mv ⟨rfl, rfl, rfl, rfl⟩ rfl ?_
  refine SL.and (c := y2.2) 101 2 103 rfl (fun hb k => ?_) (fun hb k => ?_) ?_
  · skip
    refine SL.mv ⟨rfl, rfl, rfl, rfl⟩ rfl ?_
    refine SL.pk ⟨rfl, rfl, rfl, rfl⟩ rfl rfl ?_
    exact k.mono (by repeat' (first | exact trivial | refine And.intro rfl ?_))
  · skip
    refine SL.pass rfl rfl rfl ?_
    refine SL.pk ⟨rfl, rfl, rfl, rfl⟩ rfl rfl ?_
    exact k.mono (by repeat' (first | exact trivial | refine And.intro rfl ?_))
  refine SL.mv ⟨rfl, rfl, rfl, rfl⟩ rfl ?_
  refine SL.and (c := decide (y3.2.1 = 0)) 104 3 107 rfl (fun hb k => ?_) (fun hb k => ?_) ?_
  · skip
    refine SL.mv ⟨rfl, rfl, rfl, rfl⟩ rfl ?_
    refine SL.bin ⟨rfl, rfl, rfl, rfl⟩ rfl rfl Bin.eqI ?_
    refine SL.pk ⟨rfl, rfl, rfl, rfl⟩ rfl rfl ?_
    exact k.mono (by repeat' (first | exact trivial | refine And.intro rfl ?_))
  · skip
    refine SL.pass rfl rfl rfl ?_
    refine SL.pass rfl rfl rfl ?_
    refine SL.pk ⟨rfl, rfl, rfl, rfl⟩ rfl rfl ?_
    exact k.mono (by repeat' (first | exact trivial | refine And.intro rfl ?_))
  refine SL.mv ⟨rfl, rfl, rfl, rfl⟩ rfl ?_
  refine SL.and (c := decide (y5.1 = 0)) 108 3 111 rfl (fun hb k => ?_) (fun hb k => ?_) ?_
  · skip
    refine SL.mv ⟨rfl, rfl, rfl, rfl⟩ rfl ?_
    refine SL.bin ⟨rfl, rfl, rfl, rfl⟩ rfl rfl Bin.eqI ?_
    refine SL.pk ⟨rfl, rfl, rfl, rfl⟩ rfl rfl ?_
    exact k.mono (by repeat' (first | exact trivial | refine And.intro rfl ?_))
  · skip
    refine SL.pass rfl rfl rfl ?_
    refine SL.pass rfl rfl rfl ?_
    refine SL.pk ⟨rfl, rfl, rfl, rfl⟩ rfl rfl ?_
    exact k.mono (by repeat' (first | exact trivial | refine And.intro rfl ?_))
  refine SL.mv ⟨rfl, rfl, rfl, rfl⟩ rfl ?_
  refine SL.and (c := decide (y6.2.1 = 0)) 112 3 115 rfl (fun hb k => ?_) (fun hb k => ?_) ?_
  · skip
    refine SL.mv ⟨rfl, rfl, rfl, rfl⟩ rfl ?_
    refine SL.bin ⟨rfl, rfl, rfl, rfl⟩ rfl rfl Bin.eqI ?_
    refine SL.pk ⟨rfl, rfl, rfl, rfl⟩ rfl rfl ?_
    exact k.mono (by repeat' (first | exact trivial | refine And.intro rfl ?_))
  · skip
    refine SL.pass rfl rfl rfl ?_
    refine SL.pass rfl rfl rfl ?_
    refine SL.pk ⟨rfl, rfl, rfl, rfl⟩ rfl rfl ?_
    exact k.mono (by repeat' (first | exact trivial | refine And.intro rfl ?_))
  refine SL.mv ⟨rfl, rfl, rfl, rfl⟩ rfl ?_
  refine SL.and (c := decide (y7.2 = 0)) 116 3 119 rfl (fun hb k => ?_) (fun hb k => ?_) ?_
  · skip
    refine SL.mv ⟨rfl, rfl, rfl, rfl⟩ rfl ?_
    refine SL.bin ⟨rfl, rfl, rfl, rfl⟩ rfl rfl Bin.eqI ?_
    refine SL.pk ⟨rfl, rfl, rfl, rfl⟩ rfl rfl ?_
    exact k.mono (by repeat' (first | exact trivial | refine And.intro rfl ?_))
  · skip
    refine SL.pass rfl rfl rfl ?_
    refine SL.pass rfl rfl rfl ?_
    refine SL.pk ⟨rfl, rfl, rfl, rfl⟩ rfl rfl ?_
    exact k.mono (by repeat' (first | exact trivial | refine And.intro rfl ?_))
  refine SL.mv ⟨rfl, rfl, rfl, rfl⟩ rfl ?_
  refine SL.and (c := decide (y8.2 = 0)) 120 3 123 rfl (fun hb k => ?_) (fun hb k => ?_) ?_
  · skip
    refine SL.mv ⟨rfl, rfl, rfl, rfl⟩ rfl ?_
    refine SL.bin ⟨rfl, rfl, rfl, rfl⟩ rfl rfl Bin.eqI ?_
    refine SL.pk ⟨rfl, rfl, rfl, rfl⟩ rfl rfl ?_
    exact k.mono (by repeat' (first | exact trivial | refine And.intro rfl ?_))
  · skip
    refine SL.pass rfl rfl rfl ?_
    refine SL.pass rfl rfl rfl ?_
    refine SL.pk ⟨rfl, rfl, rfl, rfl⟩ rfl rfl ?_
    exact k.mono (by repeat' (first | exact trivial | refine And.intro rfl ?_))
  refine SL.mv ⟨rfl, rfl, rfl, rfl⟩ rfl ?_
  refine SL.and (c := decide (y9.2 = 0)) 124 3 127 rfl (fun hb k => ?_) (fun hb k => ?_) ?_
  · skip
    refine SL.mv ⟨rfl, rfl, rfl, rfl⟩ rfl ?_
    refine SL.bin ⟨rfl, rfl, rfl, rfl⟩ rfl rfl Bin.eqI ?_
    refine SL.pk ⟨rfl, rfl, rfl, rfl⟩ rfl rfl ?_
    exact k.mono (by repeat' (first | exact trivial | refine And.intro rfl ?_))
  · skip
    refine SL.pass rfl rfl rfl ?_
    refine SL.pass rfl rfl rfl ?_
    refine SL.pk ⟨rfl, rfl, rfl, rfl⟩ rfl rfl ?_
    exact k.mono (by repeat' (first | exact trivial | refine And.intro rfl ?_))
  refine SL.mv ⟨rfl, rfl, rfl, rfl⟩ rfl ?_
  refine SL.and (c := decide (y10.2 = 0)) 128 3 131 rfl (fun hb k => ?_) (fun hb k => ?_) ?_
  · skip
    refine SL.mv ⟨rfl, rfl, rfl, rfl⟩ rfl ?_
    refine SL.bin ⟨rfl, rfl, rfl, rfl⟩ rfl rfl Bin.eqI ?_
    refine SL.pk ⟨rfl, rfl, rfl, rfl⟩ rfl rfl ?_
    exact k.mono (by repeat' (first | exact trivial | refine And.intro rfl ?_))
  · skip
    refine SL.pass rfl rfl rfl ?_
    refine SL.pass rfl rfl rfl ?_
    refine SL.pk ⟨rfl, rfl, rfl, rfl⟩ rfl rfl ?_
    exact k.mono (by repeat' (first | exact trivial | refine And.intro rfl ?_))
  refine SL.mv ⟨rfl, rfl, rfl, rfl⟩ rfl ?_
  refine SL.and (c := decide (y12.1 = 0)) 132 3 135 rfl (fun hb k => ?_) (fun hb k => ?_) ?_
  · skip
    refine SL.mv ⟨rfl, rfl, rfl, rfl⟩ rfl ?_
    refine SL.bin ⟨rfl, rfl, rfl, rfl⟩ rfl rfl Bin.eqI ?_
    refine SL.pk ⟨rfl, rfl, rfl, rfl⟩ rfl rfl ?_
    exact k.mono (by repeat' (first | exact trivial | refine And.intro rfl ?_))
  · skip
    refine SL.pass rfl rfl rfl ?_
    refine SL.pass rfl rfl rfl ?_
    refine SL.pk ⟨rfl, rfl, rfl, rfl⟩ rfl rfl ?_
    exact k.mono (by repeat' (first | exact trivial | refine And.intro rfl ?_))
  refine SL.mv ⟨rfl, rfl, rfl, rfl⟩ rfl ?_
  refine SL.and (c := decide (y13.2 = 41)) 136 3 139 rfl (fun hb k => ?_) (fun hb k => ?_) ?_
  · skip
    refine SL.mv ⟨rfl, rfl, rfl, rfl⟩ rfl ?_
    refine SL.bin ⟨rfl, rfl, rfl, rfl⟩ rfl rfl Bin.eqI ?_
    refine SL.pk ⟨rfl, rfl, rfl, rfl⟩ rfl rfl ?_
    exact k.mono (by repeat' (first | exact trivial | refine And.intro rfl ?_))
  · skip
    refine SL.pass rfl rfl rfl ?_
    refine SL.pass rfl rfl rfl ?_
    refine SL.pk ⟨rfl, rfl, rfl, rfl⟩ rfl rfl ?_
    exact k.mono (by repeat' (first | exact trivial | refine And.intro rfl ?_))
  refine SL.mv ⟨rfl, rfl, rfl, rfl⟩ rfl ?_
  refine SL.and (c := decide (y14.2 = 0)) 140 3 143 rfl (fun hb k => ?_) (fun hb k => ?_) ?_
  · skip
    refine SL.mv ⟨rfl, rfl, rfl, rfl⟩ rfl ?_
    refine SL.bin ⟨rfl, rfl, rfl, rfl⟩ rfl rfl Bin.eqI ?_
    refine SL.pk ⟨rfl, rfl, rfl, rfl⟩ rfl rfl ?_
    exact k.mono (by repeat' (first | exact trivial | refine And.intro rfl ?_))
  · skip
    refine SL.pass rfl rfl rfl ?_
    refine SL.pass rfl rfl rfl ?_
    refine SL.pk ⟨rfl, rfl, rfl, rfl⟩ rfl rfl ?_
    exact k.mono (by repeat' (first | exact trivial | refine And.intro rfl ?_))
  refine SL.mv ⟨rfl, rfl, rfl, rfl⟩ rfl ?_
  refine SL.and (c := decide (y7.1 = s1)) 144 4 148 rfl (fun hb k => ?_) (fun hb k => ?_) ?_
  · skip
    refine SL.mv ⟨rfl, rfl, rfl, rfl⟩ rfl ?_
    refine SL.mv ⟨rfl, rfl, rfl, rfl⟩ rfl ?_
    refine SL.bin ⟨rfl, rfl, rfl, rfl⟩ rfl rfl Bin.eqS ?_
    refine SL.pk ⟨rfl, rfl, rfl, rfl⟩ rfl rfl ?_
    exact k.mono (by repeat' (first | exact trivial | refine And.intro rfl ?_))
  · skip
    refine SL.pass rfl rfl rfl ?_
    refine SL.pass rfl rfl rfl ?_
    refine SL.pass rfl rfl rfl ?_
    refine SL.pk ⟨rfl, rfl, rfl, rfl⟩ rfl rfl ?_
    exact k.mono (by repeat' (first | exact trivial | refine And.intro rfl ?_))
  refine SL.mv ⟨rfl, rfl, rfl, rfl⟩ rfl ?_
  refine SL.and (c := decide (y8.1 = s2)) 149 4 153 rfl (fun hb k => ?_) (fun hb k => ?_) ?_
  · skip
    refine SL.mv ⟨rfl, rfl, rfl, rfl⟩ rfl ?_
    refine SL.mv ⟨rfl, rfl, rfl, rfl⟩ rfl ?_
    refine SL.bin ⟨rfl, rfl, rfl, rfl⟩ rfl rfl Bin.eqS ?_
    refine SL.pk ⟨rfl, rfl, rfl, rfl⟩ rfl rfl ?_
    exact k.mono (by repeat' (first | exact trivial | refine And.intro rfl ?_))
  · skip
    refine SL.pass rfl rfl rfl ?_
    refine SL.pass rfl rfl rfl ?_
    refine SL.pass rfl rfl rfl ?_
    refine SL.pk ⟨rfl, rfl, rfl, rfl⟩ rfl rfl ?_
    exact k.mono (by repeat' (first | exact trivial | refine And.intro rfl ?_))
  refine SL.mv ⟨rfl, rfl, rfl, rfl⟩ rfl ?_
  refine SL.and (c := decide (y14.1 = s2)) 154 4 158 rfl (fun hb k => ?_) (fun hb k => ?_) ?_
  · skip
    refine SL.mv ⟨rfl, rfl, rfl, rfl⟩ rfl ?_
    refine SL.mv ⟨rfl, rfl, rfl, rfl⟩ rfl ?_
    refine SL.bin ⟨rfl, rfl, rfl, rfl⟩ rfl rfl Bin.eqS ?_
    refine SL.pk ⟨rfl, rfl, rfl, rfl⟩ rfl rfl ?_
    exact k.mono (by repeat' (first | exact trivial | refine And.intro rfl ?_))
  · skip
    refine SL.pass rfl rfl rfl ?_
    refine SL.pass rfl rfl rfl ?_
    refine SL.pass rfl rfl rfl ?_
    refine SL.pk ⟨rfl, rfl, rfl, rfl⟩ rfl rfl ?_
    exact k.mono (by repeat' (first | exact trivial | refine And.intro rfl ?_))
  refine SL.mv ⟨rfl, rfl, rfl, rfl⟩ rfl ?_
  refine SL.and (c := decide (y9.1 = 1)) 159 3 162 rfl (fun hb k => ?_) (fun hb k => ?_) ?_
  · skip
    refine SL.mv ⟨rfl, rfl, rfl, rfl⟩ rfl ?_
    refine SL.bin ⟨rfl, rfl, rfl, rfl⟩ rfl rfl (Bin.eq32 (b := 1)) ?_
    refine SL.pk ⟨rfl, rfl, rfl, rfl⟩ rfl rfl ?_
    exact k.mono (by repeat' (first | exact trivial | refine And.intro rfl ?_))
  · skip
    refine SL.pass rfl rfl rfl ?_
    refine SL.pass rfl rfl rfl ?_
    refine SL.pk ⟨rfl, rfl, rfl, rfl⟩ rfl rfl ?_
    exact k.mono (by repeat' (first | exact trivial | refine And.intro rfl ?_))
  refine SL.mv ⟨rfl, rfl, rfl, rfl⟩ rfl ?_
  refine SL.and (c := decide (y10.1 = 2)) 163 3 166 rfl (fun hb k => ?_) (fun hb k => ?_) ?_
  · skip
    refine SL.mv ⟨rfl, rfl, rfl, rfl⟩ rfl ?_
    refine SL.bin ⟨rfl, rfl, rfl, rfl⟩ rfl rfl (Bin.eq32 (b := 2)) ?_
    refine SL.pk ⟨rfl, rfl, rfl, rfl⟩ rfl rfl ?_
    exact k.mono (by repeat' (first | exact trivial | refine And.intro rfl ?_))
  · skip
    refine SL.pass rfl rfl rfl ?_
    refine SL.pass rfl rfl rfl ?_
    refine SL.pk ⟨rfl, rfl, rfl, rfl⟩ rfl rfl ?_
    exact k.mono (by repeat' (first | exact trivial | refine And.intro rfl ?_))
  refine SL.asgX (u := vB x1) ⟨rfl, rfl, rfl, rfl⟩ rfl (congrArg vB ex1) ?_
  refine SL.nx ?_
  refine SX.ret ?_
  obtain rfl := Option.some.inj h
  exact SQ.fret (res1 rfl rfl) (ret_of (M := []) ⟨rfl, rfl⟩ fun _ hw => HpOk.pick (H := [_, _, _, _, _, _, _, _, _, _, _, _, _, _, _, _, _, _]) hw [] 18 rfl)

def f_law13_VaultNews (n : Nat) (T : List UInt32) (p0 : Int) (p1 : UInt32) : Option Bool :=
  (f_law13_shown n T).bind fun y1 =>
  cond ((decide (p0 < 0)) || (decide (4 < p0)))
  (
    some y1)
  (
    (f_device_New 5).bind fun y2 =>
    (y2.1).bind fun d1 =>
    (f_law13_Ring n p0).bind fun y3 =>
    (f_vault_New d1 y3 p1 1).bind fun y4 =>
    (y4.1).bind fun d2 =>
    (f_law13_Ring n p0).bind fun y5 =>
    (f_vault_New_nil y5 p1 1).bind fun y6 =>
    cond ((decide (p1 < 1)) || (decide (toU32 p0 < p1)))
    (
      ret ((((y1 && (decide (y2.2 = 0))) && (decide (y4.2 = 41))) && (decide (y6 = 1))) && false) fun x1 =>
      some x1)
    (
      (andO (((y1 && (decide (y2.2 = 0))) && (decide (y4.2 = 0))) && (decide (y6 = 1))) ((f_vault_Vault_Free d2 d1).bind fun y7 => some (decide (y7 = 3)))).bind fun y8 =>
      (andO y8 ((f_vault_Vault_Seals d2 d1).bind fun y9 => some (decide (y9 = 0)))).bind fun y10 =>
      some y10))
set_option maxHeartbeats 4000000 in
set_option maxRecDepth 100000 in
theorem c_law13_VaultNews {n : Nat} {T : List UInt32} {p0 : Int} {p1 : UInt32} {r : Bool} (h : f_law13_VaultNews n T p0 p1 = some r) (hS : ShaT K w0 T) : Con Tryd.prog K w0 3 [vI p0, vU32 p1] [] H (fun u M => u = vB r ∧ M = []) := by
  unfold f_law13_VaultNews at h
  refine Con.enter Tryd.func3 rfl rfl ?_
  refine SX.sr ?_
  refine SL.asg ⟨rfl, rfl, rfl, rfl⟩ rfl ?_
  refine SL.nx ?_
  refine SX.sr ?_
  obtain ⟨y1, hy1, h⟩ := bnd h
  refine SL.call (vs := []) (Hin := []) (Hr := _) ⟨rfl, rfl, rfl, rfl⟩ rfl trivial cal9 rfl rfl (c_law13_shown hy1 hS) ?_
  rintro _ _ ⟨rfl, rfl⟩
  refine ⟨trivial, ?_⟩
  refine SL.asg ⟨rfl, rfl, rfl, rfl⟩ rfl ?_
  refine SL.nx ?_
  refine SX.seq ?_
  refine SX.sr ?_
  refine SL.mv ⟨rfl, rfl, rfl, rfl⟩ rfl ?_
  refine SL.bin ⟨rfl, rfl, rfl, rfl⟩ rfl rfl Bin.ltI ?_
  refine SL.mv ⟨rfl, rfl, rfl, rfl⟩ rfl ?_
  refine SL.or (c := decide (4 < p0)) 15 3 18 rfl (fun hb k => ?_) (fun hb k => ?_) ?_
  · skip
    refine SL.pass rfl rfl rfl ?_
    refine SL.pass rfl rfl rfl ?_
    refine SL.pk ⟨rfl, rfl, rfl, rfl⟩ rfl rfl ?_
    exact k.mono (by repeat' (first | exact trivial | refine And.intro rfl ?_))
  · skip
    refine SL.mv ⟨rfl, rfl, rfl, rfl⟩ rfl ?_
    refine SL.bin ⟨rfl, rfl, rfl, rfl⟩ rfl rfl Bin.gtI ?_
    refine SL.pk ⟨rfl, rfl, rfl, rfl⟩ rfl rfl ?_
    exact k.mono (by repeat' (first | exact trivial | refine And.intro rfl ?_))
  refine SL.nx ?_
  refine SX.cond rfl (fun hc1 => ?_) (fun hc1 => ?_)
  · skip
    replace h := cT hc1 h
    refine SX.sr ?_
    refine SL.mv ⟨rfl, rfl, rfl, rfl⟩ rfl ?_
    refine SL.asg ⟨rfl, rfl, rfl, rfl⟩ rfl ?_
    refine SL.nx ?_
    refine SX.ret ?_
    refine SQ.thnR ?_
    obtain rfl := Option.some.inj h
    exact SQ.fret (res1 rfl rfl) (ret_of (M := []) ⟨rfl, rfl⟩ fun _ hw => HpOk.pick (H := []) hw [] 0 rfl)
  · skip
    replace h := cF hc1 h
    refine SX.skip ?_
    refine SQ.thn ?_
    refine SX.sr ?_
    obtain ⟨y2, hy2, h⟩ := bnd h
    obtain ⟨d1, hd1, h⟩ := bnd h
    refine SL.call (vs := [_]) (Hin := []) (Hr := _) ⟨rfl, rfl, rfl, rfl⟩ rfl ⟨rfl, trivial⟩ cal10 rfl rfl (c_device_New hy2) ?_
    rintro _ _ (⟨hn, -, -⟩ | ⟨d_, b1, v1, m1, m2, hn, rfl, rfl⟩)
    · rw [hd1] at hn; cases hn
    obtain rfl : d1 = d_ := Option.some.inj (hd1.symm.trans hn)
    refine ⟨trivial, ?_⟩
    refine SL.mv ⟨rfl, rfl, rfl, rfl⟩ rfl ?_
    refine SL.ext ⟨rfl, rfl, rfl, rfl⟩ rfl rfl ?_
    refine SL.ext ⟨rfl, rfl, rfl, rfl⟩ rfl rfl ?_
    refine SL.asg ⟨rfl, rfl, rfl, rfl⟩ rfl ?_
    refine SL.asg ⟨rfl, rfl, rfl, rfl⟩ rfl ?_
    refine SL.nx ?_
    refine SX.sr ?_
    obtain ⟨y3, hy3, h⟩ := bnd h
    obtain ⟨y4, hy4, h⟩ := bnd h
    obtain ⟨d2, hd2, h⟩ := bnd h
    refine SL.mv ⟨rfl, rfl, rfl, rfl⟩ rfl ?_
    refine SL.mv ⟨rfl, rfl, rfl, rfl⟩ rfl ?_
    refine SL.call (vs := [_]) (Hin := []) (Hr := _ :: _ :: _ :: _ :: _) ⟨rfl, rfl, rfl, rfl⟩ rfl ⟨rfl, trivial⟩ cal12 rfl rfl (c_law13_Ring hy3) ?_
    rintro v2 _ ⟨_, rfl, rfl⟩
    refine ⟨trivial, ?_⟩
    refine SL.mv ⟨rfl, rfl, rfl, rfl⟩ rfl ?_
    refine SL.call (vs := [_, _, _, vU32 1]) (Hin := [_, _, _, _, _]) (Hr := _) ⟨rfl, rfl, rfl, rfl⟩ rfl ⟨rfl, rfl, rfl, rfl, trivial⟩ cal11 rfl rfl (Con.lend (B := [_]) (Hin := [_, _, _, _]) fun K' w1 hk hB => c_vault_New hy4 (SlOf.lentT (e := 70) (v := v2) (fun _ => rfl) (hB _ (by simp)))) ?_
    rintro _ _ ⟨_, rfl, (⟨hn, -, -⟩ | ⟨d_, b2, v3, m3, hn, rfl, rfl⟩)⟩
    · rw [hd2] at hn; cases hn
    obtain rfl : d2 = d_ := Option.some.inj (hd2.symm.trans hn)
    refine ⟨trivial, ?_⟩
    refine SL.mv ⟨rfl, rfl, rfl, rfl⟩ rfl ?_
    refine SL.ext ⟨rfl, rfl, rfl, rfl⟩ rfl rfl ?_
    refine SL.ext ⟨rfl, rfl, rfl, rfl⟩ rfl rfl ?_
    refine SL.asg ⟨rfl, rfl, rfl, rfl⟩ rfl ?_
    refine SL.asg ⟨rfl, rfl, rfl, rfl⟩ rfl ?_
    refine SL.nx ?_
    refine SX.sr ?_
    obtain ⟨y5, hy5, h⟩ := bnd h
    obtain ⟨y6, hy6, h⟩ := bnd h
    refine SL.mv ⟨rfl, rfl, rfl, rfl⟩ rfl ?_
    refine SL.call (vs := [_]) (Hin := []) (Hr := _ :: _ :: _ :: _ :: _ :: _ :: _ :: _ :: _) ⟨rfl, rfl, rfl, rfl⟩ rfl ⟨rfl, trivial⟩ cal12 rfl rfl (c_law13_Ring hy5) ?_
    rintro v4 _ ⟨_, rfl, rfl⟩
    refine ⟨trivial, ?_⟩
    refine SL.mv ⟨rfl, rfl, rfl, rfl⟩ rfl ?_
    refine SL.call (vs := [_, _, _, vU32 1]) (Hin := [_]) (Hr := _ :: _ :: _ :: _ :: _ :: _ :: _ :: _ :: _) ⟨rfl, rfl, rfl, rfl⟩ rfl ⟨rfl, rfl, rfl, rfl, trivial⟩ cal11 rfl rfl (Con.lend (B := [_]) (Hin := []) fun K' w1 hk hB => c_vault_New_nil hy6 (SlOf.lentT (e := 70) (v := v4) (fun _ => rfl) (hB _ (by simp)))) ?_
    rintro _ _ ⟨_, rfl, rfl, rfl⟩
    refine ⟨trivial, ?_⟩
    refine SL.mv ⟨rfl, rfl, rfl, rfl⟩ rfl ?_
    refine SL.ext ⟨rfl, rfl, rfl, rfl⟩ rfl rfl ?_
    refine SL.ext ⟨rfl, rfl, rfl, rfl⟩ rfl rfl ?_
    refine SL.asg ⟨rfl, rfl, rfl, rfl⟩ rfl ?_
    refine SL.asg ⟨rfl, rfl, rfl, rfl⟩ rfl ?_
    refine SL.nx ?_
    refine SX.seq ?_
    refine SX.sr ?_
    refine SL.mv ⟨rfl, rfl, rfl, rfl⟩ rfl ?_
    refine SL.bin ⟨rfl, rfl, rfl, rfl⟩ rfl rfl (Bin.lt32 (b := 1)) ?_
    refine SL.mv ⟨rfl, rfl, rfl, rfl⟩ rfl ?_
    refine SL.or (c := decide (toU32 p0 < p1)) 41 5 46 rfl (fun hb k => ?_) (fun hb k => ?_) ?_
    · skip
      refine SL.pass rfl rfl rfl ?_
      refine SL.pass rfl rfl rfl ?_
      refine SL.pass rfl rfl rfl ?_
      refine SL.pass rfl rfl rfl ?_
      refine SL.pk ⟨rfl, rfl, rfl, rfl⟩ rfl rfl ?_
      exact k.mono (by repeat' (first | exact trivial | refine And.intro rfl ?_))
    · skip
      refine SL.mv ⟨rfl, rfl, rfl, rfl⟩ rfl ?_
      refine SL.mv ⟨rfl, rfl, rfl, rfl⟩ rfl ?_
      refine SL.cv ⟨rfl, rfl, rfl, rfl⟩ rfl (Cv.i_32 ty3 ty22) ?_
      refine SL.bin ⟨rfl, rfl, rfl, rfl⟩ rfl rfl Bin.gt32 ?_
      refine SL.pk ⟨rfl, rfl, rfl, rfl⟩ rfl rfl ?_
      exact k.mono (by repeat' (first | exact trivial | refine And.intro rfl ?_))
    refine SL.nx ?_
    refine SX.cond rfl (fun hc2 => ?_) (fun hc2 => ?_)
    · skip
      replace h := cT hc2 h
      refine SX.sr ?_
      obtain ⟨x1, ex1, h⟩ := retE h
      refine SL.mv ⟨rfl, rfl, rfl, rfl⟩ rfl ?_
      refine SL.mv ⟨rfl, rfl, rfl, rfl⟩ rfl ?_
      refine SL.and (c := decide (y2.2 = 0)) 48 3 51 rfl (fun hb k => ?_) (fun hb k => ?_) ?_
      · skip
        refine SL.mv ⟨rfl, rfl, rfl, rfl⟩ rfl ?_
        refine SL.bin ⟨rfl, rfl, rfl, rfl⟩ rfl rfl Bin.eqI ?_
        refine SL.pk ⟨rfl, rfl, rfl, rfl⟩ rfl rfl ?_
        exact k.mono (by repeat' (first | exact trivial | refine And.intro rfl ?_))
      · skip
        refine SL.pass rfl rfl rfl ?_
        refine SL.pass rfl rfl rfl ?_
        refine SL.pk ⟨rfl, rfl, rfl, rfl⟩ rfl rfl ?_
        exact k.mono (by repeat' (first | exact trivial | refine And.intro rfl ?_))
      refine SL.mv ⟨rfl, rfl, rfl, rfl⟩ rfl ?_
      refine SL.and (c := decide (y4.2 = 41)) 52 3 55 rfl (fun hb k => ?_) (fun hb k => ?_) ?_
      · skip
        refine SL.mv ⟨rfl, rfl, rfl, rfl⟩ rfl ?_
        refine SL.bin ⟨rfl, rfl, rfl, rfl⟩ rfl rfl Bin.eqI ?_
        refine SL.pk ⟨rfl, rfl, rfl, rfl⟩ rfl rfl ?_
        exact k.mono (by repeat' (first | exact trivial | refine And.intro rfl ?_))
      · skip
        refine SL.pass rfl rfl rfl ?_
        refine SL.pass rfl rfl rfl ?_
        refine SL.pk ⟨rfl, rfl, rfl, rfl⟩ rfl rfl ?_
        exact k.mono (by repeat' (first | exact trivial | refine And.intro rfl ?_))
      refine SL.mv ⟨rfl, rfl, rfl, rfl⟩ rfl ?_
      refine SL.and (c := decide (y6 = 1)) 56 3 59 rfl (fun hb k => ?_) (fun hb k => ?_) ?_
      · skip
        refine SL.mv ⟨rfl, rfl, rfl, rfl⟩ rfl ?_
        refine SL.bin ⟨rfl, rfl, rfl, rfl⟩ rfl rfl Bin.eqI ?_
        refine SL.pk ⟨rfl, rfl, rfl, rfl⟩ rfl rfl ?_
        exact k.mono (by repeat' (first | exact trivial | refine And.intro rfl ?_))
      · skip
        refine SL.pass rfl rfl rfl ?_
        refine SL.pass rfl rfl rfl ?_
        refine SL.pk ⟨rfl, rfl, rfl, rfl⟩ rfl rfl ?_
        exact k.mono (by repeat' (first | exact trivial | refine And.intro rfl ?_))
      refine SL.mv ⟨rfl, rfl, rfl, rfl⟩ rfl ?_
      refine SL.and (c := false) 60 3 63 rfl (fun hb k => ?_) (fun hb k => ?_) ?_
      · skip
        refine SL.mv ⟨rfl, rfl, rfl, rfl⟩ rfl ?_
        refine SL.eqPN ⟨rfl, rfl, rfl, rfl⟩ ty28 rfl rfl ?_
        refine SL.pk ⟨rfl, rfl, rfl, rfl⟩ rfl rfl ?_
        exact k.mono (by repeat' (first | exact trivial | refine And.intro rfl ?_))
      · skip
        refine SL.pass rfl rfl rfl ?_
        refine SL.pass rfl rfl rfl ?_
        refine SL.pk ⟨rfl, rfl, rfl, rfl⟩ rfl rfl ?_
        exact k.mono (by repeat' (first | exact trivial | refine And.intro rfl ?_))
      refine SL.asgX (u := vB x1) ⟨rfl, rfl, rfl, rfl⟩ rfl (congrArg vB ex1) ?_
      refine SL.nx ?_
      refine SX.ret ?_
      refine SQ.thnR ?_
      obtain rfl := Option.some.inj h
      exact SQ.fret (res1 rfl rfl) (ret_of (M := []) ⟨rfl, rfl⟩ fun _ hw => HpOk.pick (H := [_, _, _, _, _, _, _, _, _]) hw [] 9 rfl)
    · skip
      replace h := cF hc2 h
      refine SX.skip ?_
      refine SQ.thn ?_
      refine SX.sr ?_
      obtain ⟨y8, hy8, h⟩ := bnd h
      obtain ⟨y10, hy10, h⟩ := bnd h
      refine SL.mv ⟨rfl, rfl, rfl, rfl⟩ rfl ?_
      refine SL.mv ⟨rfl, rfl, rfl, rfl⟩ rfl ?_
      refine SL.and (c := decide (y2.2 = 0)) 65 3 68 rfl (fun hb k => ?_) (fun hb k => ?_) ?_
      · skip
        refine SL.mv ⟨rfl, rfl, rfl, rfl⟩ rfl ?_
        refine SL.bin ⟨rfl, rfl, rfl, rfl⟩ rfl rfl Bin.eqI ?_
        refine SL.pk ⟨rfl, rfl, rfl, rfl⟩ rfl rfl ?_
        exact k.mono (by repeat' (first | exact trivial | refine And.intro rfl ?_))
      · skip
        refine SL.pass rfl rfl rfl ?_
        refine SL.pass rfl rfl rfl ?_
        refine SL.pk ⟨rfl, rfl, rfl, rfl⟩ rfl rfl ?_
        exact k.mono (by repeat' (first | exact trivial | refine And.intro rfl ?_))
      refine SL.mv ⟨rfl, rfl, rfl, rfl⟩ rfl ?_
      refine SL.and (c := decide (y4.2 = 0)) 69 3 72 rfl (fun hb k => ?_) (fun hb k => ?_) ?_
      · skip
        refine SL.mv ⟨rfl, rfl, rfl, rfl⟩ rfl ?_
        refine SL.bin ⟨rfl, rfl, rfl, rfl⟩ rfl rfl Bin.eqI ?_
        refine SL.pk ⟨rfl, rfl, rfl, rfl⟩ rfl rfl ?_
        exact k.mono (by repeat' (first | exact trivial | refine And.intro rfl ?_))
      · skip
        refine SL.pass rfl rfl rfl ?_
        refine SL.pass rfl rfl rfl ?_
        refine SL.pk ⟨rfl, rfl, rfl, rfl⟩ rfl rfl ?_
        exact k.mono (by repeat' (first | exact trivial | refine And.intro rfl ?_))
      refine SL.mv ⟨rfl, rfl, rfl, rfl⟩ rfl ?_
      refine SL.and (c := decide (y6 = 1)) 73 3 76 rfl (fun hb k => ?_) (fun hb k => ?_) ?_
      · skip
        refine SL.mv ⟨rfl, rfl, rfl, rfl⟩ rfl ?_
        refine SL.bin ⟨rfl, rfl, rfl, rfl⟩ rfl rfl Bin.eqI ?_
        refine SL.pk ⟨rfl, rfl, rfl, rfl⟩ rfl rfl ?_
        exact k.mono (by repeat' (first | exact trivial | refine And.intro rfl ?_))
      · skip
        refine SL.pass rfl rfl rfl ?_
        refine SL.pass rfl rfl rfl ?_
        refine SL.pk ⟨rfl, rfl, rfl, rfl⟩ rfl rfl ?_
        exact k.mono (by repeat' (first | exact trivial | refine And.intro rfl ?_))
      refine SL.mv ⟨rfl, rfl, rfl, rfl⟩ rfl ?_
      refine SL.andN 77 4 81 hy8 rfl (fun hb hg10 k => ?_) (fun hb k => ?_) ?_
      · skip
        obtain ⟨y7, hy7, hg10⟩ := bnd hg10
        obtain rfl := Option.some.inj hg10
        refine SL.mv ⟨rfl, rfl, rfl, rfl⟩ rfl ?_
        refine SL.pick [2, 3, 4, 5, 6, 7, 8, 0, 1] 9 ?_
        refine SL.call (vs := [_]) (Hin := [_, _, _, _, _, _, _]) (Hr := _ :: _ :: _) ⟨rfl, rfl, rfl, rfl⟩ rfl ⟨rfl, trivial⟩ cal13 rfl rfl (c_vault_Vault_Free hy7) ?_
        rintro _ _ ⟨rfl, rfl⟩
        refine ⟨trivial, ?_⟩
        refine SL.bin ⟨rfl, rfl, rfl, rfl⟩ rfl rfl Bin.eqI ?_
        refine SL.pk ⟨rfl, rfl, rfl, rfl⟩ rfl rfl ?_
        exact SL.mono (SL.heap k fun _ hw => HpOk.pick (H := [_, _, _, _, _, _, _, _, _]) hw [7, 8, 0, 1, 2, 3, 4, 5, 6] 9 rfl) (by repeat' (first | exact trivial | refine And.intro rfl ?_))
      · skip
        refine SL.pass rfl rfl rfl ?_
        refine SL.pass rfl rfl rfl ?_
        refine SL.pass rfl rfl rfl ?_
        refine SL.pk ⟨rfl, rfl, rfl, rfl⟩ rfl rfl ?_
        exact k.mono (by repeat' (first | exact trivial | refine And.intro rfl ?_))
      refine SL.mv ⟨rfl, rfl, rfl, rfl⟩ rfl ?_
      refine SL.andN 82 4 86 hy10 rfl (fun hb hg11 k => ?_) (fun hb k => ?_) ?_
      · skip
        obtain ⟨y9, hy9, hg11⟩ := bnd hg11
        obtain rfl := Option.some.inj hg11
        refine SL.mv ⟨rfl, rfl, rfl, rfl⟩ rfl ?_
        refine SL.pick [2, 3, 4, 5, 6, 7, 8, 0, 1] 9 ?_
        refine SL.call (vs := [_]) (Hin := [_, _, _, _, _, _, _]) (Hr := _ :: _ :: _) ⟨rfl, rfl, rfl, rfl⟩ rfl ⟨rfl, trivial⟩ cal14 rfl rfl (c_vault_Vault_Seals hy9) ?_
        rintro _ _ ⟨rfl, rfl⟩
        refine ⟨trivial, ?_⟩
        refine SL.bin ⟨rfl, rfl, rfl, rfl⟩ rfl rfl (Bin.eq64 (b := 0)) ?_
        refine SL.pk ⟨rfl, rfl, rfl, rfl⟩ rfl rfl ?_
        exact SL.mono (SL.heap k fun _ hw => HpOk.pick (H := [_, _, _, _, _, _, _, _, _]) hw [7, 8, 0, 1, 2, 3, 4, 5, 6] 9 rfl) (by repeat' (first | exact trivial | refine And.intro rfl ?_))
      · skip
        refine SL.pass rfl rfl rfl ?_
        refine SL.pass rfl rfl rfl ?_
        refine SL.pass rfl rfl rfl ?_
        refine SL.pk ⟨rfl, rfl, rfl, rfl⟩ rfl rfl ?_
        exact k.mono (by repeat' (first | exact trivial | refine And.intro rfl ?_))
      refine SL.asg ⟨rfl, rfl, rfl, rfl⟩ rfl ?_
      refine SL.nx ?_
      refine SX.ret ?_
      obtain rfl := Option.some.inj h
      exact SQ.fret (res1 rfl rfl) (ret_of (M := []) ⟨rfl, rfl⟩ fun _ hw => HpOk.pick (H := [_, _, _, _, _, _, _, _, _]) hw [] 9 rfl)

def f_law13_VaultNewsZ (n : Nat) (T : List UInt32) (p0 : Int) (p1 : UInt32) : Option Bool :=
  (f_law13_shown n T).bind fun y1 =>
  cond ((decide (p0 < 0)) || (decide (4 < p0)))
  (
    some y1)
  (
    (f_device_New 5).bind fun y2 =>
    (y2.1).bind fun d1 =>
    (f_law13_Ring n p0).bind fun y3 =>
    (f_vault_New d1 y3 p1 1).bind fun y4 =>
    (nilO y4.1).bind fun u1 =>
    (f_law13_Ring n p0).bind fun y5 =>
    (f_vault_New_nil y5 p1 1).bind fun y6 =>
    cond ((decide (p1 < 1)) || (decide (toU32 p0 < p1)))
    (
      ret ((((y1 && (decide (y2.2 = 0))) && (decide (y4.2 = 41))) && (decide (y6 = 1))) && true) fun x1 =>
      some x1)
    (
      (andO (((y1 && (decide (y2.2 = 0))) && (decide (y4.2 = 0))) && (decide (y6 = 1))) ((f_vault_Vault_Free_nil).bind fun y7 => some (decide (y7 = 3)))).bind fun y8 =>
      (andO y8 ((f_vault_Vault_Seals_nil).bind fun y9 => some (decide (y9 = 0)))).bind fun y10 =>
      some y10))
set_option maxHeartbeats 4000000 in
set_option maxRecDepth 100000 in
theorem c_law13_VaultNewsZ {n : Nat} {T : List UInt32} {p0 : Int} {p1 : UInt32} {r : Bool} (h : f_law13_VaultNewsZ n T p0 p1 = some r) (hS : ShaT K w0 T) : Con Tryd.prog K w0 3 [vI p0, vU32 p1] [] H (fun u M => u = vB r ∧ M = []) := by
  unfold f_law13_VaultNewsZ at h
  refine Con.enter Tryd.func3 rfl rfl ?_
  refine SX.sr ?_
  refine SL.asg ⟨rfl, rfl, rfl, rfl⟩ rfl ?_
  refine SL.nx ?_
  refine SX.sr ?_
  obtain ⟨y1, hy1, h⟩ := bnd h
  refine SL.call (vs := []) (Hin := []) (Hr := _) ⟨rfl, rfl, rfl, rfl⟩ rfl trivial cal9 rfl rfl (c_law13_shown hy1 hS) ?_
  rintro _ _ ⟨rfl, rfl⟩
  refine ⟨trivial, ?_⟩
  refine SL.asg ⟨rfl, rfl, rfl, rfl⟩ rfl ?_
  refine SL.nx ?_
  refine SX.seq ?_
  refine SX.sr ?_
  refine SL.mv ⟨rfl, rfl, rfl, rfl⟩ rfl ?_
  refine SL.bin ⟨rfl, rfl, rfl, rfl⟩ rfl rfl Bin.ltI ?_
  refine SL.mv ⟨rfl, rfl, rfl, rfl⟩ rfl ?_
  refine SL.or (c := decide (4 < p0)) 15 3 18 rfl (fun hb k => ?_) (fun hb k => ?_) ?_
  · skip
    refine SL.pass rfl rfl rfl ?_
    refine SL.pass rfl rfl rfl ?_
    refine SL.pk ⟨rfl, rfl, rfl, rfl⟩ rfl rfl ?_
    exact k.mono (by repeat' (first | exact trivial | refine And.intro rfl ?_))
  · skip
    refine SL.mv ⟨rfl, rfl, rfl, rfl⟩ rfl ?_
    refine SL.bin ⟨rfl, rfl, rfl, rfl⟩ rfl rfl Bin.gtI ?_
    refine SL.pk ⟨rfl, rfl, rfl, rfl⟩ rfl rfl ?_
    exact k.mono (by repeat' (first | exact trivial | refine And.intro rfl ?_))
  refine SL.nx ?_
  refine SX.cond rfl (fun hc1 => ?_) (fun hc1 => ?_)
  · skip
    replace h := cT hc1 h
    refine SX.sr ?_
    refine SL.mv ⟨rfl, rfl, rfl, rfl⟩ rfl ?_
    refine SL.asg ⟨rfl, rfl, rfl, rfl⟩ rfl ?_
    refine SL.nx ?_
    refine SX.ret ?_
    refine SQ.thnR ?_
    obtain rfl := Option.some.inj h
    exact SQ.fret (res1 rfl rfl) (ret_of (M := []) ⟨rfl, rfl⟩ fun _ hw => HpOk.pick (H := []) hw [] 0 rfl)
  · skip
    replace h := cF hc1 h
    refine SX.skip ?_
    refine SQ.thn ?_
    refine SX.sr ?_
    obtain ⟨y2, hy2, h⟩ := bnd h
    obtain ⟨d1, hd1, h⟩ := bnd h
    refine SL.call (vs := [_]) (Hin := []) (Hr := _) ⟨rfl, rfl, rfl, rfl⟩ rfl ⟨rfl, trivial⟩ cal10 rfl rfl (c_device_New hy2) ?_
    rintro _ _ (⟨hn, -, -⟩ | ⟨d_, b1, v1, m1, m2, hn, rfl, rfl⟩)
    · rw [hd1] at hn; cases hn
    obtain rfl : d1 = d_ := Option.some.inj (hd1.symm.trans hn)
    refine ⟨trivial, ?_⟩
    refine SL.mv ⟨rfl, rfl, rfl, rfl⟩ rfl ?_
    refine SL.ext ⟨rfl, rfl, rfl, rfl⟩ rfl rfl ?_
    refine SL.ext ⟨rfl, rfl, rfl, rfl⟩ rfl rfl ?_
    refine SL.asg ⟨rfl, rfl, rfl, rfl⟩ rfl ?_
    refine SL.asg ⟨rfl, rfl, rfl, rfl⟩ rfl ?_
    refine SL.nx ?_
    refine SX.sr ?_
    obtain ⟨y3, hy3, h⟩ := bnd h
    obtain ⟨y4, hy4, h⟩ := bnd h
    obtain ⟨u1, hu1, h⟩ := bnd h
    refine SL.mv ⟨rfl, rfl, rfl, rfl⟩ rfl ?_
    refine SL.mv ⟨rfl, rfl, rfl, rfl⟩ rfl ?_
    refine SL.call (vs := [_]) (Hin := []) (Hr := _ :: _ :: _ :: _ :: _) ⟨rfl, rfl, rfl, rfl⟩ rfl ⟨rfl, trivial⟩ cal12 rfl rfl (c_law13_Ring hy3) ?_
    rintro v2 _ ⟨_, rfl, rfl⟩
    refine ⟨trivial, ?_⟩
    refine SL.mv ⟨rfl, rfl, rfl, rfl⟩ rfl ?_
    refine SL.call (vs := [_, _, _, vU32 1]) (Hin := [_, _, _, _, _]) (Hr := _) ⟨rfl, rfl, rfl, rfl⟩ rfl ⟨rfl, rfl, rfl, rfl, trivial⟩ cal11 rfl rfl (Con.lend (B := [_]) (Hin := [_, _, _, _]) fun K' w1 hk hB => c_vault_New hy4 (SlOf.lentT (e := 70) (v := v2) (fun _ => rfl) (hB _ (by simp)))) ?_
    rintro _ _ ⟨_, rfl, hq⟩
    rcases hq.symm with ⟨d_, _, _, _, hn, -, -⟩ | ⟨-, rfl, rfl⟩
    · exact (nilO_no hu1 hn).elim
    refine ⟨trivial, ?_⟩
    refine SL.mv ⟨rfl, rfl, rfl, rfl⟩ rfl ?_
    refine SL.ext ⟨rfl, rfl, rfl, rfl⟩ rfl rfl ?_
    refine SL.ext ⟨rfl, rfl, rfl, rfl⟩ rfl rfl ?_
    refine SL.asg ⟨rfl, rfl, rfl, rfl⟩ rfl ?_
    refine SL.asg ⟨rfl, rfl, rfl, rfl⟩ rfl ?_
    refine SL.nx ?_
    refine SX.sr ?_
    obtain ⟨y5, hy5, h⟩ := bnd h
    obtain ⟨y6, hy6, h⟩ := bnd h
    refine SL.mv ⟨rfl, rfl, rfl, rfl⟩ rfl ?_
    refine SL.call (vs := [_]) (Hin := []) (Hr := _ :: _ :: _ :: _ :: _ :: _) ⟨rfl, rfl, rfl, rfl⟩ rfl ⟨rfl, trivial⟩ cal12 rfl rfl (c_law13_Ring hy5) ?_
    rintro v3 _ ⟨_, rfl, rfl⟩
    refine ⟨trivial, ?_⟩
    refine SL.mv ⟨rfl, rfl, rfl, rfl⟩ rfl ?_
    refine SL.call (vs := [_, _, _, vU32 1]) (Hin := [_]) (Hr := _ :: _ :: _ :: _ :: _ :: _) ⟨rfl, rfl, rfl, rfl⟩ rfl ⟨rfl, rfl, rfl, rfl, trivial⟩ cal11 rfl rfl (Con.lend (B := [_]) (Hin := []) fun K' w1 hk hB => c_vault_New_nil hy6 (SlOf.lentT (e := 70) (v := v3) (fun _ => rfl) (hB _ (by simp)))) ?_
    rintro _ _ ⟨_, rfl, rfl, rfl⟩
    refine ⟨trivial, ?_⟩
    refine SL.mv ⟨rfl, rfl, rfl, rfl⟩ rfl ?_
    refine SL.ext ⟨rfl, rfl, rfl, rfl⟩ rfl rfl ?_
    refine SL.ext ⟨rfl, rfl, rfl, rfl⟩ rfl rfl ?_
    refine SL.asg ⟨rfl, rfl, rfl, rfl⟩ rfl ?_
    refine SL.asg ⟨rfl, rfl, rfl, rfl⟩ rfl ?_
    refine SL.nx ?_
    refine SX.seq ?_
    refine SX.sr ?_
    refine SL.mv ⟨rfl, rfl, rfl, rfl⟩ rfl ?_
    refine SL.bin ⟨rfl, rfl, rfl, rfl⟩ rfl rfl (Bin.lt32 (b := 1)) ?_
    refine SL.mv ⟨rfl, rfl, rfl, rfl⟩ rfl ?_
    refine SL.or (c := decide (toU32 p0 < p1)) 41 5 46 rfl (fun hb k => ?_) (fun hb k => ?_) ?_
    · skip
      refine SL.pass rfl rfl rfl ?_
      refine SL.pass rfl rfl rfl ?_
      refine SL.pass rfl rfl rfl ?_
      refine SL.pass rfl rfl rfl ?_
      refine SL.pk ⟨rfl, rfl, rfl, rfl⟩ rfl rfl ?_
      exact k.mono (by repeat' (first | exact trivial | refine And.intro rfl ?_))
    · skip
      refine SL.mv ⟨rfl, rfl, rfl, rfl⟩ rfl ?_
      refine SL.mv ⟨rfl, rfl, rfl, rfl⟩ rfl ?_
      refine SL.cv ⟨rfl, rfl, rfl, rfl⟩ rfl (Cv.i_32 ty3 ty22) ?_
      refine SL.bin ⟨rfl, rfl, rfl, rfl⟩ rfl rfl Bin.gt32 ?_
      refine SL.pk ⟨rfl, rfl, rfl, rfl⟩ rfl rfl ?_
      exact k.mono (by repeat' (first | exact trivial | refine And.intro rfl ?_))
    refine SL.nx ?_
    refine SX.cond rfl (fun hc2 => ?_) (fun hc2 => ?_)
    · skip
      replace h := cT hc2 h
      refine SX.sr ?_
      obtain ⟨x1, ex1, h⟩ := retE h
      refine SL.mv ⟨rfl, rfl, rfl, rfl⟩ rfl ?_
      refine SL.mv ⟨rfl, rfl, rfl, rfl⟩ rfl ?_
      refine SL.and (c := decide (y2.2 = 0)) 48 3 51 rfl (fun hb k => ?_) (fun hb k => ?_) ?_
      · skip
        refine SL.mv ⟨rfl, rfl, rfl, rfl⟩ rfl ?_
        refine SL.bin ⟨rfl, rfl, rfl, rfl⟩ rfl rfl Bin.eqI ?_
        refine SL.pk ⟨rfl, rfl, rfl, rfl⟩ rfl rfl ?_
        exact k.mono (by repeat' (first | exact trivial | refine And.intro rfl ?_))
      · skip
        refine SL.pass rfl rfl rfl ?_
        refine SL.pass rfl rfl rfl ?_
        refine SL.pk ⟨rfl, rfl, rfl, rfl⟩ rfl rfl ?_
        exact k.mono (by repeat' (first | exact trivial | refine And.intro rfl ?_))
      refine SL.mv ⟨rfl, rfl, rfl, rfl⟩ rfl ?_
      refine SL.and (c := decide (y4.2 = 41)) 52 3 55 rfl (fun hb k => ?_) (fun hb k => ?_) ?_
      · skip
        refine SL.mv ⟨rfl, rfl, rfl, rfl⟩ rfl ?_
        refine SL.bin ⟨rfl, rfl, rfl, rfl⟩ rfl rfl Bin.eqI ?_
        refine SL.pk ⟨rfl, rfl, rfl, rfl⟩ rfl rfl ?_
        exact k.mono (by repeat' (first | exact trivial | refine And.intro rfl ?_))
      · skip
        refine SL.pass rfl rfl rfl ?_
        refine SL.pass rfl rfl rfl ?_
        refine SL.pk ⟨rfl, rfl, rfl, rfl⟩ rfl rfl ?_
        exact k.mono (by repeat' (first | exact trivial | refine And.intro rfl ?_))
      refine SL.mv ⟨rfl, rfl, rfl, rfl⟩ rfl ?_
      refine SL.and (c := decide (y6 = 1)) 56 3 59 rfl (fun hb k => ?_) (fun hb k => ?_) ?_
      · skip
        refine SL.mv ⟨rfl, rfl, rfl, rfl⟩ rfl ?_
        refine SL.bin ⟨rfl, rfl, rfl, rfl⟩ rfl rfl Bin.eqI ?_
        refine SL.pk ⟨rfl, rfl, rfl, rfl⟩ rfl rfl ?_
        exact k.mono (by repeat' (first | exact trivial | refine And.intro rfl ?_))
      · skip
        refine SL.pass rfl rfl rfl ?_
        refine SL.pass rfl rfl rfl ?_
        refine SL.pk ⟨rfl, rfl, rfl, rfl⟩ rfl rfl ?_
        exact k.mono (by repeat' (first | exact trivial | refine And.intro rfl ?_))
      refine SL.mv ⟨rfl, rfl, rfl, rfl⟩ rfl ?_
      refine SL.and (c := true) 60 3 63 rfl (fun hb k => ?_) (fun hb k => ?_) ?_
      · skip
        refine SL.mv ⟨rfl, rfl, rfl, rfl⟩ rfl ?_
        refine SL.eqPN ⟨rfl, rfl, rfl, rfl⟩ ty28 rfl rfl ?_
        refine SL.pk ⟨rfl, rfl, rfl, rfl⟩ rfl rfl ?_
        exact k.mono (by repeat' (first | exact trivial | refine And.intro rfl ?_))
      · skip
        refine SL.pass rfl rfl rfl ?_
        refine SL.pass rfl rfl rfl ?_
        refine SL.pk ⟨rfl, rfl, rfl, rfl⟩ rfl rfl ?_
        exact k.mono (by repeat' (first | exact trivial | refine And.intro rfl ?_))
      refine SL.asgX (u := vB x1) ⟨rfl, rfl, rfl, rfl⟩ rfl (congrArg vB ex1) ?_
      refine SL.nx ?_
      refine SX.ret ?_
      refine SQ.thnR ?_
      obtain rfl := Option.some.inj h
      exact SQ.fret (res1 rfl rfl) (ret_of (M := []) ⟨rfl, rfl⟩ fun _ hw => HpOk.pick (H := [_, _, _, _, _, _]) hw [] 6 rfl)
    · skip
      replace h := cF hc2 h
      refine SX.skip ?_
      refine SQ.thn ?_
      refine SX.sr ?_
      obtain ⟨y8, hy8, h⟩ := bnd h
      obtain ⟨y10, hy10, h⟩ := bnd h
      refine SL.mv ⟨rfl, rfl, rfl, rfl⟩ rfl ?_
      refine SL.mv ⟨rfl, rfl, rfl, rfl⟩ rfl ?_
      refine SL.and (c := decide (y2.2 = 0)) 65 3 68 rfl (fun hb k => ?_) (fun hb k => ?_) ?_
      · skip
        refine SL.mv ⟨rfl, rfl, rfl, rfl⟩ rfl ?_
        refine SL.bin ⟨rfl, rfl, rfl, rfl⟩ rfl rfl Bin.eqI ?_
        refine SL.pk ⟨rfl, rfl, rfl, rfl⟩ rfl rfl ?_
        exact k.mono (by repeat' (first | exact trivial | refine And.intro rfl ?_))
      · skip
        refine SL.pass rfl rfl rfl ?_
        refine SL.pass rfl rfl rfl ?_
        refine SL.pk ⟨rfl, rfl, rfl, rfl⟩ rfl rfl ?_
        exact k.mono (by repeat' (first | exact trivial | refine And.intro rfl ?_))
      refine SL.mv ⟨rfl, rfl, rfl, rfl⟩ rfl ?_
      refine SL.and (c := decide (y4.2 = 0)) 69 3 72 rfl (fun hb k => ?_) (fun hb k => ?_) ?_
      · skip
        refine SL.mv ⟨rfl, rfl, rfl, rfl⟩ rfl ?_
        refine SL.bin ⟨rfl, rfl, rfl, rfl⟩ rfl rfl Bin.eqI ?_
        refine SL.pk ⟨rfl, rfl, rfl, rfl⟩ rfl rfl ?_
        exact k.mono (by repeat' (first | exact trivial | refine And.intro rfl ?_))
      · skip
        refine SL.pass rfl rfl rfl ?_
        refine SL.pass rfl rfl rfl ?_
        refine SL.pk ⟨rfl, rfl, rfl, rfl⟩ rfl rfl ?_
        exact k.mono (by repeat' (first | exact trivial | refine And.intro rfl ?_))
      refine SL.mv ⟨rfl, rfl, rfl, rfl⟩ rfl ?_
      refine SL.and (c := decide (y6 = 1)) 73 3 76 rfl (fun hb k => ?_) (fun hb k => ?_) ?_
      · skip
        refine SL.mv ⟨rfl, rfl, rfl, rfl⟩ rfl ?_
        refine SL.bin ⟨rfl, rfl, rfl, rfl⟩ rfl rfl Bin.eqI ?_
        refine SL.pk ⟨rfl, rfl, rfl, rfl⟩ rfl rfl ?_
        exact k.mono (by repeat' (first | exact trivial | refine And.intro rfl ?_))
      · skip
        refine SL.pass rfl rfl rfl ?_
        refine SL.pass rfl rfl rfl ?_
        refine SL.pk ⟨rfl, rfl, rfl, rfl⟩ rfl rfl ?_
        exact k.mono (by repeat' (first | exact trivial | refine And.intro rfl ?_))
      refine SL.mv ⟨rfl, rfl, rfl, rfl⟩ rfl ?_
      refine SL.andN 77 4 81 hy8 rfl (fun hb hg10 k => ?_) (fun hb k => ?_) ?_
      · skip
        obtain ⟨y7, hy7, hg10⟩ := bnd hg10
        obtain rfl := Option.some.inj hg10
        refine SL.mv ⟨rfl, rfl, rfl, rfl⟩ rfl ?_
        refine SL.call (vs := [_]) (Hin := []) (Hr := _ :: _ :: _ :: _ :: _ :: _ :: _) ⟨rfl, rfl, rfl, rfl⟩ rfl ⟨rfl, trivial⟩ cal13 rfl rfl (c_vault_Vault_Free_nil hy7) ?_
        rintro _ _ ⟨rfl, rfl⟩
        refine ⟨trivial, ?_⟩
        refine SL.bin ⟨rfl, rfl, rfl, rfl⟩ rfl rfl Bin.eqI ?_
        refine SL.pk ⟨rfl, rfl, rfl, rfl⟩ rfl rfl ?_
        exact k.mono (by repeat' (first | exact trivial | refine And.intro rfl ?_))
      · skip
        refine SL.pass rfl rfl rfl ?_
        refine SL.pass rfl rfl rfl ?_
        refine SL.pass rfl rfl rfl ?_
        refine SL.pk ⟨rfl, rfl, rfl, rfl⟩ rfl rfl ?_
        exact k.mono (by repeat' (first | exact trivial | refine And.intro rfl ?_))
      refine SL.mv ⟨rfl, rfl, rfl, rfl⟩ rfl ?_
      refine SL.andN 82 4 86 hy10 rfl (fun hb hg11 k => ?_) (fun hb k => ?_) ?_
      · skip
        obtain ⟨y9, hy9, hg11⟩ := bnd hg11
        obtain rfl := Option.some.inj hg11
        refine SL.mv ⟨rfl, rfl, rfl, rfl⟩ rfl ?_
        refine SL.call (vs := [_]) (Hin := []) (Hr := _ :: _ :: _ :: _ :: _ :: _ :: _) ⟨rfl, rfl, rfl, rfl⟩ rfl ⟨rfl, trivial⟩ cal14 rfl rfl (c_vault_Vault_Seals_nil hy9) ?_
        rintro _ _ ⟨rfl, rfl⟩
        refine ⟨trivial, ?_⟩
        refine SL.bin ⟨rfl, rfl, rfl, rfl⟩ rfl rfl (Bin.eq64 (b := 0)) ?_
        refine SL.pk ⟨rfl, rfl, rfl, rfl⟩ rfl rfl ?_
        exact k.mono (by repeat' (first | exact trivial | refine And.intro rfl ?_))
      · skip
        refine SL.pass rfl rfl rfl ?_
        refine SL.pass rfl rfl rfl ?_
        refine SL.pass rfl rfl rfl ?_
        refine SL.pk ⟨rfl, rfl, rfl, rfl⟩ rfl rfl ?_
        exact k.mono (by repeat' (first | exact trivial | refine And.intro rfl ?_))
      refine SL.asg ⟨rfl, rfl, rfl, rfl⟩ rfl ?_
      refine SL.nx ?_
      refine SX.ret ?_
      obtain rfl := Option.some.inj h
      exact SQ.fret (res1 rfl rfl) (ret_of (M := []) ⟨rfl, rfl⟩ fun _ hw => HpOk.pick (H := [_, _, _, _, _, _]) hw [] 6 rfl)


end Go.Proofs.YtddjneafgddlcaaDoor

/- The laws of layer 13, of the plain functions: VaultNone, VaultNews, VaultMoves, VaultTurns. No program's walk in sight. -/
namespace Go.Proofs.YtddjneafgddlcaaDoor
open Go

theorem p_VaultNone (T : List UInt32) (s : List UInt8) (r : RefA) (p : UInt32) : f_law13_VaultNone 4200 T s r p = some true := by
  unfold f_law13_VaultNone
  rw [p_vshown T (Nat.le_refl _)]
  rfl
theorem cut198 (s : List UInt8) : slcI s 0 (min (s.length : Int) 198) = some (s.take 198) := by
  have hm : (min (s.length : Int) 198).toNat = min s.length 198 := by omega
  unfold slcI
  rw [if_pos ⟨by omega, by omega, by omega⟩, hm]
  simp only [Int.toNat_zero, List.drop_zero, Nat.sub_zero]
  rw [Nat.min_comm, ← List.take_take, List.take_length]
theorem cut_len (s : List UInt8) : (s.take 198).length ≤ 198 := by simp; omega
/-! ### VaultNews -/
theorem new5 : f_device_New 5 = some (some (d0 5), 0) := new_eq (by omega) (by omega)
theorem vnew {l : List KeyA} {g b : UInt32} {k : KeyA} (d : DevA) (hl : l.length ≤ 16) (h : findA l g = (k, 0)) : f_vault_New d l g b = some (some { ring := l, gen := g, boot := b, seals := 0, taken := [] }, 0) := by
  unfold f_vault_New findO
  rw [if_pos (by omega), some_bind, h, appL_eq (by simp; omega) (by simp; omega), some_bind]
  rfl
theorem vnew_no {l : List KeyA} {g b : UInt32} {k : KeyA} (d : DevA) (hl : l.length ≤ 16) (h : findA l g = (k, 41)) : f_vault_New d l g b = some (none, 41) := by
  unfold f_vault_New findO
  rw [if_pos (by omega), some_bind, h]
  rfl
/-- is a generation one of the ring's? -/
def inRing (m : Int) (g : UInt32) : Bool := decide (0 < g.toNat) && decide ((g.toNat : Int) ≤ m)
theorem gen_out {m : Nat} {g : UInt32} (h4 : m ≤ 4) : (decide (g < 1) || decide (toU32 (m : Int) < g)) = !inRing (m : Int) g := by
  have e : (toU32 (m : Int)).toNat = m := by simp only [toU32, UInt32.toNat_ofNat']; omega
  have h1 : decide (g < 1) = decide (g.toNat < 1) := by rw [decide_eq_decide, UInt32.lt_iff_toNat_lt]; rfl
  have h2 : decide (toU32 (m : Int) < g) = decide (m < g.toNat) := by rw [decide_eq_decide, UInt32.lt_iff_toNat_lt, e]
  rw [h1, h2]
  unfold inRing
  rw [Bool.eq_iff_iff]
  simp only [Bool.or_eq_true, decide_eq_true_eq, Bool.not_eq_true', Bool.and_eq_false_iff, decide_eq_false_iff_not]
  omega
theorem find_in {m : Nat} {g : UInt32} (h4 : m ≤ 4) (h : inRing (m : Int) g = true) : findA (ringA m) g = (keyN (g.toNat - 1), 0) := by
  unfold inRing at h
  simp only [Bool.and_eq_true, decide_eq_true_eq] at h
  have hg : (keyN (g.toNat - 1)).gen = g := by
    apply UInt32.toNat_inj.1
    rw [keyN_gen (by omega)]
    omega
  have := findA_ring (m := m) (i := g.toNat - 1) (by omega) (by omega)
  rwa [hg] at this
theorem find_out {m : Nat} {g : UInt32} (h4 : m ≤ 4) (h : inRing (m : Int) g = false) : findA (ringA m) g = (key0, 41) := by
  refine findA_none (ringA_right m (by omega)) fun k hk e => ?_
  obtain ⟨i, hi, rfl⟩ := List.mem_map.1 hk
  have h1 := List.mem_range.1 hi
  have h2 := keyN_gen (i := i) (by omega)
  rw [e] at h2
  unfold inRing at h
  simp only [Bool.and_eq_false_iff, decide_eq_false_iff_not] at h
  omega
theorem p_VaultNews (T : List UInt32) (m : Int) (g : UInt32) (h : inRing m g = true) : f_law13_VaultNews 4200 T m g = some true := by
  unfold f_law13_VaultNews
  rw [p_vshown T (Nat.le_refl _), some_bind]
  by_cases hm : m < 0 ∨ 4 < m
  · have : (decide (m < 0) || decide (4 < m)) = true := by simpa using hm
    rw [this, cond_true]
  have hm' : (decide (m < 0) || decide (4 < m)) = false := by simpa using hm
  obtain ⟨k, rfl⟩ : ∃ k : Nat, m = (k : Int) := ⟨m.toNat, by omega⟩
  have hk : k ≤ 4 := by omega
  rw [hm', cond_false, new5, some_bind, some_bind, ring_eq k (by omega) (by omega), some_bind, vnew (d0 5) (by rw [ringA_length]; omega) (find_in hk h), some_bind, some_bind, some_bind, gen_out hk, h]
  rfl
theorem p_VaultNewsZ (T : List UInt32) (m : Int) (g : UInt32) (h : inRing m g = false) : f_law13_VaultNewsZ 4200 T m g = some true := by
  unfold f_law13_VaultNewsZ
  rw [p_vshown T (Nat.le_refl _), some_bind]
  by_cases hm : m < 0 ∨ 4 < m
  · have : (decide (m < 0) || decide (4 < m)) = true := by simpa using hm
    rw [this, cond_true]
  have hm' : (decide (m < 0) || decide (4 < m)) = false := by simpa using hm
  obtain ⟨k, rfl⟩ : ∃ k : Nat, m = (k : Int) := ⟨m.toNat, by omega⟩
  have hk : k ≤ 4 := by omega
  rw [hm', cond_false, new5, some_bind, some_bind, ring_eq k (by omega) (by omega), some_bind, vnew_no (d0 5) (by rw [ringA_length]; omega) (find_out hk h), some_bind]
  show (nilO none).bind _ = _
  rw [show nilO (none : Option VltA) = some () from rfl, some_bind, some_bind, gen_out hk, h]
  rfl
/-! ### VaultMoves -/
theorem hold_Put {d : DevA} {p q : UInt32} {b : List UInt8} (hp : p.toNat < d.blocks.length) : hold { d with blocks := d.blocks.set p.toNat b, pend := mdel d.pend p } q = if p = q then b else hold d q := by
  unfold hold
  rw [mget_del]
  by_cases h : p = q
  · subst h
    rw [if_pos rfl, if_pos rfl]
    simp [hp]
  · rw [if_neg h, if_neg h]
    have : p.toNat ≠ q.toNat := fun e => h (UInt32.toNat_inj.1 e)
    simp [List.getElem?_set_ne this]
theorem DOk.put {N c : Nat} {d : DevA} (D : DOk N c d) {p : UInt32} {b : List UInt8} (hp : p.toNat < N) (hb : b.length = 256) :
    ∃ d', f_device_Device_Put d p b = some (0, d') ∧ DOk N c d' ∧ ∀ q, hold d' q = if p = q then b else hold d q := by
  refine ⟨_, put_eq (by rw [D.blen]; exact hp) hb, ⟨by rw [List.length_set]; exact D.blen, D.nle, D.on, D.uncut, D.good, ?_, D.cle⟩, fun q => hold_Put (by rw [D.blen]; exact hp)⟩
  have : (mdel d.pend p).length ≤ d.pend.length := List.length_filter_le ..
  exact Nat.le_trans this D.plen
theorem p_VaultMoves (T : List UInt32) (s t : List UInt8) : f_law13_VaultMoves 4200 T s t = some true := by
  obtain ⟨w, c, hm⟩ := made_eq (N := 6) (n := 4200) (by omega) (by omega) (by omega)
  have k1 := find1 (m := 2) (by omega) (by omega)
  have V0 := v0_ok (N := 6) (by omega)
  obtain ⟨v1, d1, b1, e1, V1, s1, t1, h1, H1, _, _⟩ := V0.write (T := T) (s := s.take 198) (by omega) k1 (cut_len s) 2 (by omega) (by omega) rfl (by omega)
  have T1 := fun q => taken_mput (q := q) t1
  obtain ⟨v2, d2, b2, e2, V2, s2, t2, h2, H2, _, _⟩ := V1.write (T := T) (s := t.take 198) (by omega) k1 (cut_len t) 3 (by omega) (by omega) (by rw [T1, if_neg (ofNat_ne (by omega) (by omega) (by omega))]; rfl) (fun x hx1 hx2 => by
    have hx : x = 2 := by omega
    rw [hx, T1, if_pos rfl])
  have H1' := H1.put h2 (ofNat_ne (i := 3) (j := 2) (by omega) (by omega) (by omega))
  have l1 := H1.len
  have l2 := H2.len
  have p1 : pageOf b1 = UInt32.ofNat 2 := H1.page
  have p2 : pageOf b2 = UInt32.ofNat 3 := H2.page
  have r1 : f_device_Device_Read d2 (UInt32.ofNat 2) = some (b1, 0) := by rw [V2.dev.read (by decide), H1'.is]
  have r2 : f_device_Device_Read d2 (UInt32.ofNat 3) = some (b2, 0) := by rw [V2.dev.read (by decide), H2.is]
  obtain ⟨d3, e3, D3, h3⟩ := V2.dev.put (p := UInt32.ofNat 2) (b := b2) (by decide) l2
  obtain ⟨d4, e4, D4, h4⟩ := D3.put (p := UInt32.ofNat 3) (b := b1) (by decide) l1
  have hne : UInt32.ofNat 3 ≠ UInt32.ofNat 2 := ofNat_ne (by omega) (by omega) (by omega)
  have q1 : f_device_Device_Read d4 (UInt32.ofNat 2) = some (b2, 0) := by rw [D4.read (by decide), h4, if_neg hne, h3, if_pos rfl]
  have q2 : f_device_Device_Read d4 (UInt32.ofNat 3) = some (b1, 0) := by rw [D4.read (by decide), h4, if_pos rfl]
  have hl : v2.ring.length ≤ 1099511627776 := by rw [V2.ring]; exact V2.rlen
  have z1 := read_at (T := T) (v := v2) (d := d4) (r := ⟨UInt32.ofNat 2, b2.drop 224⟩) (show 2 ≤ (UInt32.ofNat 2).toNat by decide) (by simp [l2]) q1 l2 hl
  have z2 := read_at (T := T) (v := v2) (d := d4) (r := ⟨UInt32.ofNat 3, b1.drop 224⟩) (show 2 ≤ (UInt32.ofNat 3).toNat by decide) (by simp [l1]) q2 l1 hl
  rw [if_neg (by rw [p2]; exact fun h => hne h.2)] at z1
  rw [if_neg (by rw [p1]; exact fun h => hne h.2.symm)] at z2
  unfold f_law13_VaultMoves
  rw [p_vshown T (Nat.le_refl _), some_bind, show (6 : Int) = ((6 : Nat) : Int) from rfl, hm, some_bind, some_bind, cut198, some_bind]
  show (f_vault_Vault_Write T v0 (d0 6) (s.take 198)).bind _ = _
  rw [e1, some_bind, cut198, some_bind]
  show (f_vault_Vault_Write T v1 d1 (t.take 198)).bind _ = _
  rw [e2, some_bind]
  show (f_device_Device_Read d2 (UInt32.ofNat 2)).bind _ = _
  rw [r1, some_bind]
  show (f_device_Device_Read d2 (UInt32.ofNat 3)).bind _ = _
  rw [r2, some_bind]
  show (f_device_Device_Put d2 (UInt32.ofNat 2) b2).bind _ = _
  rw [e3, some_bind]
  show (f_device_Device_Put d3 (UInt32.ofNat 3) b1).bind _ = _
  rw [e4, some_bind]
  show (f_vault_Vault_Read T v2 d4 ⟨UInt32.ofNat 2, b2.drop 224⟩).bind _ = _
  rw [z1, some_bind]
  show (f_vault_Vault_Read T v2 d4 ⟨UInt32.ofNat 3, b1.drop 224⟩).bind _ = _
  rw [z2, some_bind]
  rfl
/-! ### VaultTurns -/
theorem turn_eq {v : VltA} {d : DevA} {l : List KeyA} {g : UInt32} {k : KeyA} (hl : l.length ≤ 16) (h : findA l g = (k, 0)) : f_vault_Vault_Turn v d l g = some (0, { v with ring := l, gen := g }) := by
  unfold f_vault_Vault_Turn findO
  rw [if_pos (by omega), some_bind, h, appL_eq (by simp; omega) (by simp; omega), some_bind]
  rfl
theorem VS.turn {N c : Nat} {R R' : List KeyA} {g g' : UInt32} {v : VltA} {d : DevA} (V : VS N c R g v d) (h : R'.length ≤ 16) : VS N c R' g' { v with ring := R', gen := g' } d := ⟨V.dev, rfl, by omega, rfl, V.boot, V.tlen⟩
theorem open_nokey {T : List UInt32} {R : List KeyA} {k : KeyA} {h : HeadA} {s : List UInt8} (hs : s.length ≤ 198) (hr : rightA R = true) (hf : findA R h.gen = (key0, 41)) : openA T R (blkA T k h s) = (head0, [], 41) := by
  unfold openA
  rw [if_neg (by simp [hr]), if_neg (by simp [blkA_length _ _ _ hs]), blk_take24, getA_putA, if_neg (by simp), if_pos (by simp [hf]), hf]
theorem p_VaultTurns (T : List UInt32) (s t : List UInt8) : f_law13_VaultTurns 4200 T s t = some true := by
  obtain ⟨w, c, hm⟩ := made_eq (N := 6) (n := 4200) (by omega) (by omega) (by omega)
  have k1 := find1 (m := 2) (by omega) (by omega)
  have k2 := find2 (m := 2) (by omega) (by omega)
  have V0 := v0_ok (N := 6) (by omega)
  obtain ⟨v1, d1, b1, e1, V1, s1, t1, h1, H1, B1, _⟩ := V0.write (T := T) (s := s.take 198) (by omega) k1 (cut_len s) 2 (by omega) (by omega) rfl (by omega)
  have T1 := fun q => taken_mput (q := q) t1
  have f1 := turn_eq (v := v1) (d := d1) (by rw [ringA_length]; omega) k2
  have V1' := V1.turn (R' := ringA 2) (g' := 2) (by rw [ringA_length]; omega)
  obtain ⟨v2, d2, b2, e2, V2, s2, t2, h2, H2, B2, _⟩ := V1'.write (T := T) (s := t.take 198) (by omega) k2 (cut_len t) 3 (by omega) (by omega) (by
    show takenA v1 (UInt32.ofNat 3) = false
    rw [T1, if_neg (ofNat_ne (by omega) (by omega) (by omega))]
    rfl) (fun x hx1 hx2 => by
    have hx : x = 2 := by omega
    show takenA v1 (UInt32.ofNat x) = true
    rw [hx, T1, if_pos rfl])
  have H1' := H1.put h2 (ofNat_ne (i := 3) (j := 2) (by omega) (by omega) (by omega))
  obtain ⟨r1, r1g⟩ := V2.read H1' (by decide) (by decide)
  obtain ⟨r2, r2g⟩ := V2.read H2 (by decide) (by decide)
  have hright : rightA [keyN 1] = true := by
    have := (find_ok (l := ringA 2) (g := 2) (by rw [k2])).2.2.2
    rwa [k2] at this
  have kk : findA [keyN 1] 2 = (keyN 1, 0) := find_iff.2 ⟨hright, by simp, rfl⟩
  have kn : findA [keyN 1] 1 = (key0, 41) := findA_none hright fun k hk => by
    obtain rfl := List.mem_singleton.1 hk
    decide
  have f2 := turn_eq (v := v2) (d := d2) (l := [keyN 1]) (by simp) kk
  have V3 := V2.turn (R' := [keyN 1]) (g' := 2) (by simp)
  obtain ⟨r3, _⟩ := V3.read (H2.ringed (R' := [keyN 1]) (by rw [kk, k2])) (by decide) (by decide)
  have z1 := read_at (T := T) (v := { v2 with ring := [keyN 1], gen := 2 }) (d := d2) (r := ⟨UInt32.ofNat 2, b1.drop 224⟩) (b := b1) (show 2 ≤ (UInt32.ofNat 2).toNat by decide) (by simp [H1.len]) (by rw [V2.dev.read (show (UInt32.ofNat 2).toNat < 6 by decide), H1'.is]) H1.len (by simp)
  rw [if_pos ⟨rfl, H1.page⟩, B1] at z1
  have z2 := open_nokey (T := T) (R := [keyN 1]) (k := keyN 0) (h := ⟨UInt32.ofNat 2, 1, 7, v0.seals⟩) (cut_len s) hright kn
  rw [z2, ← B1] at z1
  have hring : f_law13_Ring 4200 2 = some (ringA 2) := ring_eq 2 (by omega) (by omega)
  have hcut : slcI (ringA 2) 1 ((ringA 2).length : Int) = some [keyN 1] := rfl
  unfold f_law13_VaultTurns
  rw [p_vshown T (Nat.le_refl _), some_bind, show (6 : Int) = ((6 : Nat) : Int) from rfl, hm, some_bind, some_bind, cut198, some_bind, cut198, some_bind]
  show (f_vault_Vault_Write T v0 (d0 6) (s.take 198)).bind _ = _
  rw [e1, some_bind, hring, some_bind]
  show (f_vault_Vault_Turn v1 d1 (ringA 2) 2).bind _ = _
  rw [f1, some_bind]
  show (f_vault_Vault_Write T { v1 with ring := ringA 2, gen := 2 } d1 (t.take 198)).bind _ = _
  rw [e2, some_bind]
  show (f_vault_Vault_Read T v2 d2 ⟨UInt32.ofNat 2, b1.drop 224⟩).bind _ = _
  rw [r1, some_bind]
  show (f_vault_Vault_Read T v2 d2 ⟨UInt32.ofNat 3, b2.drop 224⟩).bind _ = _
  rw [r2, some_bind]
  show (f_vault_Vault_Gen T v2 d2 ⟨UInt32.ofNat 2, b1.drop 224⟩).bind _ = _
  rw [r1g, some_bind]
  show (f_vault_Vault_Gen T v2 d2 ⟨UInt32.ofNat 3, b2.drop 224⟩).bind _ = _
  rw [r2g, some_bind, some_bind, hcut, some_bind, show ltI 1 (ringA 2).length = some () from rfl, some_bind]
  show (f_vault_Vault_Turn v2 d2 [keyN 1] 2).bind _ = _
  rw [f2, some_bind]
  show (f_vault_Vault_Read T { v2 with ring := [keyN 1], gen := 2 } d2 ⟨UInt32.ofNat 2, b1.drop 224⟩).bind _ = _
  rw [z1, some_bind]
  show (f_vault_Vault_Read T { v2 with ring := [keyN 1], gen := 2 } d2 ⟨UInt32.ofNat 3, b2.drop 224⟩).bind _ = _
  rw [r3, some_bind, ret_eq]
  simp
end Go.Proofs.YtddjneafgddlcaaDoor

/- The laws of layer 13, of the plain functions: VaultNumbers, VaultKeeps. No program's walk in sight. -/
namespace Go.Proofs.YtddjneafgddlcaaDoor
open Go

/-! ### VaultNumbers -/
theorem VS.super {T : List UInt32} {N c : Nat} {R : List KeyA} {g : UInt32} {v : VltA} {d : DevA} (V : VS N c R g v d) (hc : c + 1 ≤ 100) {k : KeyA} (hk : findA R g = (k, 0)) {s : List UInt8} (hs : s.length ≤ 198) (p : UInt32) (hp : p.toNat < 2) (hN : 4 ≤ N) :
    ∃ v' d' b, f_vault_Vault_Super T v d p s = some (b.drop 224, 0, v', d') ∧ VS N (c + 1) R g v' d' ∧ v'.seals = v.seals + 1 ∧ hold d' p = b ∧ b = blkA T k ⟨p, g, 7, v.seals⟩ s ∧ b.length = 256 := by
  have hh : hd v p = ⟨p, g, 7, v.seals⟩ := by simp only [hd, V.gen, V.boot]
  have hb := blkA_length T k (hd v p) hs
  have hw := seal_at (T := T) V.dev hc (by rw [V.ring]; exact V.rlen) (by rw [V.ring, V.gen]; exact hk) (show p.toNat < N by omega) hs
  refine ⟨{ v with seals := v.seals + 1 }, { d with counts := wI (d.counts + 1), pend := mput d.pend p (blkA T k (hd v p) s) }, blkA T k (hd v p) s, ?_, ⟨(V.dev.write hc (show p.toNat < N by omega) hb).2, V.ring, V.rlen, V.gen, V.boot, Nat.le_succ_of_le V.tlen⟩, rfl, by rw [hold_put, if_pos rfl], by rw [hh], hb⟩
  unfold f_vault_Vault_Super
  have h1 : decide ((2 : UInt32) ≤ p) = false := by rw [decide_eq_false_iff_not, UInt32.le_iff_toNat_le]; exact Nat.not_le.2 hp
  rw [ret_eq, h1, cond_false, ret_eq, decide_eq_false (by omega), cond_false, hw, some_bind]
theorem lePut_take1 (x : UInt64) (r : List UInt8) : (lePut x 8 ++ r).take 1 = [x.toUInt8] := by
  have : shr64 x (8 * 0) = x := by
    apply UInt64.toNat_inj.1
    rw [shr64_nat _ _ (by decide)]
    simp
  have h : lePut x 8 = (shr64 x (8 * 0)).toUInt8 :: ((List.range 7).map fun i => (shr64 x (8 * (i + 1))).toUInt8) := by
    unfold lePut
    rw [List.range_succ_eq_map, List.map_cons, List.map_map]
    rfl
  rw [h, this]
  rfl
theorem blk_bytes (T : List UInt32) (k : KeyA) (p g : UInt32) (q : UInt64) (s : List UInt8) : (blkA T k ⟨p, g, 7, q⟩ s).take 4 = lePut p.toUInt64 4 ∧ ((blkA T k ⟨p, g, 7, q⟩ s).drop 8).take 5 = [7, 0, 0, 0, q.toUInt8] := by
  rw [blkA, boundA, putA_eq]
  simp only [List.append_assoc]
  constructor
  · rw [List.take_append_of_le_length (by rw [lePut_length]; omega), List.take_of_length_le (by rw [lePut_length]; omega)]
  · rw [show 8 = 4 + 4 from rfl, ← List.drop_drop, drop_lePut, drop_lePut]
    have h7 : lePut (7 : UInt32).toUInt64 4 = [7, 0, 0, 0] := by decide
    rw [h7]
    show 7 :: 0 :: 0 :: 0 :: (List.take 1 (lePut q 8 ++ _)) = _
    rw [lePut_take1]
theorem p_VaultNumbers (T : List UInt32) (l : List (List UInt8)) : f_law13_VaultNumbers 4200 T l = some true := by
  obtain ⟨w, c, hm⟩ := made_eq (N := 4) (n := 4200) (by omega) (by omega) (by omega)
  have k1 := find1 (m := 2) (by omega) (by omega)
  have V0 := v0_ok (N := 4) (by omega)
  unfold f_law13_VaultNumbers
  rw [p_vshown T (Nat.le_refl _), some_bind, show (4 : Int) = ((4 : Nat) : Int) from rfl, hm, some_bind, some_bind]
  unfold f_law13_VaultNumbers_l1
  refine loop_inv (P := fun i x => ∃ (v : VltA) (d : DevA), x = (d.off, d.isCut, d.lasts, d.counts, d.blocks, d.pend, d.bad, d.rcnt, d.rtag, d.rboots, v.ring, v.gen, v.boot, v.seals, v.taken, (i : Int)) ∧ VS 4 i (ringA 2) 1 v d ∧ v.seals = UInt64.ofNat i)
    (min l.length 10) ?_ ?_ (by omega) ⟨v0, d0 4, rfl, V0, rfl⟩
  · rintro i x hi ⟨v, d, rfl, V, hq⟩
    have hc : (decide ((i : Int) < (l.length : Int)) && decide ((i : Int) < 10)) = true := by simp; omega
    have hg : i < l.length := by omega
    have hp : toU32 (((i % 2 : Nat) : Int)) = UInt32.ofNat (i % 2) := by
      unfold toU32
      congr 1
      omega
    have hp2 : (UInt32.ofNat (i % 2)).toNat < 2 := by simp; omega
    obtain ⟨v', d', b, e1, V', s1, h1, B1, l1⟩ := V.super (T := T) (by omega) k1 (cut_len l[i]) (UInt32.ofNat (i % 2)) hp2 (by omega)
    have r1 : f_device_Device_Read d' (UInt32.ofNat (i % 2)) = some (b, 0) := by rw [V'.dev.read (by omega), h1]
    obtain ⟨z1, z2⟩ := blk_bytes T (keyN 0) (UInt32.ofNat (i % 2)) 1 v.seals (l[i].take 198)
    rw [← B1] at z1 z2
    have hrem : remI (i : Int) 2 = some (((i % 2 : Nat) : Int)) := remI_of (b := 2) (by omega)
    have g1 : slcI b 0 4 = some (b.take 4) := by
      unfold slcI
      rw [if_pos ⟨by omega, by omega, by omega⟩]
      rfl
    have g2 : slcI b 8 13 = some ((b.drop 8).take 5) := by
      unfold slcI
      rw [if_pos ⟨by omega, by omega, by omega⟩]
      rfl
    have y1 : lePut (UInt32.ofNat (i % 2)).toUInt64 4 = [toU8 ((i % 2 : Nat) : Int), 0, 0, 0] := by
      rcases Nat.mod_two_eq_zero_or_one i with h | h <;> rw [h] <;> decide
    have y2 : v.seals.toUInt8 = toU8 (i : Int) := by
      rw [hq]
      apply UInt8.toNat_inj.1
      simp only [toU8, UInt64.toNat_toUInt8, UInt64.toNat_ofNat', UInt8.toNat_ofNat']
      omega
    have y3 : v'.seals = toU64 (wI ((i : Int) + 1)) := by
      rw [s1, hq, wI_eq (by omega) (by omega)]
      apply UInt64.toNat_inj.1
      simp only [toU64, UInt64.toNat_add, UInt64.toNat_ofNat']
      have : (1 : UInt64).toNat = 1 := rfl
      omega
    refine ⟨_, ⟨v', d', rfl, V', ?_⟩, fun k => ?_⟩
    · rw [s1, hq]
      apply UInt64.toNat_inj.1
      simp only [UInt64.toNat_add, UInt64.toNat_ofNat']
      have : (1 : UInt64).toNat = 1 := rfl
      omega
    · simp only [f_law13_VaultNumbers_l1_b]
      rw [hc]
      rw [show (true && true) = true from rfl, cond_true, hrem, some_bind, nthI_nat, List.getElem?_eq_getElem hg, some_bind, some_bind, cut198, some_bind, hp]
      show (f_vault_Vault_Super T v d (UInt32.ofNat (i % 2)) (l[i].take 198)).bind _ = _
      rw [e1, some_bind, some_bind, hp]
      show (f_device_Device_Read d' (UInt32.ofNat (i % 2))).bind _ = _
      rw [r1, some_bind]
      rw [g1, g2, z1, z2, y1, y2, l1]
      unfold f_vault_Vault_Seals
      rw [y3, ret_eq, wI_eq (x := (i : Int) + 1) (by omega) (by omega)]
      simp [orO]
  · rintro x ⟨v, d, rfl, V, hq⟩ k
    have hc : (decide (((min l.length 10 : Nat) : Int) < (l.length : Int)) && decide (((min l.length 10 : Nat) : Int) < 10)) = false := by simp; omega
    simp only [f_law13_VaultNumbers_l1_b]
    rw [hc]
    rfl
/-! ### VaultKeeps -/
/-- what the first places hold -/
def kPage (j : Nat) : UInt32 := UInt32.ofNat (j + 2)
theorem kPage_nat {j : Nat} (h : j < 100) : (kPage j).toNat = j + 2 := by simp [kPage]; omega
theorem kPage_ne {i j : Nat} (hi : i < 100) (hj : j < 100) (h : i ≠ j) : kPage i ≠ kPage j := ofNat_ne (by omega) (by omega) (by omega)
structure Kept (T : List UInt32) (l : List (List UInt8)) (i : Nat) (v : VltA) (d : DevA) (rs : List RefA) (hs : List (List UInt8)) : Prop where
  ok : VS 16 i (ringA 2) 1 v d
  tk : ∀ j, j < 14 → takenA v (kPage j) = decide (j < i)
  tl : v.taken.length = i
  tks : ∀ q ∈ v.taken, ∃ j, j < i ∧ q.1 = kPage j
  rlen : rs.length = i
  hlen : hs.length = i
  held : ∀ j, j < i → ∃ s b q, hs[j]? = some s ∧ rs[j]? = some ⟨kPage j, b.drop 224⟩ ∧ Held T (ringA 2) d (kPage j) 1 q s b
theorem kept0 (T : List UInt32) (l : List (List UInt8)) : Kept T l 0 v0 (d0 16) [] [] := ⟨v0_ok (by omega), fun j _ => rfl, rfl, fun q hq => (List.not_mem_nil hq).elim, rfl, rfl, fun j hj => (Nat.not_lt_zero _ hj).elim⟩
theorem Kept.next {T : List UInt32} {l : List (List UInt8)} {i : Nat} {v : VltA} {d : DevA} {rs : List RefA} {hs : List (List UInt8)} (K : Kept T l i v d rs hs) (hi : i < 14) {s : List UInt8} (hl : s.length ≤ 198) :
    ∃ v' d' r, f_vault_Vault_Write T v d s = some (r, 0, v', d') ∧ Kept T l (i + 1) v' d' (rs ++ [r]) (hs ++ [s]) := by
  have k1 := find1 (m := 2) (by omega) (by omega)
  obtain ⟨v', d', b, e1, V', s1, t1, h1, H1, _, _⟩ := K.ok.write (T := T) (s := s) (by omega) k1 hl (i + 2) (by omega) (by omega) (by
    rw [show UInt32.ofNat (i + 2) = kPage i from rfl, K.tk i hi, decide_eq_false (by omega)]) (fun x hx1 hx2 => by
    have := K.tk (x - 2) (by omega)
    rw [show kPage (x - 2) = UInt32.ofNat x by unfold kPage; congr 1; omega] at this
    rw [this, decide_eq_true_eq]
    omega)
  have hne : ∀ q ∈ v.taken, q.1 ≠ UInt32.ofNat (i + 2) := fun q hq => by
    obtain ⟨j, hj, e⟩ := K.tks q hq
    rw [e]
    exact kPage_ne (by omega) (by omega) (by omega)
  have ht : v'.taken = (UInt32.ofNat (i + 2), true) :: v.taken := by
    rw [t1, mput, mdel_all hne]
  refine ⟨v', d', _, e1, V', fun j hj => ?_, by rw [ht, List.length_cons, K.tl], fun q hq => ?_, by simp [K.rlen], by simp [K.hlen], fun j hj => ?_⟩
  · rw [taken_mput t1, K.tk j hj]
    change (if kPage i = kPage j then true else decide (j < i)) = _
    by_cases e : j = i
    · subst e
      rw [if_pos rfl]
      simp
    · rw [if_neg (kPage_ne (i := i) (j := j) (by omega) (by omega) (by omega)), decide_eq_decide]
      omega
  · rw [ht] at hq
    rcases List.mem_cons.1 hq with rfl | hq
    · exact ⟨i, by omega, rfl⟩
    · obtain ⟨j, hj, e⟩ := K.tks q hq
      exact ⟨j, by omega, e⟩
  · by_cases e : j = i
    · subst e
      refine ⟨s, b, v.seals, ?_, ?_, H1⟩
      · rw [List.getElem?_append_right (by rw [K.hlen]; omega), K.hlen]
        simp
      · rw [List.getElem?_append_right (by rw [K.rlen]; omega), K.rlen]
        simp [kPage]
    · obtain ⟨s0, b0, q0, g1, g2, g3⟩ := K.held j (by omega)
      refine ⟨s0, b0, q0, ?_, ?_, g3.put h1 (kPage_ne (i := i) (by omega) (by omega) (by omega))⟩
      · rw [List.getElem?_append_left (by rw [K.hlen]; omega), g1]
      · rw [List.getElem?_append_left (by rw [K.rlen]; omega), g2]
theorem Kept.full {T : List UInt32} {l : List (List UInt8)} {v : VltA} {d : DevA} {rs : List RefA} {hs : List (List UInt8)} (K : Kept T l 14 v d rs hs) {s : List UInt8} (hl : s.length ≤ 198) : f_vault_Vault_Write T v d s = some (⟨0, []⟩, 110, v, d) :=
  write_full K.ok.dev hl fun x h1 h2 => by
    have := K.tk (x - 2) (by omega)
    rw [show kPage (x - 2) = UInt32.ofNat x by unfold kPage; congr 1; omega] at this
    rw [this, decide_eq_true_eq]
    omega
/-- all is read -/
theorem Kept.reads {T : List UInt32} {l : List (List UInt8)} {i : Nat} {v : VltA} {d : DevA} {rs : List RefA} {hs : List (List UInt8)} {y2 : Option (VltA × DevA × RVltA × RDevA) × Bool} (K : Kept T l i v d rs hs) (hi : i ≤ 14) (hy : y2.2 = true) {n : Nat} (hn : 4200 ≤ n) :
    f_law13_VaultKeeps_j1 n T true y2 d.off d.isCut d.lasts d.counts d.blocks d.pend d.bad d.rcnt d.rtag d.rboots v.ring v.gen v.boot v.seals v.taken rs hs = some true := by
  unfold f_law13_VaultKeeps_j1 f_law13_VaultKeeps_l2
  refine loop_all (fun j => (j : Int)) i ?_ ?_ (by omega)
  · intro j hj k
    obtain ⟨s, b, q, g1, g2, H⟩ := K.held j hj
    obtain ⟨r1, r2⟩ := K.ok.read H (by rw [kPage_nat (by omega)]; omega) (by rw [kPage_nat (by omega)]; omega)
    simp only [f_law13_VaultKeeps_l2_b]
    rw [K.rlen, decide_eq_true (by omega), cond_true, nthI_nat, g2, some_bind]
    show (f_vault_Vault_Read T v d ⟨kPage j, b.drop 224⟩).bind _ = _
    rw [r1, some_bind, some_bind]
    show (f_vault_Vault_Gen T v d ⟨kPage j, b.drop 224⟩).bind _ = _
    rw [r2, some_bind, nthI_nat, g1]
    dsimp only
    rw [ret_eq, wI_eq (by omega) (by omega)]
    simp [orO]
  · intro k
    simp only [f_law13_VaultKeeps_l2_b]
    rw [K.rlen, decide_eq_false (by omega), cond_false]
    unfold f_law13_VaultKeeps_j2 f_vault_Vault_Free f_device_Device_Blocks
    rw [K.rlen, K.tl, K.ok.dev.blen, some_bind, ret_eq, hy, wI_eq (x := ((16 : Nat) : Int) - 2) (by omega) (by omega), wI_eq (by omega) (by omega), wI_eq (by omega) (by omega), some_bind]
    have : decide (((16 : Nat) : Int) - 2 - (i : Int) = 14 - (i : Int)) = true := by rw [decide_eq_true_eq]; omega
    rw [this]
    rfl
theorem p_VaultKeeps (T : List UInt32) (l : List (List UInt8)) {n : Nat} (hn : 4200 ≤ n) : f_law13_VaultKeeps n T l = some true := by
  obtain ⟨w, c, hm⟩ := made_eq (N := 16) (n := n) (by omega) (by omega) hn
  unfold f_law13_VaultKeeps
  rw [p_vshown T hn, some_bind, show (16 : Int) = ((16 : Nat) : Int) from rfl, hm, some_bind, some_bind]
  unfold f_law13_VaultKeeps_l1
  refine loop_inv (P := fun i x => ∃ (v : VltA) (d : DevA) (rs : List RefA) (hs : List (List UInt8)), x = (d.off, d.isCut, d.lasts, d.counts, d.blocks, d.pend, d.bad, d.rcnt, d.rtag, d.rboots, v.ring, v.gen, v.boot, v.seals, v.taken, rs, hs, (i : Int)) ∧ Kept T l i v d rs hs)
    (min l.length 14) ?_ ?_ (by omega) ⟨v0, d0 16, [], [], rfl, kept0 T l⟩
  · rintro i x hi ⟨v, d, rs, hs, rfl, K⟩
    have hc : (decide ((i : Int) < (l.length : Int)) && decide ((i : Int) < 15)) = true := by simp; omega
    have hg : i < l.length := by omega
    obtain ⟨v', d', r, e1, K'⟩ := K.next (by omega) (cut_len l[i])
    refine ⟨_, ⟨v', d', _, _, rfl, K'⟩, fun k => ?_⟩
    simp only [f_law13_VaultKeeps_l1_b]
    rw [hc, show (true && true) = true from rfl, cond_true, nthI_nat, List.getElem?_eq_getElem hg, some_bind, some_bind, cut198, some_bind]
    show (f_vault_Vault_Write T v d (l[i].take 198)).bind _ = _
    rw [e1, some_bind, K.rlen, decide_eq_false (by omega), cond_false]
    dsimp only
    rw [appL_eq (by simp [K.rlen]; omega) (by simp [K.rlen]; omega), some_bind, appL_eq (by simp [K.hlen]; omega) (by simp [K.hlen]; omega), some_bind, ret_eq, wI_eq (by omega) (by omega)]
    rfl
  · rintro x ⟨v, d, rs, hs, rfl, K⟩ k
    simp only [f_law13_VaultKeeps_l1_b]
    by_cases h14 : l.length ≤ 14
    · have hc : (decide (((min l.length 14 : Nat) : Int) < (l.length : Int)) && decide (((min l.length 14 : Nat) : Int) < 15)) = false := by simp; omega
      rw [hc]
      exact K.reads (by omega) rfl hn
    · have hN : min l.length 14 = 14 := by omega
      have hc : (decide (((min l.length 14 : Nat) : Int) < (l.length : Int)) && decide (((min l.length 14 : Nat) : Int) < 15)) = true := by simp; omega
      rw [hN] at K
      have hg : 14 < l.length := by omega
      have e1 := K.full (cut_len l[14])
      rw [hc, hN, show (true && true) = true from rfl, cond_true, nthI_nat, List.getElem?_eq_getElem hg, some_bind, some_bind, cut198, some_bind]
      show (f_vault_Vault_Write T v d (l[14].take 198)).bind _ = _
      rw [e1, some_bind, K.rlen]
      exact K.reads (by omega) rfl hn
end Go.Proofs.YtddjneafgddlcaaDoor
