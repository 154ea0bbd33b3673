/- The texts Y3, RD0, RD1, one behind the other, of the proof of RDKeeps: each bears its own sentence. Conditions: as each says. -/
import Derived.Test.YtmnmepaopodblaaDK1
import Derived.Test.YtmnmepaopodblaaDK2
import Derived.Test.YtmnmepaopodblaaDK3
import Derived.Test.YtmnmepaopodblaaDK4
import Derived.Test.YtmnmepaopodblaaRows
import Derived.WalkKit
import Derived.ProofKit
import Derived.OpenShut
import Derived.Carry
import Derived.JoinedOf
import Derived.SliceStrings
import Derived.Deep.Slices
import Derived.HandedShaped

/- The laws of layer 7, of the plain functions: DeviceCuts, DeviceCounts, DeviceKeeps. No program's walk in sight. -/
namespace Go.Proofs.Ytmnmepaopodblaa
open Go

theorem loop_inv {α β : Type} {F : (α → Option β) → α → Option β} (P : Nat → α → Prop) (N : Nat) {z : Option β} (hs : ∀ i x, i < N → P i x → ∃ x', P (i + 1) x' ∧ ∀ k, F k x = k x') (he : ∀ x, P N x → ∀ k, F k x = z) {m : Nat} (hm : N < m) {x : α} (h0 : P 0 x) : loopN F m x = z := by
  have key : ∀ d i m x, i + d = N → d < m → P i x → loopN F m x = z := by
    intro d
    induction d with
    | zero =>
      intro i m x hi hm hp
      obtain rfl : i = N := by omega
      obtain ⟨m, rfl⟩ : ∃ k, m = k + 1 := ⟨m - 1, by omega⟩
      exact he x hp _
    | succ d ih =>
      intro i m x hi hm hp
      obtain ⟨m, rfl⟩ : ∃ k, m = k + 1 := ⟨m - 1, by omega⟩
      obtain ⟨x', hp', hx⟩ := hs i x (by omega) hp
      show F (loopN F m) x = z
      rw [hx]
      exact ih (i + 1) m x' (by omega) (by omega) hp'
  exact key N 0 m x (by omega) hm h0
theorem dev_eta (d : DevA) : ({ off := d.off, isCut := d.isCut, lasts := d.lasts, counts := d.counts, blocks := d.blocks, pend := d.pend, bad := d.bad, rcnt := d.rcnt, rtag := d.rtag, rboots := d.rboots } : DevA) = d := rfl
theorem Inv.of {N : Nat} {d d' : DevA} (I : Inv N d) (h1 : d'.blocks = d.blocks) (h2 : d'.pend = d.pend) : Inv N d' := ⟨by rw [h1]; exact I.blen, by rw [h1]; exact I.b256, by rw [h2]; exact I.knd, by rw [h2]; exact I.klt⟩
theorem Inv.put {N : Nat} {d d' : DevA} {p : UInt32} {s : List UInt8} (I : Inv N d) (hp : p.toNat < N) (hs : s.length = 256) (h1 : d'.blocks = d.blocks) (h2 : d'.pend = mput d.pend p s) : Inv N d' :=
  ⟨by rw [h1]; exact I.blen, by rw [h1]; exact I.b256, by rw [h2]; exact mput_nodup I.knd, by
    rw [h2]
    intro q hq
    rcases List.mem_cons.1 hq with rfl | hq
    · exact ⟨hp, hs⟩
    · exact I.klt q (List.mem_filter.1 hq).1⟩
theorem okR_on {d r : DevA} (h : pOn d = true) : okR d r = (0, r) := by simp [okR, h]
theorem okR_off {d r : DevA} (h : pOn d = false) : okR d r = (71, pDead d) := by simp [okR, h]
theorem p_DeviceCuts (p0 : Int) (p1 : List (List UInt8)) : ∃ n, f_law07_DeviceCuts n p0 p1 = some true := by
  refine ⟨31, ?_⟩
  unfold f_law07_DeviceCuts
  rw [p_shown, some_bind]
  by_cases hr : p0 < 0 ∨ 30 < p0
  · have : (decide (p0 < 0) || decide (30 < p0)) = true := by simpa using hr
    rw [this, cond_true]
  have hr' : (decide (p0 < 0) || decide (30 < p0)) = false := by simpa using hr
  rw [hr', cond_false, new4, some_bind, some_bind, cut_eq, some_bind]
  obtain ⟨hb1, hb2⟩ := zBs 4
  generalize List.replicate 4 zB = bl at hb1 hb2 ⊢
  obtain ⟨c, rfl⟩ : ∃ c : Nat, p0 = (c : Int) := ⟨p0.toNat, by omega⟩
  refine loop_inv (P := fun i x => ∃ d : DevA, x = (d.off, d.isCut, d.lasts, d.counts, d.blocks, d.pend, d.bad, d.rcnt, d.rtag, d.rboots, ((min c i : Nat) : Int), (i : Int)) ∧ Inv 4 d ∧ d.isCut = true ∧ d.lasts = ((c - min c i : Nat) : Int) ∧ d.off = decide (c < i) ∧ d.bad = [])
    (min p1.length 30) ?_ ?_ (by omega) ⟨{ D7 false false 0 0 bl [] [] with isCut := true, lasts := (c : Int) }, ?_, ⟨hb1, hb2, List.nodup_nil, fun q hq => by cases hq⟩, rfl, by simp, by simp, rfl⟩
  · rintro i x hi ⟨d, rfl, I, h1, h2, h3, h4⟩
    have hc : (decide ((i : Int) < (p1.length : Int)) && decide ((i : Int) < 30)) = true := by simp; omega
    have hg : i < p1.length := by omega
    have hm : (toU32 ((i : Int).tmod 4)).toNat = i % 4 := by
      have : (i : Int).tmod 4 = ((i % 4 : Nat) : Int) := by rw [Int.tmod_eq_emod_of_nonneg (by omega)]; omega
      rw [this]
      simp only [toU32, UInt32.toNat_ofNat']
      omega
    have hlt : (toU32 ((i : Int).tmod 4)).toNat < d.blocks.length := by rw [hm, I.blen]; omega
    have hpl : d.pend.length < 9223372036854775807 := by have := I.plen; omega
    have hF := fillA_length p1[i]
    by_cases hic : i < c
    · have hon : pOn d = true := by
        have e1 : d.lasts ≠ 0 := by rw [h2]; omega
        have e2 : d.off = false := by rw [h3]; simp; omega
        simp [pOn, e1, e2]
      refine ⟨_, ⟨{ pTick d with pend := mput d.pend (toU32 ((i : Int).tmod 4)) (fillA p1[i]) }, rfl, I.put (by rw [hm]; omega) hF rfl rfl, h1, ?_, ?_, h4⟩, fun k => ?_⟩
      · show (if d.isCut then wI (d.lasts - 1) else d.lasts) = _
        rw [h1, h2, if_pos rfl, wI_eq (by omega) (by omega)]
        omega
      · show d.off = _
        rw [h3]
        have e1 : ¬ (c < i) := by omega
        have e2 : ¬ (c < i + 1) := by omega
        simp [e1, e2]
      · show f_law07_DeviceCuts_l1_b (c : Int) p1 true _ k d.off d.isCut d.lasts d.counts d.blocks d.pend d.bad d.rcnt d.rtag d.rboots ((min c i : Nat) : Int) (i : Int) = _
        unfold f_law07_DeviceCuts_l1_b
        rw [hc, cond_true]
        have hq : remI (i : Int) 4 = some ((i : Int).tmod 4) := rfl
        rw [hq, some_bind, nthI_nat, List.getElem?_eq_getElem hg, some_bind, filled_eq, some_bind, dev_eta d, write_eq hlt hF hpl, some_bind, okR_on hon]
        simp only [decide_true, cond_true, ret_eq]
        unfold f_law07_DeviceCuts_j2
        rw [ret_eq, wI_eq (by omega) (by omega), wI_eq (by omega) (by omega)]
        have e1 : ((min c i : Nat) : Int) + 1 = ((min c (i + 1) : Nat) : Int) := by omega
        rw [e1]
        rfl
    · have hon : pOn d = false := by
        have e1 : d.lasts = 0 := by rw [h2]; omega
        simp [pOn, e1, h1]
      refine ⟨_, ⟨pDead d, rfl, I.of rfl rfl, h1, ?_, ?_, h4⟩, fun k => ?_⟩
      · show d.lasts = _
        rw [h2]
        omega
      · show true = _
        have e2 : c < i + 1 := by omega
        simp [e2]
      · show f_law07_DeviceCuts_l1_b (c : Int) p1 true _ k d.off d.isCut d.lasts d.counts d.blocks d.pend d.bad d.rcnt d.rtag d.rboots ((min c i : Nat) : Int) (i : Int) = _
        unfold f_law07_DeviceCuts_l1_b
        rw [hc, cond_true]
        have hq : remI (i : Int) 4 = some ((i : Int).tmod 4) := rfl
        rw [hq, some_bind, nthI_nat, List.getElem?_eq_getElem hg, some_bind, filled_eq, some_bind, dev_eta d, write_eq hlt hF hpl, some_bind, okR_off hon]
        have e0 : decide ((71 : Int) = 0) = false := by decide
        simp only [e0, decide_true, Bool.not_true, cond_false]
        unfold f_law07_DeviceCuts_j2
        rw [ret_eq, wI_eq (by omega) (by omega)]
        have e1 : min c i = min c (i + 1) := by omega
        rw [e1]
        rfl
  · rintro x ⟨d, rfl, I, h1, h2, h3, h4⟩ k
    have hc : (decide (((min p1.length 30 : Nat) : Int) < (p1.length : Int)) && decide (((min p1.length 30 : Nat) : Int) < 30)) = false := by simp; omega
    show f_law07_DeviceCuts_l1_b (c : Int) p1 true _ k d.off d.isCut d.lasts d.counts d.blocks d.pend d.bad d.rcnt d.rtag d.rboots _ _ = _
    unfold f_law07_DeviceCuts_l1_b
    rw [hc, cond_false]
    unfold f_law07_DeviceCuts_j1
    rw [dev_eta d, read_eq (by rw [I.blen]; decide), some_bind, h4, ret_eq]
    have e1 : ((min c (min p1.length 30) : Nat) : Int) = min (c : Int) (min (p1.length : Int) 30) := by omega
    rw [e1, h3]
    by_cases hh : c < min p1.length 30
    · have e2 : (c : Int) < min (p1.length : Int) 30 := by omega
      simp [hh, e2]
    · have e2 : ¬ ((c : Int) < min (p1.length : Int) 30) := by omega
      simp [hh, e2, mget]
  · have e1 : decide ((0 : Int) ≤ (c : Int)) = true := by simp
    have e2 : max (c : Int) 0 = (c : Int) := by omega
    rw [e1, e2]
    simp
theorem p_DeviceCounts (p0 : List (List UInt8)) : ∃ n, f_law07_DeviceCounts n p0 = some true := by
  refine ⟨51, ?_⟩
  unfold f_law07_DeviceCounts
  rw [p_shown, some_bind, new4, some_bind, some_bind, zeros_eq (by omega) (by omega), some_bind]
  obtain ⟨hb1, hb2⟩ := zBs 4
  generalize List.replicate 4 zB = bl at hb1 hb2 ⊢
  refine loop_inv (P := fun i x => ∃ d : DevA, x = (d.off, d.isCut, d.lasts, d.counts, d.blocks, d.pend, d.bad, d.rcnt, d.rtag, d.rboots, d.rtag, d.rboots, (i : Int)) ∧ d.off = false ∧ d.isCut = false ∧ d.blocks.length = 4 ∧ (∀ s ∈ d.blocks, s.length = 256) ∧ d.pend = [] ∧ d.rcnt = UInt64.ofNat i ∧ d.rboots.toNat ≤ i)
    (min p0.length 50) ?_ ?_ (by omega) ⟨D7 false false 0 0 bl [] [], rfl, rfl, rfl, hb1, hb2, rfl, rfl, Nat.le_refl _⟩
  · rintro i x hi ⟨d, rfl, h1, h2, h3, h4, h5, h6, h7⟩
    have hc : (decide ((i : Int) < (p0.length : Int)) && decide ((i : Int) < 50)) = true := by simp; omega
    have hg : i < p0.length := by omega
    have hF := fillA_length p0[i]
    -- behind the start
    have key : ∀ (d : DevA), d.off = false → d.isCut = false → d.blocks.length = 4 → (∀ s ∈ d.blocks, s.length = 256) → d.pend = [] → d.rcnt = UInt64.ofNat i → d.rboots.toNat ≤ i + 1 → ∀ F : List UInt8, F.length = 256 →
        ∃ d' : DevA, (d'.off = false ∧ d'.isCut = false ∧ d'.blocks.length = 4 ∧ (∀ s ∈ d'.blocks, s.length = 256) ∧ d'.pend = [] ∧ d'.rcnt = UInt64.ofNat (i + 1) ∧ d'.rboots.toNat ≤ i + 1) ∧
          ∀ k, f_law07_DeviceCounts_j2 (i : Int) F k d.off d.isCut d.lasts d.counts d.blocks d.pend d.bad d.rcnt d.rtag d.rboots d.rboots = k (d'.off, d'.isCut, d'.lasts, d'.counts, d'.blocks, d'.pend, d'.bad, d'.rcnt, d'.rtag, d'.rboots, d'.rtag, d'.rboots, ((i + 1 : Nat) : Int)) := by
      intro d h1 h2 h3 h4 h5 h6 h7 F hF
      let d1 : DevA := { d with blocks := d.blocks.set 1 F, pend := [] }
      let d2 : DevA := { pTick d1 with rcnt := d1.rcnt + 1, rtag := F.take 32 }
      let d3 : DevA := { d2 with off := false, isCut := false, lasts := 0, blocks := d1.blocks, pend := [] }
      have hb1 : d1.blocks.length = 4 := by show (d.blocks.set 1 F).length = 4; rw [List.length_set, h3]
      have hb2 : ∀ s ∈ d1.blocks, s.length = 256 := fun s hs => by
        rcases List.mem_or_eq_of_mem_set hs with hs | rfl
        · exact h4 s hs
        · exact hF
      refine ⟨d3, ⟨rfl, rfl, hb1, hb2, rfl, ?_, h7⟩, fun k => ?_⟩
      · show d.rcnt + 1 = _
        rw [h6]
        exact (UInt64.ofNat_add i 1).symm
      · unfold f_law07_DeviceCounts_j2
        rw [dev_eta d, put_eq (by rw [h3]; decide) hF, some_bind]
        have e1 : ({ d with blocks := d.blocks.set (1 : UInt32).toNat F, pend := mdel d.pend 1 } : DevA) = d1 := by rw [h5]; rfl
        have hs : slcI F 0 32 = some (F.take 32) := by
          unfold slcI
          rw [if_pos ⟨by omega, by omega, by omega⟩]
          rfl
        have hne : d1.rcnt ≠ 18446744073709551615 := by
          show d.rcnt ≠ _
          rw [h6]
          intro e
          have := congrArg UInt64.toNat e
          rw [UInt64.toNat_ofNat'] at this
          have h9 : (18446744073709551615 : UInt64).toNat = 18446744073709551615 := by decide
          omega
        have hon : pOn d1 = true := by
          show (!(d.isCut && decide (d.lasts = 0) || d.off)) = true
          rw [h1, h2]; rfl
        rw [e1, hs, some_bind, advance_eq (by simp; omega) hne, some_bind, okR_on hon]
        show ((f_device_Device_Wake d2 []).bind _) = _
        have I : Inv 4 d2 := ⟨hb1, hb2, List.nodup_nil, fun q hq => by cases hq⟩
        rw [wake_eq I (by omega), some_bind]
        have e2 : ({ d2 with off := false, isCut := false, lasts := 0, blocks := wakeB d2.pend [] d2.blocks, pend := [] } : DevA) = d3 := by
          show ({ d2 with off := false, isCut := false, lasts := 0, blocks := wakeB [] [] d1.blocks, pend := [] } : DevA) = d3
          rw [wake0]
        rw [e2]
        have e0 : (!decide ((0 : Int) = 0) || !decide ((0 : Int) = 0) || !decide ((0 : Int) = 0)) = false := by decide
        rw [e0, cond_false, some_bind, ret_eq, wI_eq (by omega) (by omega)]
        rfl
    by_cases hq : p0[i].length % 2 = 0
    · have hon : pOn d = true := by
        show (!(d.isCut && decide (d.lasts = 0) || d.off)) = true
        rw [h1, h2]; rfl
      have hne : d.rboots ≠ 4294967295 := by
        intro e
        have := congrArg UInt32.toNat e
        have h9 : (4294967295 : UInt32).toNat = 4294967295 := by decide
        omega
      have hb : (d.rboots + 1).toNat ≤ i + 1 := by
        rw [UInt32.toNat_add]
        have : (1 : UInt32).toNat = 1 := rfl
        omega
      obtain ⟨d', hd', hk⟩ := key { pTick d with rboots := d.rboots + 1 } h1 h2 h3 h4 h5 h6 hb (fillA p0[i]) hF
      refine ⟨_, ⟨d', rfl, hd'⟩, fun k => ?_⟩
      rw [← hk k]
      show f_law07_DeviceCounts_l1_b p0 true _ k d.off d.isCut d.lasts d.counts d.blocks d.pend d.bad d.rcnt d.rtag d.rboots d.rtag d.rboots (i : Int) = _
      unfold f_law07_DeviceCounts_l1_b
      have e2 : remI (p0[i].length : Int) 2 = some 0 := by
        unfold remI
        rw [if_neg (by omega), Int.tmod_eq_emod_of_nonneg (by omega)]
        congr 1
        omega
      rw [hc, cond_true, nthI_nat, List.getElem?_eq_getElem hg, some_bind, filled_eq, some_bind, some_bind, e2, some_bind, ret_eq, dev_eta d, start_eq hne, some_bind]
      simp only [hon, if_true, cond_true, decide_true, Bool.not_true, Bool.or_false, cond_false]
    · obtain ⟨d', hd', hk⟩ := key d h1 h2 h3 h4 h5 h6 (by omega) (fillA p0[i]) hF
      refine ⟨_, ⟨d', rfl, hd'⟩, fun k => ?_⟩
      rw [← hk k]
      show f_law07_DeviceCounts_l1_b p0 true _ k d.off d.isCut d.lasts d.counts d.blocks d.pend d.bad d.rcnt d.rtag d.rboots d.rtag d.rboots (i : Int) = _
      unfold f_law07_DeviceCounts_l1_b
      have e2 : remI (p0[i].length : Int) 2 = some 1 := by
        unfold remI
        rw [if_neg (by omega), Int.tmod_eq_emod_of_nonneg (by omega)]
        congr 1
        omega
      rw [hc, cond_true, nthI_nat, List.getElem?_eq_getElem hg, some_bind, filled_eq, some_bind, some_bind, e2, some_bind]
      have e3 : decide ((1 : Int) = 0) = false := by decide
      rw [e3, cond_false]
  · rintro x ⟨d, rfl, h1, h2, h3, h4, h5, h6, h7⟩ k
    have hc : (decide (((min p0.length 50 : Nat) : Int) < (p0.length : Int)) && decide (((min p0.length 50 : Nat) : Int) < 50)) = false := by simp; omega
    show f_law07_DeviceCounts_l1_b p0 true _ k d.off d.isCut d.lasts d.counts d.blocks d.pend d.bad d.rcnt d.rtag d.rboots d.rtag d.rboots _ = _
    unfold f_law07_DeviceCounts_l1_b
    rw [hc, cond_false]
    unfold f_law07_DeviceCounts_j1 f_device_Device_Register
    have e1 : toU64 (min (p0.length : Int) 50) = UInt64.ofNat (min p0.length 50) := by
      have : min (p0.length : Int) 50 = ((min p0.length 50 : Nat) : Int) := by omega
      rw [this]
      apply UInt64.toNat_inj.1
      simp only [toU64, UInt64.toNat_ofNat']
      omega
    rw [e1]
    simp [andO, h6]
theorem set_fold_get (f : UInt32 → List UInt8) {q : UInt32} : ∀ (ks : List UInt32) (bl : List (List UInt8)), q ∉ ks → (ks.foldl (fun b p => b.set p.toNat (f p)) bl)[q.toNat]? = bl[q.toNat]?
  | [], bl, _ => rfl
  | k :: ks, bl, h => by
    simp only [List.mem_cons, not_or] at h
    rw [List.foldl_cons, set_fold_get f ks _ h.2, List.getElem?_set_ne (fun e => h.1 (UInt32.toNat_inj.1 e).symm)]
theorem set_fold_256 (f : UInt32 → List UInt8) : ∀ (ks : List UInt32) (bl : List (List UInt8)), (∀ k ∈ ks, (f k).length = 256) → (∀ s ∈ bl, s.length = 256) → ∀ s ∈ ks.foldl (fun b p => b.set p.toNat (f p)) bl, s.length = 256
  | [], bl, _, h => h
  | k :: ks, bl, hk, h => by
    rw [List.foldl_cons]
    refine set_fold_256 f ks _ (fun k' h' => hk k' (List.mem_cons_of_mem _ h')) (fun s hs => ?_)
    rcases List.mem_or_eq_of_mem_set hs with hs | rfl
    · exact h s hs
    · exact hk k (List.mem_cons_self ..)
theorem wstep_get (m : List (UInt32 × List UInt8)) (fs : List Int) {q : UInt32} : ∀ (es : List (Int × UInt32)) (bl : List (List UInt8)), (∀ e ∈ es, e.2 ≠ q) → (es.foldl (wstep m fs) bl)[q.toNat]? = bl[q.toNat]?
  | [], bl, _ => rfl
  | e :: es, bl, h => by
    rw [List.foldl_cons, wstep_get m fs es _ (fun e' h' => h e' (List.mem_cons_of_mem _ h'))]
    have hne := h e (List.mem_cons_self ..)
    unfold wstep
    split
    · rw [List.getElem?_set_ne (fun e1 => hne (UInt32.toNat_inj.1 e1))]
    · rfl
theorem wake_len (m : List (UInt32 × List UInt8)) (fs : List Int) : ∀ (es : List (Int × UInt32)) (bl : List (List UInt8)), (es.foldl (wstep m fs) bl).length = bl.length
  | [], _ => rfl
  | e :: es, bl => by rw [List.foldl_cons, wake_len m fs es, wstep_length]
theorem wake_256 (m : List (UInt32 × List UInt8)) (fs : List Int) : ∀ (es : List (Int × UInt32)) (bl : List (List UInt8)), (∀ e ∈ es, e.2.toNat < bl.length ∧ ((mget m e.2).getD []).length = 256) → (∀ s ∈ bl, s.length = 256) → ∀ s ∈ es.foldl (wstep m fs) bl, s.length = 256
  | [], bl, _, h => h
  | e :: es, bl, he, h => by
    obtain ⟨h1, h2⟩ := he e (List.mem_cons_self ..)
    rw [List.foldl_cons]
    exact wake_256 m fs es _ (fun e' h' => by rw [wstep_length]; exact he e' (List.mem_cons_of_mem _ h')) (wstep_256 h2 h1 h)
/-- a block that was flushed, and is not pending -/
structure Kept (p : UInt32) (t : List UInt8) (d : DevA) : Prop where
  inv : Inv 8 d
  bad : d.bad = []
  at_ : d.blocks[p.toNat]? = some t
  not : p ∉ d.pend.map (·.1)
theorem Kept.of {p : UInt32} {t : List UInt8} {d d' : DevA} (h : Kept p t d) (h1 : d'.blocks = d.blocks) (h2 : d'.pend = d.pend) (h3 : d'.bad = d.bad) : Kept p t d' := ⟨h.inv.of h1 h2, by rw [h3]; exact h.bad, by rw [h1]; exact h.at_, by rw [h2]; exact h.not⟩
theorem Kept.write {p q : UInt32} {t s : List UInt8} {d : DevA} (h : Kept p t d) (hq : q ≠ p) (hs : s.length = 256) : ∃ d', Kept p t d' ∧ ∃ e, f_device_Device_Write d q s = some (e, d') := by
  by_cases hp : q.toNat < 8
  · rw [write_eq (by rw [h.inv.blen]; exact hp) hs (by have := h.inv.plen; omega)]
    cases hon : pOn d
    · rw [okR_off hon]; exact ⟨pDead d, h.of rfl rfl rfl, _, rfl⟩
    · rw [okR_on hon]
      refine ⟨{ pTick d with pend := mput d.pend q s }, ⟨h.inv.put hp hs rfl rfl, h.bad, h.at_, ?_⟩, _, rfl⟩
      intro hm
      rcases List.mem_cons.1 hm with e | hm
      · exact hq e.symm
      · obtain ⟨z, hz, e⟩ := List.mem_map.1 hm
        exact h.not (List.mem_map.2 ⟨z, (List.mem_filter.1 hz).1, e⟩)
  · rw [write_bad (.inl (by rw [h.inv.blen]; exact hp))]
    exact ⟨d, h, _, rfl⟩
theorem Kept.flush {p : UInt32} {t : List UInt8} {d : DevA} (h : Kept p t d) : ∃ d', Kept p t d' ∧ ∃ e, f_device_Device_Flush d = some (e, d') := by
  rw [h.inv.flush (by omega)]
  cases hon : pOn d
  · rw [okR_off hon]; exact ⟨pDead d, h.of rfl rfl rfl, _, rfl⟩
  · rw [okR_on hon]
    refine ⟨{ pTick d with blocks := flushB d.pend d.blocks, pend := [] }, ⟨⟨?_, ?_, List.nodup_nil, fun q hq => by cases hq⟩, h.bad, ?_, fun hm => by cases hm⟩, _, rfl⟩
    · exact (set_fold_length _ _ _).trans h.inv.blen
    · exact set_fold_256 _ _ _ (fun k hk => h.inv.get256 (keysOf_mem.1 hk)) h.inv.b256
    · exact (set_fold_get _ _ _ (fun hm => h.not (keysOf_mem.1 hm))).trans h.at_
theorem Kept.wake {p : UInt32} {t : List UInt8} {d : DevA} (h : Kept p t d) (fs : List Int) : ∃ d', Kept p t d' ∧ d'.off = false ∧ f_device_Device_Wake d fs = some (0, d') := by
  rw [wake_eq h.inv (by omega)]
  refine ⟨{ d with off := false, isCut := false, lasts := 0, blocks := wakeB d.pend fs d.blocks, pend := [] }, ⟨⟨?_, ?_, List.nodup_nil, fun q hq => by cases hq⟩, h.bad, ?_, fun hm => by cases hm⟩, rfl, rfl⟩
  · exact (wake_len _ _ _ _).trans h.inv.blen
  · refine wake_256 _ _ _ _ (fun e he => ?_) h.inv.b256
    have h1 := keysOf_mem.1 (enumU_mem he)
    refine ⟨?_, h.inv.get256 h1⟩
    obtain ⟨q, hq, e1⟩ := List.mem_map.1 h1
    rw [h.inv.blen, ← e1]
    exact (h.inv.klt q hq).1
  · exact (wstep_get _ _ _ _ (fun e he e1 => h.not (by rw [← e1]; exact keysOf_mem.1 (enumU_mem he)))).trans h.at_
theorem p_DeviceKeeps (s : List UInt8) (p : UInt32) (l : List OpA) : ∃ n, f_law07_DeviceKeeps n s p l = some true := by
  refine ⟨31, ?_⟩
  unfold f_law07_DeviceKeeps
  rw [p_shown, some_bind, new8, some_bind, some_bind]
  by_cases h8 : 8 ≤ p
  · have : (!decide ((0 : Int) = 0) || decide (8 ≤ p)) = true := by simp [h8]
    rw [this, cond_true, ret_eq]
    rfl
  have hc : (!decide ((0 : Int) = 0) || decide (8 ≤ p)) = false := by simp [h8]
  have hp : p.toNat < 8 := by rw [UInt32.not_le, UInt32.lt_iff_toNat_lt] at h8; exact h8
  rw [hc, cond_false, filled_eq, some_bind]
  have hF := fillA_length s
  obtain ⟨hb1, hb2⟩ := zBs 8
  generalize fillA s = F at hF ⊢
  generalize List.replicate 8 zB = bl at hb1 hb2 ⊢
  rw [write_on (by rw [hb1]; exact hp) hF (by simp), some_bind, mput_nil]
  dsimp only
  generalize wI (0 + 1) = c
  have I1 : Inv 8 (D7 false false 0 c bl [(p, F)] []) := inv_one hb1 hb2 hp hF
  rw [I1.flush (by omega), some_bind, okR_on (by rfl)]
  -- behind the flush
  have K1 : Kept p F { pTick (D7 false false 0 c bl [(p, F)] []) with blocks := flushB [(p, F)] bl, pend := [] } := by
    have e1 : flushB [(p, F)] bl = bl.set p.toNat F := by
      unfold flushB
      rw [keys1]
      show bl.set p.toNat ((mget [(p, F)] p).getD []) = _
      rw [mget1]; rfl
    rw [e1]
    refine ⟨⟨by show (bl.set p.toNat F).length = 8; rw [List.length_set, hb1], fun s hs => ?_, List.nodup_nil, fun q hq => by cases hq⟩, rfl, ?_, fun hm => by cases hm⟩
    · rcases List.mem_or_eq_of_mem_set hs with hs | rfl
      · exact hb2 s hs
      · exact hF
    · show (bl.set p.toNat F)[p.toNat]? = some F
      rw [List.getElem?_set_self (by rw [hb1]; exact hp)]
  dsimp only
  generalize hd : ({ pTick (D7 false false 0 c bl [(p, F)] []) with blocks := flushB [(p, F)] bl, pend := [] } : DevA) = d0 at K1
  have hx : (((0 : Int), d0) : Int × DevA) = (0, { pTick (D7 false false 0 c bl [(p, F)] []) with blocks := flushB [(p, F)] bl, pend := [] }) := by rw [hd]
  refine loop_inv (P := fun i x => ∃ d : DevA, x = (d.off, d.isCut, d.lasts, d.counts, d.blocks, d.pend, d.bad, d.rcnt, d.rtag, d.rboots, (i : Int)) ∧ Kept p F d) (min l.length 30) ?_ ?_ (by omega) ⟨d0, by rw [← hd]; rfl, K1⟩
  · rintro i x hi ⟨d, rfl, hK⟩
    have hc : (decide ((i : Int) < (l.length : Int)) && decide ((i : Int) < 30)) = true := by simp; omega
    have hg : i < l.length := by omega
    have key : ∀ q : UInt32, q ≠ p → ∃ d', Kept p F d' ∧ ∀ k, f_law07_DeviceKeeps_j3 d.off d.isCut d.lasts d.counts d.blocks d.pend d.bad d.rcnt d.rtag d.rboots (i : Int) l[i] k q = k (d'.off, d'.isCut, d'.lasts, d'.counts, d'.blocks, d'.pend, d'.bad, d'.rcnt, d'.rtag, d'.rboots, ((i + 1 : Nat) : Int)) := by
      intro q hq
      have hj : ∀ (d' : DevA) k, f_law07_DeviceKeeps_j2 (i : Int) k d'.off d'.isCut d'.lasts d'.counts d'.blocks d'.pend d'.bad d'.rcnt d'.rtag d'.rboots = k (d'.off, d'.isCut, d'.lasts, d'.counts, d'.blocks, d'.pend, d'.bad, d'.rcnt, d'.rtag, d'.rboots, ((i + 1 : Nat) : Int)) := by
        intro d' k
        unfold f_law07_DeviceKeeps_j2
        rw [ret_eq, wI_eq (by omega) (by omega)]
        rfl
      obtain ⟨z, hz⟩ : ∃ z, rem64 (toU64 l[i].act) 4 = some z := ⟨_, by unfold rem64; rw [if_neg (by decide)]⟩
      unfold f_law07_DeviceKeeps_j3
      simp only [hz, some_bind, ret_eq, dev_eta d]
      by_cases h0 : z = 0
      · obtain ⟨d', hk', e, he⟩ := hK.write hq (fillA_length l[i].txt)
        refine ⟨d', hk', fun k => ?_⟩
        rw [decide_eq_true h0, cond_true, filled_eq, some_bind, he, some_bind]
        exact hj d' k
      by_cases h1 : z = 1
      · obtain ⟨d', hk', e, he⟩ := hK.flush
        refine ⟨d', hk', fun k => ?_⟩
        rw [decide_eq_false h0, cond_false, decide_eq_true h1, cond_true, he, some_bind]
        exact hj d' k
      by_cases h2 : z = 2
      · refine ⟨{ d with isCut := decide (0 ≤ l[i].num), lasts := max l[i].num 0 }, hK.of rfl rfl rfl, fun k => ?_⟩
        rw [decide_eq_false h0, cond_false, decide_eq_false h1, cond_false, decide_eq_true h2, cond_true, cut_eq, some_bind]
        exact hj _ k
      by_cases h3 : z = 3
      · obtain ⟨d', hk', _, he⟩ := hK.wake l[i].fates
        refine ⟨d', hk', fun k => ?_⟩
        rw [decide_eq_false h0, cond_false, decide_eq_false h1, cond_false, decide_eq_false h2, cond_false, decide_eq_true h3, cond_true, he, some_bind]
        exact hj d' k
      · refine ⟨d, hK, fun k => ?_⟩
        rw [decide_eq_false h0, cond_false, decide_eq_false h1, cond_false, decide_eq_false h2, cond_false, decide_eq_false h3, cond_false]
        exact hj d k
    by_cases hpg : l[i].page = p
    · have hne : p + 1 ≠ p := by
        intro e
        have := congrArg UInt32.toNat e
        rw [UInt32.toNat_add] at this
        have h1 : (1 : UInt32).toNat = 1 := rfl
        omega
      obtain ⟨d', hk', hk⟩ := key (p + 1) hne
      refine ⟨_, ⟨d', rfl, hk'⟩, fun k => ?_⟩
      rw [← hk k]
      show f_law07_DeviceKeeps_l1_b p l true F _ _ k d.off d.isCut d.lasts d.counts d.blocks d.pend d.bad d.rcnt d.rtag d.rboots (i : Int) = _
      unfold f_law07_DeviceKeeps_l1_b
      rw [hc, cond_true, nthI_nat, List.getElem?_eq_getElem hg, some_bind, decide_eq_true hpg, cond_true]
    · obtain ⟨d', hk', hk⟩ := key l[i].page hpg
      refine ⟨_, ⟨d', rfl, hk'⟩, fun k => ?_⟩
      rw [← hk k]
      show f_law07_DeviceKeeps_l1_b p l true F _ _ k d.off d.isCut d.lasts d.counts d.blocks d.pend d.bad d.rcnt d.rtag d.rboots (i : Int) = _
      unfold f_law07_DeviceKeeps_l1_b
      rw [hc, cond_true, nthI_nat, List.getElem?_eq_getElem hg, some_bind, decide_eq_false hpg, cond_false]
  · rintro x ⟨d, rfl, hK⟩ k
    have hc : (decide (((min l.length 30 : Nat) : Int) < (l.length : Int)) && decide (((min l.length 30 : Nat) : Int) < 30)) = false := by simp; omega
    show f_law07_DeviceKeeps_l1_b p l true F _ _ k d.off d.isCut d.lasts d.counts d.blocks d.pend d.bad d.rcnt d.rtag d.rboots _ = _
    unfold f_law07_DeviceKeeps_l1_b
    rw [hc, cond_false]
    unfold f_law07_DeviceKeeps_j1
    obtain ⟨d', hk', hoff, he⟩ := hK.wake []
    rw [dev_eta d, he, some_bind, read_eq (by rw [hk'.inv.blen]; exact hp), some_bind, hoff, hk'.bad]
    have hh : hold d' p = F := by
      unfold hold
      rw [mget_none (fun q hq e => hk'.not (List.mem_map.2 ⟨q, hq, e⟩))]
      show d'.blocks.getD p.toNat [] = F
      rw [List.getD, hk'.at_]; rfl
    rw [hh]
    simp [ret_eq, mget]
end Go.Proofs.Ytmnmepaopodblaa

/- From a row's condition to a contract's, and back: readings, slices of numbers and of texts. No condition beyond those stated. -/
namespace Go.Proofs.Ytmnmepaopodblaa
open Go Go.ChangeShapes Go.WideShapes Go.ChangeAt Go.RowKit Go.Deep

section
variable {G : Type} {enc : TypeId × Value → G} {P : Program} {W W' : World}

theorem HpOk.below {H' : List Chunk} (h : HpOk (· < W.heap.size) W H' W') : Below W.heap.size W W' := ⟨h.os, h.tape, h.output, h.size, fun b hb => h.keep b hb⟩
/-- all types of a list can be read -/
def rowed (P : Program) (ts : List TypeId) : Bool := ts.all fun t => P.readableRec t && decide (t < P.types.size)
theorem trodAll_below (hl : laidOutB P = true) (hb : Below W.heap.size W W') : ∀ {ts : List TypeId} {vs : List Value} {ds : List (DataW G)} {ps : List MemPlace}, rowed P ts = true →
    DataW.TrodAll enc P W 0 (fun _ => true) true ts vs ds ps → DataW.TrodAll enc P W' 0 (fun b => decide (b < W.heap.size)) true ts vs ds ps
  | [], [], [], _, _, h => h
  | t :: ts, v :: vs, d :: ds, ps, hr, h => by
    obtain ⟨p, q, h1, h2, e⟩ := h
    simp only [rowed, List.all_cons, Bool.and_eq_true, decide_eq_true_eq] at hr
    refine ⟨p, q, Below.trod hl hr.1.1 hr.1.2 h1 hb ?_, trodAll_below hl hb (by simpa [rowed] using hr.2) h2, e⟩
    obtain ⟨n, hn⟩ := h1
    exact DataW.trod_lt n _ _ _ hn
  | [], _ :: _, _, _, _, h => h.elim
  | [], [], _ :: _, _, _, h => h.elim
  | _ :: _, [], _, _, _, h => h.elim
  | _ :: _, _ :: _, [], _, _, h => h.elim
/-- a law that answers true and leaves old memory as it was -/
theorem post_true {fn : Func} {s : ChangeSpec} {tb : TypeId} {args : Array Value} {ds gs : List (DataW G)} {before : List MemPlace} (hl : laidOutB P = true) (hr : rowed P fn.params.toList = true)
    (hv : s.vars = []) (hres : fn.resultTypes.toList = [tb]) (htb : P.underlying tb = some .bool) (hW : DataW.Whole enc P fn.params.toList s.vars false W args.toList ds gs before)
    (h1 : (s.fn G (ds ++ gs)).results = [.lit (.bool true)]) (h2 : (s.fn G (ds ++ gs)).args = ds) (h3 : (s.fn G (ds ++ gs)).vars = []) (hb : Below W.heap.size W W') :
    s.post enc P fn false true false false W args (.bool true) W' := by
  have hW' := hW
  obtain ⟨p, q, hA, hV, e, _, _⟩ := hW
  have hsz : fn.resultTypes.size = 1 := by rw [← Array.length_toList, hres]; rfl
  refine ⟨ds, gs, before, [], p, [], hW', ?_, ?_, ?_, hb.frame _, fun h => by cases h⟩
  · rw [h1, hres, hsz]
    exact trodAll_cons_mk (shut_bool htb _) trodAll_mk0
  · rw [h2]
    exact trodAll_below hl hb hr hA
  · rw [hv, h3]
    rfl
end
/-- whatever the world, the walk's answer is the row's -/
theorem calls_row {f : FuncId} {args : List Value} {W : World} {R : Value → World → Prop} {P : Program} {post : Value → List Chunk → Prop} (h : Con P (· < W.heap.size) W f args [] [] post)
    (hp : ∀ v W', (∃ M, post v M) → Below W.heap.size W W' → R v W') : Calls P f args.toArray W fun e W' => ∃ v, e = .returned v ∧ R v W' := by
  refine (h W (HpOk.init W)).mono ?_
  rintro e W' ⟨v, M, rfl, hq, hw⟩
  exact ⟨v, rfl, hp v W' ⟨M, hq⟩ hw.below⟩

section
variable {G : Type} {enc : TypeId × Value → G} {P : Program} {W : World}
theorem u32_of {z : Int} (h : (Lit.int .u32 z).wf = true) : Value.int .u32 z = vU32 (UInt32.ofNat z.toNat) := by
  simp only [Lit.wf, Bool.and_eq_true, decide_eq_true_eq] at h
  have h1 : IntKind.u32.min = 0 := rfl
  have h2 : IntKind.u32.max = 4294967295 := rfl
  rw [h1, h2] at h
  simp only [vU32, UInt32.toNat_ofNat']
  congr 1
  omega
theorem u64_of {z : Int} (h : (Lit.int .u64 z).wf = true) : Value.int .u64 z = vU64 (UInt64.ofNat z.toNat) := by
  simp only [Lit.wf, Bool.and_eq_true, decide_eq_true_eq] at h
  have h1 : IntKind.u64.min = 0 := rfl
  have h2 : IntKind.u64.max = 18446744073709551615 := rfl
  rw [h1, h2] at h
  simp only [vU64, UInt64.toNat_ofNat']
  congr 1
  omega
theorem u8_of {z : Int} (h : (Lit.int .u8 z).wf = true) : Value.int .u8 z = vU8 (UInt8.ofNat z.toNat) := by
  simp only [Lit.wf, Bool.and_eq_true, decide_eq_true_eq] at h
  have h1 : IntKind.u8.min = 0 := rfl
  have h2 : IntKind.u8.max = 255 := rfl
  rw [h1, h2] at h
  simp only [vU8, UInt8.toNat_ofNat']
  congr 1
  omega
theorem str_of (s : ByteArray) : Value.string s = vS s.data.toList := by
  simp [vS]
theorem slOf_cells {α : Type} {ef : α → List Value} {b off len cap : Nat} {l : List α} {V : Nat → Value} (h1 : ∀ x, (ef x).length = 1) (hl : l.length = len) (hlk : ∀ i (hi : i < l.length), ef l[i] = [V i]) (hc : len ≤ cap)
    (hall : ∀ i, i < len → W.cell? (Addr.add ⟨b, off, none⟩ i) = some (V i)) : SlOf (· < W.heap.size) W ef 1 (.slice (some ⟨b, off, none⟩) len cap) l := by
  refine ⟨h1, .inr ⟨b, off, cap, by rw [hl], by omega, fun j u hu => ?_⟩⟩
  have hj : j < l.length := by
    have := (List.getElem?_eq_some_iff.1 hu).1
    rw [List.length_flatMap] at this
    have e : (l.map fun a => (ef a).length) = List.replicate l.length 1 := by
      apply List.ext_getElem
      · simp
      · intro i _ _; simp [h1]
    rw [e] at this
    simpa using this
  have hu' : u = V j := by
    have hx := flatMap_get h1 l j l[j] 0 (V j) (List.getElem?_eq_getElem hj) (by rw [hlk j hj]; rfl)
    rw [Nat.mul_one, Nat.add_zero, hu] at hx
    exact Option.some.inj hx
  have h0 := hall j (by omega)
  rw [Addr.add_mk] at h0
  refine ⟨?_, by rw [hu']; exact h0⟩
  rcases Nat.lt_or_ge b W.heap.size with h | h
  · exact h
  · have : W.heap[b]? = none := by simp [h]
    simp [World.cell?, this] at h0
/-- an argument that is a slice of numbers -/
theorem open_nums {t e : TypeId} {base : Nat} {v : Value} {d : DataW G} {p : List MemPlace} (ht : P.underlying t = some (.slice e)) (he : P.underlying e = some (.int .i64)) (ce : P.cellsOf e = 1)
    (hval : Value.okWide P W .any base t v) (h : DataW.Trod enc P W 0 (fun _ => true) true t v d p) : ∃ l : List Int, SlOf (· < W.heap.size) W eI 1 v l := by
  obtain ⟨a', len', cap', rfl⟩ := okWide_slice ht hval
  obtain ⟨n, hn⟩ := h
  have hok : Cell.ok P W .any base t (.slice a' len' cap') := by
    simpa [Value.okWide, ht, Cell.okWide] using hval
  rcases open_ints ht he ce hn with ⟨hc, _⟩ | ⟨a, len, cap, zs, hc, _, hl, hm, hz, _, hcell, _⟩
  · simp [Value.cells] at hc
    obtain ⟨rfl, rfl, rfl⟩ := hc
    exact ⟨[], ⟨fun _ => rfl, .inl ⟨_, rfl, rfl⟩⟩⟩
  · simp [Value.cells] at hc
    obtain ⟨rfl, rfl, rfl⟩ := hc
    simp only [Cell.ok, ht] at hok
    obtain ⟨b, off, spot⟩ := a
    obtain rfl : spot = none := hok.2.2.2.1
    simp only [if_true] at hz
    refine ⟨zs.take len', slOf_cells (V := fun i => .int .i64 (zs.getD i 0)) (fun _ => rfl) (by rw [List.length_take]; omega) (fun i hi => ?_) hl (fun i hi => hcell i (by omega))⟩
    rw [List.length_take] at hi
    simp only [List.getElem_take]
    rw [getD_lt _ (by omega)]
/-- an argument that is a slice of texts -/
theorem open_texts {t e : TypeId} {base : Nat} {v : Value} {d : DataW G} {p : List MemPlace} (ht : P.underlying t = some (.slice e)) (he : P.underlying e = some .string) (ce : P.cellsOf e = 1)
    (hval : Value.okWide P W .any base t v) (h : DataW.Trod enc P W 0 (fun _ => true) true t v d p) : ∃ l : List (List UInt8), SlOf (· < W.heap.size) W eS 1 v l := by
  obtain ⟨a', len', cap', rfl⟩ := okWide_slice ht hval
  obtain ⟨n, hn⟩ := h
  have hok : Cell.ok P W .any base t (.slice a' len' cap') := by
    simpa [Value.okWide, ht, Cell.okWide] using hval
  rcases open_strings ht he ce hn with ⟨hc, _⟩ | ⟨a, len, cap, ss, hc, _, hl, hm, hz, _, hcell, _⟩
  · simp [Value.cells] at hc
    obtain ⟨rfl, rfl, rfl⟩ := hc
    exact ⟨[], ⟨fun _ => rfl, .inl ⟨_, rfl, rfl⟩⟩⟩
  · simp [Value.cells] at hc
    obtain ⟨rfl, rfl, rfl⟩ := hc
    simp only [Cell.ok, ht] at hok
    obtain ⟨b, off, spot⟩ := a
    obtain rfl : spot = none := hok.2.2.2.1
    simp only [if_true] at hz
    refine ⟨(ss.take len').map fun s => s.data.toList, slOf_cells (V := fun i => .string (ss.getD i ByteArray.empty)) (fun _ => rfl) (by rw [List.length_map, List.length_take]; omega) (fun i hi => ?_) hl (fun i hi => hcell i (by omega))⟩
    rw [List.length_map, List.length_take] at hi
    simp only [List.getElem_map, List.getElem_take]
    rw [getD_lt _ (by omega), str_of]
end
theorem own' : ownKnob Try.prog.godebug = none := by kernel_rfl
theorem laidOut' : laidOutB Try.prog = true := by kernel_rfl
theorem cells9' : Try.prog.cellsOf 9 = 1 := by kernel_rfl
theorem cells3' : Try.prog.cellsOf 3 = 1 := by kernel_rfl
end Go.Proofs.Ytmnmepaopodblaa

/- From a row's condition to a contract's: slices of operations. No condition beyond those stated. -/
namespace Go.Proofs.Ytmnmepaopodblaa
open Go Go.ChangeShapes Go.WideShapes Go.ChangeAt Go.RowKit Go.Deep

theorem flatMap_at {α : Type} {enc : α → List Value} {sz : Nat} (hl : ∀ x, (enc x).length = sz) : ∀ (l : List α) {j : Nat} {u : Value}, (l.flatMap enc)[j]? = some u → ∃ i r x, l[i]? = some x ∧ (enc x)[r]? = some u ∧ j = i * sz + r
  | [], j, u, h => by simp at h
  | x :: l, j, u, h => by
    rw [List.flatMap_cons] at h
    by_cases hj : j < (enc x).length
    · rw [List.getElem?_append_left hj] at h
      exact ⟨0, j, x, rfl, h, by simp⟩
    · rw [List.getElem?_append_right (by omega)] at h
      obtain ⟨i, r, y, h1, h2, h3⟩ := flatMap_at hl l h
      refine ⟨i + 1, r, y, by simpa using h1, h2, ?_⟩
      rw [hl x] at h3 hj
      rw [Nat.add_mul]
      omega
theorem choose_list {α : Type} {n : Nat} {Q : Nat → α → Prop} (h : ∀ i, i < n → ∃ x, Q i x) : ∃ l : List α, l.length = n ∧ ∀ i x, l[i]? = some x → Q i x := by
  induction n with
  | zero => exact ⟨[], rfl, fun i x hi => by simp at hi⟩
  | succ n ih =>
    obtain ⟨l, hl, hk⟩ := ih fun i hi => h i (by omega)
    obtain ⟨k, hk'⟩ := h n (by omega)
    refine ⟨l ++ [k], by simp [hl], fun i x hi => ?_⟩
    rcases Nat.lt_or_ge i l.length with h1 | h1
    · rw [List.getElem?_append_left h1] at hi; exact hk i x hi
    · rw [List.getElem?_append_right h1] at hi
      have h2 : i - l.length = 0 := by
        have := (List.getElem?_eq_some_iff.1 hi).1
        simpa using this
      rw [h2] at hi
      obtain rfl : k = x := by simpa using hi
      have : i = n := by omega
      rw [this]; exact hk'
theorem spot_none {w : World} {a : Addr} {v : Value} (h : w.cell? a = some v) : a.spot = none := by
  unfold World.cell? at h
  split at h
  · split at h
    · cases h
    · simpa using ‹¬ a.spot.isSome = true›
  · cases h
theorem block_lt {w : World} {a : Addr} {v : Value} (h : w.cell? a = some v) : a.block < w.heap.size := by
  rcases Nat.lt_or_ge a.block w.heap.size with h1 | h1
  · exact h1
  · have : w.heap[a.block]? = none := by simp [h1]
    simp [World.cell?, this] at h
section
variable {G : Type} {enc : TypeId × Value → G} {P : Program} {W : World}
/-- a slice of numbers, wherever it lies -/
theorem nums_of {t e : TypeId} {n : Nat} {v : Value} {y : DataW G × List MemPlace} (ht : P.underlying t = some (.slice e)) (he : P.underlying e = some (.int .i64)) (ce : P.cellsOf e = 1)
    (h : DataW.trod enc P W 0 (fun _ => true) true n t [v] = some y) : ∃ l : List Int, SlOf (· < W.heap.size) W eI 1 v l := by
  rcases open_ints ht he ce h with ⟨hc, _⟩ | ⟨a, len, cap, zs, hc, _, hl, hm, hz, _, hcell, _⟩
  · simp at hc
    subst hc
    exact ⟨[], ⟨fun _ => rfl, .inl ⟨_, rfl, rfl⟩⟩⟩
  · simp at hc
    subst hc
    simp only [if_true] at hz
    rcases Nat.eq_zero_or_pos cap with h0 | h0
    · obtain rfl : len = 0 := by omega
      subst h0
      exact ⟨[], ⟨fun _ => rfl, .inl ⟨_, rfl, rfl⟩⟩⟩
    · obtain ⟨b, off, spot⟩ := a
      obtain rfl : spot = none := by
        have := spot_none (hcell 0 (by omega))
        simpa [Addr.add] using this
      refine ⟨zs.take len, slOf_cells (V := fun i => .int .i64 (zs.getD i 0)) (fun _ => rfl) (by rw [List.length_take]; omega) (fun i hi => ?_) hl (fun i hi => hcell i (by omega))⟩
      rw [List.length_take] at hi
      simp only [List.getElem_take]
      rw [getD_lt _ (by omega)]
/-- an argument that is a slice of operations -/
theorem open_opsG {t e : TypeId} {f0 f1 f2 f3 f4 : Field} {ti : TypeId} {base : Nat} {v : Value} {d : DataW G} {p : List MemPlace} (ht : P.underlying t = some (.slice e)) (he : P.underlying e = some (.struct #[f0, f1, f2, f3, f4]))
    (ce : P.cellsOf e = 5) (o0 : f0.offset = 0) (o1 : f1.offset = 1) (o2 : f2.offset = 2) (o3 : f3.offset = 3) (o4 : f4.offset = 4)
    (c0 : P.cellsOf f0.type = 1) (c1 : P.cellsOf f1.type = 1) (c2 : P.cellsOf f2.type = 1) (c3 : P.cellsOf f3.type = 1) (c4 : P.cellsOf f4.type = 1)
    (u0 : P.underlying f0.type = some (.int .i64)) (u1 : P.underlying f1.type = some (.int .u32)) (u2 : P.underlying f2.type = some (.int .i64)) (u3 : P.underlying f3.type = some .string) (u4 : P.underlying f4.type = some (.slice ti))
    (ui : P.underlying ti = some (.int .i64)) (ci : P.cellsOf ti = 1)
    (hval : Value.okWide P W .any base t v) (h : DataW.Trod enc P W 0 (fun _ => true) true t v d p) : ∃ l : List OpA, SlOf (· < W.heap.size) W encOp 5 v l ∧ ∀ x ∈ l, SlOf (· < W.heap.size) W eI 1 x.lv x.fates := by
  obtain ⟨a', len', cap', rfl⟩ := okWide_slice ht hval
  obtain ⟨n, hn⟩ := h
  have hok : Cell.ok P W .any base t (.slice a' len' cap') := by
    simpa [Value.okWide, ht, Cell.okWide] using hval
  rcases open_slice ht hn with ⟨hc, _⟩ | ⟨a, len, cap, m, k, D, Pl, hc, _, hl, hm, hmm, _, hx⟩
  · simp [Value.cells] at hc
    obtain ⟨rfl, rfl, rfl⟩ := hc
    exact ⟨[], ⟨fun _ => rfl, .inl ⟨_, rfl, rfl⟩⟩, fun x hx => by cases hx⟩
  · simp [Value.cells] at hc
    obtain ⟨rfl, rfl, rfl⟩ := hc
    simp only [Cell.ok, ht] at hok
    obtain ⟨b, off, spot⟩ := a
    obtain rfl : spot = none := hok.2.2.2.1
    simp only [if_true] at hmm
    subst hmm
    obtain ⟨l, hll, hlk⟩ := choose_list (n := len') (Q := fun i (x : OpA) => (∀ r u, (encOp x)[r]? = some u → b < W.heap.size ∧ W.cell? ⟨b, off + (i * 5 + r), none⟩ = some u) ∧ SlOf (· < W.heap.size) W eI 1 x.lv x.fates) fun i hi => by
      obtain ⟨cs', h1, h2⟩ := hx i (by omega)
      rw [ce] at h1
      obtain ⟨_, hlen, hcell⟩ := World.cells?_some h1
      obtain ⟨xs, k', _, _, _, hxl, hf⟩ := DataW.trod_struct he h2
      match xs, hxl, cs', hlen with
      | [y0, y1, y2, y3, y4], _, [w0, w1, w2, w3, w4], _ =>
        have g0 := hf 0 f0 rfl
        have g1 := hf 1 f1 rfl
        have g2 := hf 2 f2 rfl
        have g3 := hf 3 f3 rfl
        have g4 := hf 4 f4 rfl
        simp [o0, o1, o2, o3, o4, c0, c1, c2, c3, c4] at g0 g1 g2 g3 g4
        obtain ⟨z0, e0, _, _⟩ := DataW.trod_int u0 g0
        obtain ⟨z1, e1, _, wf1⟩ := DataW.trod_int u1 g1
        obtain ⟨z2, e2, _, _⟩ := DataW.trod_int u2 g2
        obtain ⟨s3, e3, _, _⟩ := DataW.trod_string u3 g3
        obtain ⟨l4, h4⟩ := nums_of u4 ui ci g4
        simp only [List.cons.injEq, and_true] at e0 e1 e2 e3
        refine ⟨⟨z0, UInt32.ofNat z1.toNat, z2, s3.data.toList, w4, l4⟩, fun r u hu => ?_, h4⟩
        have he : encOp ⟨z0, UInt32.ofNat z1.toNat, z2, s3.data.toList, w4, l4⟩ = [w0, w1, w2, w3, w4] := by
          rw [encOp, e0, e1, e2, e3, u32_of wf1, str_of]
        rw [he] at hu
        have hr : r < 5 := by have := (List.getElem?_eq_some_iff.1 hu).1; simpa using this
        have hc := hcell r hr
        have ha : ((⟨b, off, none⟩ : Addr).add (i * 5)).add r = ⟨b, off + (i * 5 + r), none⟩ := by simp [Addr.add_mk, Nat.add_assoc]
        have hv : W.cell? ⟨b, off + (i * 5 + r), none⟩ = some u := by
          rw [← ha, ← hu, ← hc]
        exact ⟨block_lt hv, hv⟩
    refine ⟨l, ⟨fun _ => rfl, .inr ⟨b, off, m, by rw [hll], by omega, fun j u hu => ?_⟩⟩, fun x hx => ?_⟩
    · obtain ⟨i, r, x, h1, h2, rfl⟩ := flatMap_at (enc := encOp) (sz := 5) (fun _ => rfl) l hu
      exact (hlk i x h1).1 r u h2
    · obtain ⟨i, hi, rfl⟩ := List.getElem_of_mem hx
      exact (hlk i l[i] (List.getElem?_eq_getElem hi)).2
end
set_option maxRecDepth 100000 in
theorem open_ops {G : Type} {enc : TypeId × Value → G} {W : World} {base : Nat} {v : Value} {d : DataW G} {p : List MemPlace} (hval : Value.okWide Try.prog W .any base 23 v) (h : DataW.Trod enc Try.prog W 0 (fun _ => true) true 23 v d p) :
    ∃ l : List OpA, SlOf (· < W.heap.size) W encOp 5 v l ∧ ∀ x ∈ l, SlOf (· < W.heap.size) W eI 1 x.lv x.fates :=
  open_opsG ty23 Try.underlying34 (by kernel_rfl) rfl rfl rfl rfl rfl (by kernel_rfl) (by kernel_rfl) (by kernel_rfl) (by kernel_rfl) (by kernel_rfl) (by kernel_rfl) (by kernel_rfl) (by kernel_rfl) (by kernel_rfl) (by kernel_rfl) ty3 cells3' hval h
end Go.Proofs.Ytmnmepaopodblaa
