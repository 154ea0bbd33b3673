/- The texts RVNews, one behind the other: each bears its own sentence. Conditions: as each says. -/
import Derived.Test.YtddjneafgddlcaaDoorVB1
import Derived.Test.YtddjneafgddlcaaDoorVB2
import Derived.Test.YtddjneafgddlcaaDoorVB3
import Derived.Test.YtddjneafgddlcaaDoorVB4
import Derived.Test.YtddjneafgddlcaaDoorVB5
import Derived.Test.YtddjneafgddlcaaDoorVB6
import Derived.Test.YtddjneafgddlcaaDoorCards
import Derived.Test.YtddjneafgddlcaaDoorTie

/- THE CARD OF VaultNews. No condition beyond the row's. -/
namespace Go.Proofs.YtddjneafgddlcaaDoor.rVaultNews
open Go Go.ChangeShapes Go.WideShapes Go.ChangeAt Go.RowKit

set_option maxRecDepth 100000 in
theorem contract (G : Type) (enc : TypeId × Value → G) (W : World) (base : Nat) (args : Array Value) (ds gs : List (DataW G)) (before : List MemPlace)
    (hval : ∀ (j : Nat) t v, Tryd.f3.params[j]? = some t → args[j]? = some v → Value.okWide Tryd.prog W .any base t v)
    (hW : DataW.Whole enc Tryd.prog Tryd.f3.params.toList Rows.vaultNewsSpec.vars false W args.toList ds gs before) (hL : laidMetH Tryd.prog Rows.vaultNewsRow.laid W) :
    Calls Tryd.prog 3 args W fun e W' => ∃ v, e = .returned v ∧ Rows.vaultNewsSpec.post enc Tryd.prog Tryd.f3 false true false false W args v W' := by
  have hW' := hW
  obtain ⟨p, q, hA0, hV, rfl, hfz, hnd⟩ := hW
  have hA : DataW.TrodAll enc Tryd.prog W 0 (fun _ => true) true Tryd.f3.params.toList args.toList ds p := hA0
  rw [Tryd.params3] at hA hval
  obtain ⟨v0, vs0, d0, ds0, p0, q0, hargs, rfl, rfl, h0, r0⟩ := trodAll_cons hA
  obtain ⟨v1, vs1, d1, ds1, p1, q1, rfl, rfl, rfl, h1, r1⟩ := trodAll_cons r0
  obtain ⟨rfl, rfl, rfl⟩ := trodAll_nil r1
  obtain rfl : args = [v0, v1].toArray := by rw [← hargs]
  obtain ⟨rfl, rfl⟩ := trodVars_none hV
  obtain ⟨z0, rfl, wf0⟩ := open_num (k := .i64) (by kernel_rfl) (hval 0 3 v0 rfl rfl) h0
  obtain ⟨z1, rfl, wf1⟩ := open_num (k := .u32) (by kernel_rfl) (hval 1 22 v1 rfl rfl) h1
  have hS := shaT_of hL
  cases hcase : inRing z0 (UInt32.ofNat z1.toNat)
  · skip
    have hc := c_law13_VaultNewsZ (K := (· < W.heap.size)) (w0 := W) (H := []) (p_VaultNewsZ constT z0 (UInt32.ofNat z1.toNat) hcase) hS 
    rw [← u32_of wf1] at hc
    refine calls_row hc ?_
    rintro v W' ⟨M, rfl, rfl⟩ hb
    exact post_true laidOut' (by kernel_rfl) rfl (by kernel_rfl) Tryd.underlying4 hW' rfl rfl rfl hb
  · skip
    have hc := c_law13_VaultNews (K := (· < W.heap.size)) (w0 := W) (H := []) (p_VaultNews constT z0 (UInt32.ofNat z1.toNat) hcase) hS 
    rw [← u32_of wf1] at hc
    refine calls_row hc ?_
    rintro v W' ⟨M, rfl, rfl⟩ hb
    exact post_true laidOut' (by kernel_rfl) rfl (by kernel_rfl) Tryd.underlying4 hW' rfl rfl rfl hb

theorem laid_met (os : Os) : laidMet Tryd.prog Rows.vaultNewsRow.laid ((laidW os).forCall (fun _ _ => 0) ⟨#[], #[.int .i64 0, .int .u32 0], []⟩).memory :=
  laidMet_of_run' 8 (by kernel_rfl) (by kernel_rfl)
theorem reads (os : Os) {H : Type} (enc : TypeId × Value → H) : ∃ places, DataW.whole enc Tryd.prog ((laidW os).forCall (fun _ _ => 0) ⟨#[], #[.int .i64 0, .int .u32 0], []⟩).memory Tryd.f3.params.toList Rows.vaultNewsSpec.vars false (#[.int .i64 0, .int .u32 0] : Array Value).toList 8 = some ([.lit (.int .i64 0), .lit (.int .u32 0)], [], places) :=
  ⟨[], by kernel_rfl⟩

set_option maxRecDepth 100000 in
theorem lifted (os : Os) (started : os.Started) (H : Type) (enc : TypeId × Value → H) (F : Stop.Interp) :
    ReturnsInHanded {} Tryd.checked os 3 .any ((OpenSpec.ofChange Rows.vaultNewsSpec).preRow enc Tryd.prog Tryd.f3 Rows.vaultNewsRow.domain false Rows.vaultNewsRow.laid) (((OpenSpec.ofChange Rows.vaultNewsSpec).at F).post enc Tryd.prog Tryd.f3 false true false false) := by
  obtain ⟨places, hx⟩ := reads os enc
  refine returnsInHanded_of_row (C := Tryd.checked) (s := OpenSpec.ofChange Rows.vaultNewsSpec) own' started (by kernel_rfl) Tryd.func3
    (witness_row_at (enc := enc) (C := Tryd.checked) false (laidW os) #[.int .i64 0, .int .u32 0] rfl (by kernel_rfl) (by kernel_rfl) (by kernel_rfl)
      (OpenSpec.preRow_of_cond 8 hx (by kernel_rfl) (fun k hk => by cases hk) (by kernel_rfl) (laid_met os))) ?_
  intro W base args ds gs before hval hW _ _ _ hL _ _
  exact contract H enc W base args ds gs before hval hW hL

theorem said : Rows.VaultNewsSaid :=
  OpenClaim.holds_of_cond 3 Tryd.f3 rfl rfl rfl rfl rfl rfl rfl ⟨rfl, rfl, rfl, rfl, rfl⟩ rfl rfl rfl rfl rfl (by kernel_rfl) Tryd.func3 (by kernel_rfl)
    (of_decide_eq_true (by kernel_rfl)) (by unfold Func.isWrapper; first | (rw [if_pos (by decide +kernel)]; kernel_rfl) | (rw [if_neg (by decide +kernel)]; exact ⟨rfl, rfl⟩))
    (fun os started H enc _ F => by rw [OpenClaim.pre_eq_preRow]; exact lifted os started H enc F)

theorem plain (f : FuncId) (fn : Func) (hf : Tryd.pinned.checked.prog.funcNamed "sphragis/sphragislaw13.VaultNews" = some f) (hfn : Tryd.pinned.checked.prog.funcs[f]? = some fn) :
    false = Tryd.pinned.checked.prog.looks [] ∧ ∀ (j : Nat) t, fn.params[j]? = some t → Tryd.pinned.checked.prog.wantsStandIn t = false := by
  obtain rfl : f = 3 := Option.some.inj ((show Tryd.prog.funcNamed "sphragis/sphragislaw13.VaultNews" = some 3 by kernel_rfl).symm.trans hf) |>.symm
  obtain rfl : fn = Tryd.f3 := (Option.some.inj (Tryd.func3.symm.trans hfn)).symm
  refine ⟨by kernel_rfl, fun j t ht => ?_⟩
  rw [Tryd.params3] at ht
  have hm : t = 3 ∨ t = 22 := by simpa using Array.mem_of_getElem? ht
  rcases hm with rfl | rfl <;> exact (show _ = false by kernel_rfl)

theorem card : Rows.VaultNewsCardSaid :=
  Claim7.holds_tied_plain_at .later [] _ _ _ _ said (fun _ h => by cases h) (by kernel_rfl) (fun _ h => by cases h) vaultNews_row_tie rfl ⟨rfl, rfl⟩ (by kernel_rfl) rfl plain (by kernel_rfl)
end Go.Proofs.YtddjneafgddlcaaDoor.rVaultNews
