/- The texts RVNone, one behind the other, of the proof of RVNone: each bears its own sentence. Conditions: as each says. -/
import Derived.Test.YtddjneafgddlcaaDoorVA1
import Derived.Test.YtddjneafgddlcaaDoorVA2
import Derived.Test.YtddjneafgddlcaaDoorVA3
import Derived.Test.YtddjneafgddlcaaDoorVA4
import Derived.Test.YtddjneafgddlcaaDoorVA5
import Derived.Test.YtddjneafgddlcaaDoorVA6
import Derived.Test.YtddjneafgddlcaaDoorCards
import Derived.Test.YtddjneafgddlcaaDoorTie

/- THE CARD OF VaultNone. No condition beyond the row's. -/
namespace Go.Proofs.YtddjneafgddlcaaDoor.rVaultNone
open Go Go.ChangeShapes Go.WideShapes Go.ChangeAt Go.RowKit

set_option maxRecDepth 100000 in
theorem contract (G : Type) (enc : TypeId × Value → G) (W : World) (base : Nat) (args : Array Value) (ds gs : List (DataW G)) (before : List MemPlace)
    (hval : ∀ (j : Nat) t v, Tryd.f8.params[j]? = some t → args[j]? = some v → Value.okWide Tryd.prog W .any base t v)
    (hW : DataW.Whole enc Tryd.prog Tryd.f8.params.toList Rows.vaultNoneSpec.vars false W args.toList ds gs before) (hL : laidMetH Tryd.prog Rows.vaultNoneRow.laid W) :
    Calls Tryd.prog 8 args W fun e W' => ∃ v, e = .returned v ∧ Rows.vaultNoneSpec.post enc Tryd.prog Tryd.f8 false true false false W args v W' := by
  have hW' := hW
  obtain ⟨p, q, hA0, hV, rfl, hfz, hnd⟩ := hW
  have hA : DataW.TrodAll enc Tryd.prog W 0 (fun _ => true) true Tryd.f8.params.toList args.toList ds p := hA0
  rw [Tryd.params8] at hA hval
  obtain ⟨v0, vs0, d0, ds0, p0, q0, hargs, rfl, rfl, h0, r0⟩ := trodAll_cons hA
  obtain ⟨v1, vs1, d1, ds1, p1, q1, rfl, rfl, rfl, h1, r1⟩ := trodAll_cons r0
  obtain ⟨v2, vs2, d2, ds2, p2, q2, rfl, rfl, rfl, h2, r2⟩ := trodAll_cons r1
  obtain ⟨rfl, rfl, rfl⟩ := trodAll_nil r2
  obtain rfl : args = [v0, v1, v2].toArray := by rw [← hargs]
  obtain ⟨rfl, rfl⟩ := trodVars_none hV
  obtain ⟨s0, rfl, rfl, rfl, hm0⟩ := Go.ChangeMaps.open_string Tryd.underlying9 (hval 0 9 v0 rfl rfl) h0
  obtain ⟨x1, rfl⟩ := open_ref Tryd.underlying41 (by kernel_rfl) rfl rfl (by kernel_rfl) (by kernel_rfl) Tryd.underlying22 Tryd.underlying9 (hval 1 41 v1 rfl rfl) h1
  obtain ⟨z2, rfl, wf2⟩ := open_num (k := .u32) (by kernel_rfl) (hval 2 22 v2 rfl rfl) h2
  have hS := shaT_of hL
  have hc := c_law13_VaultNone (K := (· < W.heap.size)) (w0 := W) (H := []) (p_VaultNone constT s0.data.toList x1 (UInt32.ofNat z2.toNat)) hS 
  rw [← str_of, ← u32_of wf2] at hc
  refine calls_row hc ?_
  rintro v W' ⟨M, rfl, rfl⟩ hb
  exact post_true laidOut' (by kernel_rfl) rfl (by kernel_rfl) Tryd.underlying4 hW' rfl rfl rfl hb

theorem laid_met (os : Os) : laidMet Tryd.prog Rows.vaultNoneRow.laid ((laidW os).forCall (fun _ _ => 0) ⟨#[], #[.string ⟨#[]⟩, .agg #[.int .u32 0, .string ⟨#[]⟩], .int .u32 0], []⟩).memory :=
  laidMet_of_run' 8 (by kernel_rfl) (by kernel_rfl)
theorem reads (os : Os) {H : Type} (enc : TypeId × Value → H) : ∃ places, DataW.whole enc Tryd.prog ((laidW os).forCall (fun _ _ => 0) ⟨#[], #[.string ⟨#[]⟩, .agg #[.int .u32 0, .string ⟨#[]⟩], .int .u32 0], []⟩).memory Tryd.f8.params.toList Rows.vaultNoneSpec.vars false (#[.string ⟨#[]⟩, .agg #[.int .u32 0, .string ⟨#[]⟩], .int .u32 0] : Array Value).toList 8 = some ([.lit (.string []), .agg [.lit (.int .u32 0), .lit (.string [])], .lit (.int .u32 0)], [], places) :=
  ⟨[], by kernel_rfl⟩

set_option maxRecDepth 100000 in
theorem lifted (os : Os) (started : os.Started) (H : Type) (enc : TypeId × Value → H) (F : Stop.Interp) :
    ReturnsInHanded {} Tryd.checked os 8 .any ((OpenSpec.ofChange Rows.vaultNoneSpec).preRow enc Tryd.prog Tryd.f8 Rows.vaultNoneRow.domain false Rows.vaultNoneRow.laid) (((OpenSpec.ofChange Rows.vaultNoneSpec).at F).post enc Tryd.prog Tryd.f8 false true false false) := by
  obtain ⟨places, hx⟩ := reads os enc
  refine returnsInHanded_of_row (C := Tryd.checked) (s := OpenSpec.ofChange Rows.vaultNoneSpec) own' started (by kernel_rfl) Tryd.func8
    (witness_row_at (enc := enc) (C := Tryd.checked) false (laidW os) #[.string ⟨#[]⟩, .agg #[.int .u32 0, .string ⟨#[]⟩], .int .u32 0] rfl (by kernel_rfl) (by kernel_rfl) (by kernel_rfl)
      (OpenSpec.preRow_of_cond 8 hx (by kernel_rfl) (fun k hk => by cases hk) (by kernel_rfl) (laid_met os))) ?_
  intro W base args ds gs before hval hW _ _ _ hL _ _
  exact contract H enc W base args ds gs before hval hW hL

theorem said : Rows.VaultNoneSaid :=
  OpenClaim.holds_of_cond 8 Tryd.f8 rfl rfl rfl rfl rfl rfl rfl ⟨rfl, rfl, rfl, rfl, rfl⟩ rfl rfl rfl rfl rfl (by kernel_rfl) Tryd.func8 (by kernel_rfl)
    (of_decide_eq_true (by kernel_rfl)) (by unfold Func.isWrapper; first | (rw [if_pos (by decide +kernel)]; kernel_rfl) | (rw [if_neg (by decide +kernel)]; exact ⟨rfl, rfl⟩))
    (fun os started H enc _ F => by rw [OpenClaim.pre_eq_preRow]; exact lifted os started H enc F)

theorem plain (f : FuncId) (fn : Func) (hf : Tryd.pinned.checked.prog.funcNamed "sphragis/sphragislaw13.VaultNone" = some f) (hfn : Tryd.pinned.checked.prog.funcs[f]? = some fn) :
    false = Tryd.pinned.checked.prog.looks [] ∧ ∀ (j : Nat) t, fn.params[j]? = some t → Tryd.pinned.checked.prog.wantsStandIn t = false := by
  obtain rfl : f = 8 := Option.some.inj ((show Tryd.prog.funcNamed "sphragis/sphragislaw13.VaultNone" = some 8 by kernel_rfl).symm.trans hf) |>.symm
  obtain rfl : fn = Tryd.f8 := (Option.some.inj (Tryd.func8.symm.trans hfn)).symm
  refine ⟨by kernel_rfl, fun j t ht => ?_⟩
  rw [Tryd.params8] at ht
  have hm : t = 9 ∨ t = 41 ∨ t = 22 := by simpa using Array.mem_of_getElem? ht
  rcases hm with rfl | rfl | rfl <;> exact (show _ = false by kernel_rfl)

theorem card : Rows.VaultNoneCardSaid :=
  Claim7.holds_tied_plain_at .later [] _ _ _ _ said (fun _ h => by cases h) (by kernel_rfl) (fun _ h => by cases h) vaultNone_row_tie rfl ⟨rfl, rfl⟩ (by kernel_rfl) rfl plain (by kernel_rfl)
end Go.Proofs.YtddjneafgddlcaaDoor.rVaultNone
