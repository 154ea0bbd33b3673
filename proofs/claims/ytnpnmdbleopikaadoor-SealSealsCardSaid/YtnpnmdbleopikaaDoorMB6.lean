/- The texts RSeals, one behind the other, of the proof of RSeals: each bears its own sentence. Conditions: as each says. -/
import Derived.Test.YtnpnmdbleopikaaDoorMB1
import Derived.Test.YtnpnmdbleopikaaDoorMB2
import Derived.Test.YtnpnmdbleopikaaDoorMB3
import Derived.Test.YtnpnmdbleopikaaDoorMB4
import Derived.Test.YtnpnmdbleopikaaDoorMB5
import Derived.Test.YtnpnmdbleopikaaDoorCards
import Derived.Test.YtnpnmdbleopikaaDoorTie

/- THE CARD OF SealSeals. No condition beyond the row's. -/
namespace Go.Proofs.YtnpnmdbleopikaaDoor.rSealSeals
open Go Go.ChangeShapes Go.WideShapes Go.ChangeAt Go.RowKit

set_option maxRecDepth 100000 in
theorem contract (G : Type) (enc : TypeId × Value → G) (W : World) (base : Nat) (args : Array Value) (ds gs : List (DataW G)) (before : List MemPlace)
    (hval : ∀ (j : Nat) t v, Tryd.f4.params[j]? = some t → args[j]? = some v → Value.okWide Tryd.prog W .any base t v)
    (hW : DataW.Whole enc Tryd.prog Tryd.f4.params.toList Rows.sealSealsSpec.vars false W args.toList ds gs before) (hL : laidMetH Tryd.prog Rows.sealSealsRow.laid W) :
    Calls Tryd.prog 4 args W fun e W' => ∃ v, e = .returned v ∧ Rows.sealSealsSpec.post enc Tryd.prog Tryd.f4 false true false false W args v W' := by
  have hW' := hW
  obtain ⟨p, q, hA0, hV, rfl, hfz, hnd⟩ := hW
  have hA : DataW.TrodAll enc Tryd.prog W 0 (fun _ => true) true Tryd.f4.params.toList args.toList ds p := hA0
  rw [Tryd.params4] at hA hval
  obtain ⟨v0, vs0, d0, ds0, p0, q0, hargs, rfl, rfl, h0, r0⟩ := trodAll_cons hA
  obtain ⟨v1, vs1, d1, ds1, p1, q1, rfl, rfl, rfl, h1, r1⟩ := trodAll_cons r0
  obtain ⟨v2, vs2, d2, ds2, p2, q2, rfl, rfl, rfl, h2, r2⟩ := trodAll_cons r1
  obtain ⟨rfl, rfl, rfl⟩ := trodAll_nil r2
  obtain rfl : args = [v0, v1, v2].toArray := by rw [← hargs]
  obtain ⟨rfl, rfl⟩ := trodVars_none hV
  obtain ⟨l, hk, hl⟩ := open_keys Tryd.underlying32 Tryd.underlying44 cells44' rfl rfl (by kernel_rfl) cells9' Tryd.underlying22 Tryd.underlying9 (hval 0 32 v0 rfl rfl) h0
  obtain ⟨hd1, rfl⟩ := open_head Tryd.underlying25 (by kernel_rfl) rfl rfl rfl rfl (by kernel_rfl) (by kernel_rfl) (by kernel_rfl) (by kernel_rfl) Tryd.underlying22 Tryd.underlying22 Tryd.underlying22 (by kernel_rfl) (hval 1 25 v1 rfl rfl) h1
  obtain ⟨s2, rfl, rfl, rfl, hm2⟩ := Go.ChangeMaps.open_string Tryd.underlying9 (hval 2 9 v2 rfl rfl) h2
  have hs2 : s2.data.toList.length ≤ 9223372036854775807 := hm2
  obtain ⟨hS, hT⟩ := shaT_of3 hL
  have hc := c_law06_SealSeals (H := []) (p_SealSeals constT l hd1 s2.data.toList constT_len hl hs2) hS hT hk
  rw [← str_of] at hc
  refine calls_row hc ?_
  rintro v W' ⟨M, rfl, rfl⟩ hb
  exact post_true laidOut' (by kernel_rfl) rfl (by kernel_rfl) Tryd.underlying4 hW' rfl rfl rfl hb

theorem laid_met (os : Os) : laidMet Tryd.prog Rows.sealSealsRow.laid ((laidW3 os).forCall (fun _ _ => 0) ⟨#[], #[.slice none 0 0, .agg #[.int .u32 0, .int .u32 0, .int .u32 0, .int .u64 0], .string ⟨#[]⟩], []⟩).memory :=
  laidMet_of_run' 8 (by kernel_rfl) (by kernel_rfl)
theorem reads (os : Os) {H : Type} (enc : TypeId × Value → H) : ∃ places, DataW.whole enc Tryd.prog ((laidW3 os).forCall (fun _ _ => 0) ⟨#[], #[.slice none 0 0, .agg #[.int .u32 0, .int .u32 0, .int .u32 0, .int .u64 0], .string ⟨#[]⟩], []⟩).memory Tryd.f4.params.toList Rows.sealSealsSpec.vars false (#[.slice none 0 0, .agg #[.int .u32 0, .int .u32 0, .int .u32 0, .int .u64 0], .string ⟨#[]⟩] : Array Value).toList 8 = some ([.nil, .agg [.lit (.int .u32 0), .lit (.int .u32 0), .lit (.int .u32 0), .lit (.int .u64 0)], .lit (.string [])], [], places) :=
  ⟨[], by kernel_rfl⟩

set_option maxRecDepth 100000 in
theorem lifted (os : Os) (started : os.Started) (H : Type) (enc : TypeId × Value → H) (F : Stop.Interp) :
    ReturnsInHanded {} Tryd.checked os 4 .any ((OpenSpec.ofChange Rows.sealSealsSpec).preRow enc Tryd.prog Tryd.f4 Rows.sealSealsRow.domain false Rows.sealSealsRow.laid) (((OpenSpec.ofChange Rows.sealSealsSpec).at F).post enc Tryd.prog Tryd.f4 false true false false) := by
  obtain ⟨places, hx⟩ := reads os enc
  refine returnsInHanded_of_row (C := Tryd.checked) (s := OpenSpec.ofChange Rows.sealSealsSpec) own' started (by kernel_rfl) Tryd.func4
    (witness_row_at (enc := enc) (C := Tryd.checked) false (laidW3 os) #[.slice none 0 0, .agg #[.int .u32 0, .int .u32 0, .int .u32 0, .int .u64 0], .string ⟨#[]⟩] rfl (by kernel_rfl) (by kernel_rfl) (by kernel_rfl)
      (OpenSpec.preRow_of_cond 8 hx (by kernel_rfl) (fun k hk => by cases hk) (by kernel_rfl) (laid_met os))) ?_
  intro W base args ds gs before hval hW _ _ _ hL _ _
  exact contract H enc W base args ds gs before hval hW hL

theorem said : Rows.SealSealsSaid :=
  OpenClaim.holds_of_cond 4 Tryd.f4 rfl rfl rfl rfl rfl rfl rfl ⟨rfl, rfl, rfl, rfl, rfl⟩ rfl rfl rfl rfl rfl (by kernel_rfl) Tryd.func4 (by kernel_rfl)
    (of_decide_eq_true (by kernel_rfl)) (by unfold Func.isWrapper; first | (rw [if_pos (by decide +kernel)]; kernel_rfl) | (rw [if_neg (by decide +kernel)]; exact ⟨rfl, rfl⟩))
    (fun os started H enc _ F => by rw [OpenClaim.pre_eq_preRow]; exact lifted os started H enc F)

theorem plain (f : FuncId) (fn : Func) (hf : Tryd.pinned.checked.prog.funcNamed "sphragis/sphragislaw06.SealSeals" = some f) (hfn : Tryd.pinned.checked.prog.funcs[f]? = some fn) :
    false = Tryd.pinned.checked.prog.looks [] ∧ ∀ (j : Nat) t, fn.params[j]? = some t → Tryd.pinned.checked.prog.wantsStandIn t = false := by
  obtain rfl : f = 4 := Option.some.inj ((show Tryd.prog.funcNamed "sphragis/sphragislaw06.SealSeals" = some 4 by kernel_rfl).symm.trans hf) |>.symm
  obtain rfl : fn = Tryd.f4 := (Option.some.inj (Tryd.func4.symm.trans hfn)).symm
  refine ⟨by kernel_rfl, fun j t ht => ?_⟩
  rw [Tryd.params4] at ht
  have hm : t = 32 ∨ t = 25 ∨ t = 9 := by simpa using Array.mem_of_getElem? ht
  rcases hm with rfl | rfl | rfl <;> exact (show _ = false by kernel_rfl)

theorem card : Rows.SealSealsCardSaid :=
  Claim7.holds_tied_plain_at .later [] _ _ _ _ said (fun _ h => by cases h) (by kernel_rfl) (fun _ h => by cases h) sealSeals_row_tie rfl ⟨rfl, rfl⟩ (by kernel_rfl) rfl plain (by kernel_rfl)
end Go.Proofs.YtnpnmdbleopikaaDoor.rSealSeals
