/- The texts RDDoes, one behind the other: each bears its own sentence. Conditions: as each says. -/
import Derived.Test.YtddjneafgddlcaaDA1
import Derived.Test.YtddjneafgddlcaaDA2
import Derived.Test.YtddjneafgddlcaaDA3
import Derived.Test.YtddjneafgddlcaaDA4
import Derived.Test.YtddjneafgddlcaaDA5
import Derived.Test.YtddjneafgddlcaaDA6
import Derived.Test.YtddjneafgddlcaaDA7

/- DeviceDoes: the law holds for every input. No condition beyond the row's. -/
namespace Go.Proofs.Ytddjneafgddlcaa.rDeviceDoes
open Go Go.ChangeShapes Go.WideShapes Go.ChangeAt Go.RowKit

set_option maxRecDepth 100000 in
theorem contract (G : Type) (enc : TypeId × Value → G) (W : World) (base : Nat) (args : Array Value) (ds gs : List (DataW G)) (before : List MemPlace)
    (hval : ∀ (j : Nat) t v, Try.f3.params[j]? = some t → args[j]? = some v → Value.okWide Try.prog W .any base t v)
    (hW : DataW.Whole enc Try.prog Try.f3.params.toList Rows.deviceDoesSpec.vars false W args.toList ds gs before) :
    Calls Try.prog 3 args W fun e W' => ∃ v, e = .returned v ∧ Rows.deviceDoesSpec.post enc Try.prog Try.f3 false true false false W args v W' := by
  have hW' := hW
  obtain ⟨p, q, hA0, hV, rfl, hfz, hnd⟩ := hW
  have hA : DataW.TrodAll enc Try.prog W 0 (fun _ => true) true Try.f3.params.toList args.toList ds p := hA0
  rw [Try.params3] at hA hval
  obtain ⟨v0, vs0, d0, ds0, p0, q0, hargs, rfl, rfl, h0, r0⟩ := trodAll_cons hA
  obtain ⟨v1, vs1, d1, ds1, p1, q1, rfl, rfl, rfl, h1, r1⟩ := trodAll_cons r0
  obtain ⟨rfl, rfl, rfl⟩ := trodAll_nil r1
  obtain rfl : args = [v0, v1].toArray := by rw [← hargs]
  obtain ⟨rfl, rfl⟩ := trodVars_none hV
  obtain ⟨z0, rfl, rfl, rfl, wf0⟩ := open_int Try.underlying3 (hval 0 3 v0 rfl rfl) h0
  obtain ⟨l1, hk1, hx1⟩ := open_opsW (hval 1 22 v1 rfl rfl) h1
  cases hcase : blocksOk z0
  · skip
    have hc := c_law07_DeviceDoesZ (K := (· < W.heap.size)) (w0 := W) (H := []) (p_DeviceDoesZ z0 l1 hcase (Nat.le_refl 4200)) hk1 (fun x hx => (hx1 x hx).1)
    refine calls_row hc ?_
    rintro v W' ⟨M, rfl, rfl⟩ hb
    exact post_true laidOut' (by kernel_rfl) rfl (by kernel_rfl) Try.underlying4 hW' rfl rfl rfl hb
  · skip
    have hc := c_law07_DeviceDoes (K := (· < W.heap.size)) (w0 := W) (H := []) (p_DeviceDoes z0 l1 (fun x hx => i64_wf (hx1 x hx).2) hcase (Nat.le_refl 4200)) hk1 (fun x hx => (hx1 x hx).1)
    refine calls_row hc ?_
    rintro v W' ⟨M, rfl, rfl⟩ hb
    exact post_true laidOut' (by kernel_rfl) rfl (by kernel_rfl) Try.underlying4 hW' rfl rfl rfl hb

set_option maxRecDepth 100000 in
theorem lifted (os : Os) (started : os.Started) (H : Type) (enc : TypeId × Value → H) :
    ReturnsInHanded {} Try.checked os 3 .any (Rows.deviceDoesSpec.pre6 enc Try.prog Try.f3 Rows.deviceDoesRow.domain false) (Rows.deviceDoesSpec.post enc Try.prog Try.f3 false true false false) := by
  refine returnsInHanded_of_change (C := Try.checked) own' started (by kernel_rfl) Try.func3
    (ChangeSpec.witness6 (enc := enc) (C := Try.checked) false ⟨#[], #[.int .i64 0, .slice none 0 0], []⟩ 8 (by kernel_rfl) (by kernel_rfl) (by kernel_rfl) (by kernel_rfl)) ?_
  intro W base args ds gs before hval hW _ _
  exact contract H enc W base args ds gs before hval hW

theorem said : Rows.DeviceDoesSaid :=
  OpenClaim.holds_of_wide 3 Try.f3 rfl rfl rfl rfl rfl rfl rfl ⟨rfl, rfl, rfl, rfl, rfl⟩ rfl rfl rfl rfl rfl (by kernel_rfl) Try.func3 (by kernel_rfl)
    (of_decide_eq_true (by kernel_rfl)) (by unfold Func.isWrapper; first | (rw [if_pos (by decide +kernel)]; kernel_rfl) | (rw [if_neg (by decide +kernel)]; exact ⟨rfl, rfl⟩))
    (fun os started H enc _ => lifted os started H enc)
end Go.Proofs.Ytddjneafgddlcaa.rDeviceDoes
