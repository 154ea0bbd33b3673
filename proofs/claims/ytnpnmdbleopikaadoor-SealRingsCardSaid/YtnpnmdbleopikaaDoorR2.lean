/- An argument that is a head, a number. No condition beyond those stated. -/
import Derived.Test.YtnpnmdbleopikaaDoorR1
namespace Go.Proofs.YtnpnmdbleopikaaDoor
open Go Go.ChangeShapes Go.WideShapes Go.ChangeAt Go.RowKit Go.Deep Go.Lib Go.Joins

section
variable {G : Type} {enc : TypeId × Value → G} {P : Program} {W : World}
theorem open_head {t : TypeId} {f0 f1 f2 f3 : Field} {base : Nat} {v : Value} {d : DataW G} {p : List MemPlace} (ht : P.underlying t = some (.struct #[f0, f1, f2, f3])) (ct : P.cellsOf t = 4)
    (o0 : f0.offset = 0) (o1 : f1.offset = 1) (o2 : f2.offset = 2) (o3 : f3.offset = 3) (c0 : P.cellsOf f0.type = 1) (c1 : P.cellsOf f1.type = 1) (c2 : P.cellsOf f2.type = 1) (c3 : P.cellsOf f3.type = 1)
    (u0 : P.underlying f0.type = some (.int .u32)) (u1 : P.underlying f1.type = some (.int .u32)) (u2 : P.underlying f2.type = some (.int .u32)) (u3 : P.underlying f3.type = some (.int .u64))
    (hval : Value.okWide P W .any base t v) (h : DataW.Trod enc P W 0 (fun _ => true) true t v d p) : ∃ hd : HeadA, v = .agg (encHead hd).toArray := by
  obtain ⟨cs, rfl, hsz⟩ := okWide_struct ht hval
  obtain ⟨n, hn⟩ := h
  obtain ⟨y0, y1, y2, y3, m, _, _, g0, g1, g2, g3⟩ := trod_struct4 ht hn
  obtain ⟨xs⟩ := cs
  rw [ct] at hsz
  match xs, hsz with
  | [a, b, c, e], _ =>
    simp [Value.cells, o0, c0] at g0
    simp [Value.cells, o1, c1] at g1
    simp [Value.cells, o2, c2] at g2
    simp [Value.cells, o3, c3] at g3
    obtain ⟨z0, e0, _, w0⟩ := DataW.trod_int u0 g0
    obtain ⟨z1, e1, _, w1⟩ := DataW.trod_int u1 g1
    obtain ⟨z2, e2, _, w2⟩ := DataW.trod_int u2 g2
    obtain ⟨z3, e3, _, w3⟩ := DataW.trod_int u3 g3
    simp only [List.cons.injEq, and_true] at e0 e1 e2 e3
    subst e0 e1 e2 e3
    refine ⟨⟨UInt32.ofNat z0.toNat, UInt32.ofNat z1.toNat, UInt32.ofNat z2.toNat, UInt64.ofNat z3.toNat⟩, ?_⟩
    rw [u32_of w0, u32_of w1, u32_of w2, u64_of w3]
    rfl
theorem open_num {t : TypeId} {k : IntKind} {base : Nat} {v : Value} {d : DataW G} {p : List MemPlace} (ht : P.underlying t = some (.int k)) (hval : Value.okWide P W .any base t v) (h : DataW.Trod enc P W 0 (fun _ => true) true t v d p) :
    ∃ z : Int, v = .int k z ∧ (Lit.int k z).wf = true := by
  obtain ⟨z, rfl⟩ := okWide_int ht hval
  obtain ⟨n, hn⟩ := h
  obtain ⟨z', e, _, w⟩ := DataW.trod_int ht hn
  simp [Value.cells] at e
  subst e
  exact ⟨z, rfl, w⟩
end
end Go.Proofs.YtnpnmdbleopikaaDoor
