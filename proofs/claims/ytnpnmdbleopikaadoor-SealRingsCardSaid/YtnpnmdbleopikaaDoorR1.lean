/- The sum's tables, as a row lists them; the world in which a row's witness stands. No condition beyond those stated. -/
import Derived.Test.YtnpnmdbleopikaaDoorR0
import Derived.Test.YtnpnmdbleopikaaDoorJ1
namespace Go.Proofs.YtnpnmdbleopikaaDoor
open Go Go.ChangeShapes Go.WideShapes Go.ChangeAt Go.RowKit

def constT : List UInt32 := [1116352408, 1899447441, 3049323471, 3921009573, 961987163, 1508970993, 2453635748, 2870763221, 3624381080, 310598401, 607225278, 1426881987, 1925078388, 2162078206, 2614888103, 3248222580, 3835390401, 4022224774, 264347078, 604807628, 770255983, 1249150122, 1555081692, 1996064986, 2554220882, 2821834349, 2952996808, 3210313671, 3336571891, 3584528711, 113926993, 338241895, 666307205, 773529912, 1294757372, 1396182291, 1695183700, 1986661051, 2177026350, 2456956037, 2730485921, 2820302411, 3259730800, 3345764771, 3516065817, 3600352804, 4094571909, 275423344, 430227734, 506948616, 659060556, 883997877, 958139571, 1322822218, 1537002063, 1747873779, 1955562222, 2024104815, 2227730452, 2361852424, 2428436474, 2756734187, 3204031479, 3329325298]
def constZ : List Int := [1116352408, 1899447441, 3049323471, 3921009573, 961987163, 1508970993, 2453635748, 2870763221, 3624381080, 310598401, 607225278, 1426881987, 1925078388, 2162078206, 2614888103, 3248222580, 3835390401, 4022224774, 264347078, 604807628, 770255983, 1249150122, 1555081692, 1996064986, 2554220882, 2821834349, 2952996808, 3210313671, 3336571891, 3584528711, 113926993, 338241895, 666307205, 773529912, 1294757372, 1396182291, 1695183700, 1986661051, 2177026350, 2456956037, 2730485921, 2820302411, 3259730800, 3345764771, 3516065817, 3600352804, 4094571909, 275423344, 430227734, 506948616, 659060556, 883997877, 958139571, 1322822218, 1537002063, 1747873779, 1955562222, 2024104815, 2227730452, 2361852424, 2428436474, 2756734187, 3204031479, 3329325298]
def firstZ : List Int := [1779033703, 3144134277, 1013904242, 2773480762, 1359893119, 2600822924, 528734635, 1541459225]
section
variable {P : Program} {W : World}
theorem laidMet_tl {x : String × DataW Unit} {r : List (String × DataW Unit)} (h : laidMet P (x :: r) W) : laidMet P r W := by
  obtain ⟨ps, ⟨g, t, cs, fuel, p, q, _, _, _, _, hs, rfl⟩, hn, hc⟩ := h
  exact ⟨q, hs, (List.nodup_append.1 hn).2.1, fun b off hb => hc b off (List.mem_append_right _ hb)⟩
theorem tab_of {name : String} {g : Nat} {zs : List Int} {T : List UInt32} (hg : P.globalNamed name = some g) (h : Lib.TabIs P W name .u32 zs) (hl : T ≠ []) (hz : zs = T.map fun x => (x.toNat : Int)) : Tab (· < W.heap.size) W g T := by
  have hc : ∀ i x, T[i]? = some x → W.cell? ⟨g, i, none⟩ = some (vU32 x) := by
    intro i x hx
    obtain ⟨hi, rfl⟩ := List.getElem?_eq_some_iff.1 hx
    have := h.cell hg i (by rw [hz]; simpa using hi)
    rw [this, hz]
    simp [vU32, List.getD_eq_getElem?_getD, hi]
  refine ⟨?_, hc⟩
  obtain ⟨x, r, rfl⟩ := List.exists_cons_of_ne_nil hl
  have h0 := hc 0 x rfl
  rcases Nat.lt_or_ge g W.heap.size with h | h
  · exact h
  · have : W.heap[g]? = none := by simp [h]
    simp [World.cell?, this] at h0
end
theorem own' : ownKnob Tryd.prog.godebug = none := by kernel_rfl
theorem laidOut' : laidOutB Tryd.prog = true := by kernel_rfl
theorem gFirst : Tryd.prog.globalNamed "sphragis/sha.first" = some 0 := by kernel_rfl
theorem gConst : Tryd.prog.globalNamed "sphragis/sha.constants" = some 2 := by kernel_rfl
theorem gFirstT : (Tryd.prog.globals[0]?).map (·.type) = some 109 := by kernel_rfl
theorem gConstT : (Tryd.prog.globals[2]?).map (·.type) = some 135 := by kernel_rfl
theorem cells22' : Tryd.prog.cellsOf 22 = 1 := by kernel_rfl
theorem cells109' : Tryd.prog.cellsOf 109 = 8 := by kernel_rfl
theorem cells135' : Tryd.prog.cellsOf 135 = 64 := by kernel_rfl
theorem cells44' : Tryd.prog.cellsOf 44 = 2 := by kernel_rfl
theorem cells9' : Tryd.prog.cellsOf 9 = 1 := by kernel_rfl
/-- the tables of the sum, as the rows list them -/
theorem shaT_of {W : World} (h : laidMetH Tryd.prog [("sphragis/sha.first", Rows.laid_sphragis_sha_first), ("sphragis/sha.constants", Rows.laid_sphragis_sha_constants)] W) : ShaT (· < W.heap.size) W constT := by
  have h0 : laidMet Tryd.prog [("sphragis/sha.first", Lib.tabData .u32 firstZ), ("sphragis/sha.constants", Lib.tabData .u32 constZ)] W := h
  refine ⟨?_, rfl, ?_⟩
  · exact tab_of gConst (Lib.tabIs_of_head (rest := []) gConst gConstT Tryd.underlying135 Tryd.underlying22 cells22' cells135' (laidMet_tl h0)) (by simp [constT]) (by kernel_rfl)
  · exact tab_of gFirst (Lib.tabIs_of_head gFirst gFirstT Tryd.underlying109 Tryd.underlying22 cells22' cells109' h0) (by simp [firstA, St8.list]) (by kernel_rfl)
/-- cells of a table, laid -/
def layZ (zs : List Int) : Obj → Obj
  | .cells _ t frozen => .cells (zs.map fun z => Value.int .u32 z).toArray t frozen
  | o => o
/-- a world for the witnesses: the settled one, the two tables as their initialisers lay them -/
noncomputable def laidW (os : Os) : World :=
  { World.holding Tryd.prog os ⟨#[], #[], []⟩ with heap := ((World.holding Tryd.prog os ⟨#[], #[], []⟩).heap.modify 0 (layZ firstZ)).modify 2 (layZ constZ) }
end Go.Proofs.YtnpnmdbleopikaaDoor
