/- Closed facts of the loaded program: types and functions, each by the kernel. No condition. -/
import Derived.Test.YtnpnmdbleopikaaDoorChecked
import Derived.Test.YtnpnmdbleopikaaDoorS13
namespace Go.Proofs.YtnpnmdbleopikaaDoor
open Go
set_option maxRecDepth 100000
theorem mix : Tryd.prog.follows .mixedOrders = true := by kernel_rfl
theorem ag102 : agz Tryd.prog 102 = some 16 := by kernel_rfl
theorem ag109 : agz Tryd.prog 109 = some 8 := by kernel_rfl
theorem ag111 : agz Tryd.prog 111 = some 10 := by kernel_rfl
theorem ag129 : agz Tryd.prog 129 = some 4 := by kernel_rfl
theorem ag135 : agz Tryd.prog 135 = some 64 := by kernel_rfl
theorem ag140 : agz Tryd.prog 140 = some 2 := by kernel_rfl
theorem ag25 : agz Tryd.prog 25 = some 4 := by kernel_rfl
theorem ag44 : agz Tryd.prog 44 = some 2 := by kernel_rfl
theorem by44 : byt Tryd.prog 44 = some 24 := by kernel_rfl
theorem by5 : byt Tryd.prog 5 = some 1 := by kernel_rfl
theorem by9 : byt Tryd.prog 9 = some 16 := by kernel_rfl
theorem cal10 : callable Tryd.prog 10 = true := by kernel_rfl
theorem cal100 : callable Tryd.prog 100 = true := by kernel_rfl
theorem cal11 : callable Tryd.prog 11 = true := by kernel_rfl
theorem cal13 : callable Tryd.prog 13 = true := by kernel_rfl
theorem cal15 : callable Tryd.prog 15 = true := by kernel_rfl
theorem cal16 : callable Tryd.prog 16 = true := by kernel_rfl
theorem cal17 : callable Tryd.prog 17 = true := by kernel_rfl
theorem cal19 : callable Tryd.prog 19 = true := by kernel_rfl
theorem cal21 : callable Tryd.prog 21 = true := by kernel_rfl
theorem cal22 : callable Tryd.prog 22 = true := by kernel_rfl
theorem cal24 : callable Tryd.prog 24 = true := by kernel_rfl
theorem cal25 : callable Tryd.prog 25 = true := by kernel_rfl
theorem cal26 : callable Tryd.prog 26 = true := by kernel_rfl
theorem cal28 : callable Tryd.prog 28 = true := by kernel_rfl
theorem cal29 : callable Tryd.prog 29 = true := by kernel_rfl
theorem cal30 : callable Tryd.prog 30 = true := by kernel_rfl
theorem cal31 : callable Tryd.prog 31 = true := by kernel_rfl
theorem cal32 : callable Tryd.prog 32 = true := by kernel_rfl
theorem cal38 : callable Tryd.prog 38 = true := by kernel_rfl
theorem cal39 : callable Tryd.prog 39 = true := by kernel_rfl
theorem cal40 : callable Tryd.prog 40 = true := by kernel_rfl
theorem cal45 : callable Tryd.prog 45 = true := by kernel_rfl
theorem cal46 : callable Tryd.prog 46 = true := by kernel_rfl
theorem cal47 : callable Tryd.prog 47 = true := by kernel_rfl
theorem cal48 : callable Tryd.prog 48 = true := by kernel_rfl
theorem cal49 : callable Tryd.prog 49 = true := by kernel_rfl
theorem cal50 : callable Tryd.prog 50 = true := by kernel_rfl
theorem cal51 : callable Tryd.prog 51 = true := by kernel_rfl
theorem cal52 : callable Tryd.prog 52 = true := by kernel_rfl
theorem cal56 : callable Tryd.prog 56 = true := by kernel_rfl
theorem cal58 : callable Tryd.prog 58 = true := by kernel_rfl
theorem cal59 : callable Tryd.prog 59 = true := by kernel_rfl
theorem cal60 : callable Tryd.prog 60 = true := by kernel_rfl
theorem cal61 : callable Tryd.prog 61 = true := by kernel_rfl
theorem cal63 : callable Tryd.prog 63 = true := by kernel_rfl
theorem cal64 : callable Tryd.prog 64 = true := by kernel_rfl
theorem cal65 : callable Tryd.prog 65 = true := by kernel_rfl
theorem cal66 : callable Tryd.prog 66 = true := by kernel_rfl
theorem cal67 : callable Tryd.prog 67 = true := by kernel_rfl
theorem cal68 : callable Tryd.prog 68 = true := by kernel_rfl
theorem cal69 : callable Tryd.prog 69 = true := by kernel_rfl
theorem cal70 : callable Tryd.prog 70 = true := by kernel_rfl
theorem cal71 : callable Tryd.prog 71 = true := by kernel_rfl
theorem cal72 : callable Tryd.prog 72 = true := by kernel_rfl
theorem cal77 : callable Tryd.prog 77 = true := by kernel_rfl
theorem cal82 : callable Tryd.prog 82 = true := by kernel_rfl
theorem cal84 : callable Tryd.prog 84 = true := by kernel_rfl
theorem cal85 : callable Tryd.prog 85 = true := by kernel_rfl
theorem cal86 : callable Tryd.prog 86 = true := by kernel_rfl
theorem cal87 : callable Tryd.prog 87 = true := by kernel_rfl
theorem cal88 : callable Tryd.prog 88 = true := by kernel_rfl
theorem cal89 : callable Tryd.prog 89 = true := by kernel_rfl
theorem cal90 : callable Tryd.prog 90 = true := by kernel_rfl
theorem cal95 : callable Tryd.prog 95 = true := by kernel_rfl
theorem cal96 : callable Tryd.prog 96 = true := by kernel_rfl
theorem cal97 : callable Tryd.prog 97 = true := by kernel_rfl
theorem cal98 : callable Tryd.prog 98 = true := by kernel_rfl
theorem cal99 : callable Tryd.prog 99 = true := by kernel_rfl
theorem ce5 : Tryd.prog.cellsOf 5 = 1 := by kernel_rfl
theorem fl25 : flt Tryd.prog 25 = some [(0, .int .u32), (1, .int .u32), (2, .int .u32), (3, .int .u64)] := by kernel_rfl
theorem fo111_0 : fo Tryd.prog 111 0 = some 0 := by kernel_rfl
theorem fo111_1 : fo Tryd.prog 111 1 = some 8 := by kernel_rfl
theorem fo111_2 : fo Tryd.prog 111 2 = some 9 := by kernel_rfl
theorem fo25_0 : fo Tryd.prog 25 0 = some 0 := by kernel_rfl
theorem fo25_1 : fo Tryd.prog 25 1 = some 1 := by kernel_rfl
theorem fo25_2 : fo Tryd.prog 25 2 = some 2 := by kernel_rfl
theorem fo25_3 : fo Tryd.prog 25 3 = some 3 := by kernel_rfl
theorem fo44_0 : fo Tryd.prog 44 0 = some 0 := by kernel_rfl
theorem fo44_1 : fo Tryd.prog 44 1 = some 1 := by kernel_rfl
theorem fo53_0 : fo Tryd.prog 53 0 = some 0 := by kernel_rfl
theorem fo53_1 : fo Tryd.prog 53 1 = some 1 := by kernel_rfl
theorem fo55_0 : fo Tryd.prog 55 0 = some 0 := by kernel_rfl
theorem li53 : liesAt Tryd.prog Tryd.prog.depth 53 (2 / Tryd.prog.cellsOf 53) 0 53 1 = true := by kernel_rfl
theorem li55 : liesAt Tryd.prog Tryd.prog.depth 55 (2 / Tryd.prog.cellsOf 55) 0 53 1 = true := by kernel_rfl
theorem pk111 : plk Tryd.prog 111 = true := by kernel_rfl
theorem pk141 : plk Tryd.prog 141 = true := by kernel_rfl
theorem pk25 : plk Tryd.prog 25 = true := by kernel_rfl
theorem pk44 : plk Tryd.prog 44 = true := by kernel_rfl
theorem pl111 : plc Tryd.prog 111 = some [(0, 8), (8, 1), (9, 1)] := by kernel_rfl
theorem pl141 : plc Tryd.prog 141 = some [(0, 2), (2, 2)] := by kernel_rfl
theorem pl25 : plc Tryd.prog 25 = some [(0, 1), (1, 1), (2, 1), (3, 1)] := by kernel_rfl
theorem pl44 : plc Tryd.prog 44 = some [(0, 1), (1, 1)] := by kernel_rfl
theorem sc105 : scl Tryd.prog 105 = true := by kernel_rfl
theorem sc22 : scl Tryd.prog 22 = true := by kernel_rfl
theorem sc23 : scl Tryd.prog 23 = true := by kernel_rfl
theorem sc3 : scl Tryd.prog 3 = true := by kernel_rfl
theorem sc32 : scl Tryd.prog 32 = true := by kernel_rfl
theorem sc4 : scl Tryd.prog 4 = true := by kernel_rfl
theorem sc41 : scl Tryd.prog 41 = true := by kernel_rfl
theorem sc51 : scl Tryd.prog 51 = true := by kernel_rfl
theorem sc83 : scl Tryd.prog 83 = true := by kernel_rfl
theorem sc9 : scl Tryd.prog 9 = true := by kernel_rfl
theorem sz102 : tsz Tryd.prog 102 = some 16 := by kernel_rfl
theorem sz111 : tsz Tryd.prog 111 = some 10 := by kernel_rfl
theorem sz129 : tsz Tryd.prog 129 = some 4 := by kernel_rfl
theorem sz135 : tsz Tryd.prog 135 = some 64 := by kernel_rfl
theorem sz140 : tsz Tryd.prog 140 = some 2 := by kernel_rfl
theorem sz22 : tsz Tryd.prog 22 = some 1 := by kernel_rfl
theorem sz23 : tsz Tryd.prog 23 = some 1 := by kernel_rfl
theorem sz25 : tsz Tryd.prog 25 = some 4 := by kernel_rfl
theorem sz3 : tsz Tryd.prog 3 = some 1 := by kernel_rfl
theorem sz4 : tsz Tryd.prog 4 = some 1 := by kernel_rfl
theorem sz41 : tsz Tryd.prog 41 = some 1 := by kernel_rfl
theorem sz44 : tsz Tryd.prog 44 = some 2 := by kernel_rfl
theorem sz5 : tsz Tryd.prog 5 = some 1 := by kernel_rfl
theorem sz51 : tsz Tryd.prog 51 = some 1 := by kernel_rfl
theorem sz53 : tsz Tryd.prog 53 = some 2 := by kernel_rfl
theorem sz9 : tsz Tryd.prog 9 = some 1 := by kernel_rfl
theorem ty102 : Tryd.prog.underlying 102 = some (.array 16 22) := by kernel_rfl
theorem ty104 : Tryd.prog.underlying 104 = some (.slice 22) := by kernel_rfl
theorem ty105 : Tryd.prog.underlying 105 = some (.pointer 111) := by kernel_rfl
theorem ty108 : Tryd.prog.underlying 108 = some (.array 8 22) := by kernel_rfl
theorem ty109 : Tryd.prog.underlying 109 = some (.array 8 22) := by kernel_rfl
theorem ty117 : Tryd.prog.underlying 117 = some (.unsafePointer) := by kernel_rfl
theorem ty128 : Tryd.prog.underlying 128 = some (.array 4 3) := by kernel_rfl
theorem ty129 : Tryd.prog.underlying 129 = some (.array 4 22) := by kernel_rfl
theorem ty135 : Tryd.prog.underlying 135 = some (.array 64 22) := by kernel_rfl
theorem ty140 : Tryd.prog.underlying 140 = some (.array 2 3) := by kernel_rfl
theorem ty141 : Tryd.prog.underlying 141 = some (.array 2 140) := by kernel_rfl
theorem ty22 : Tryd.prog.underlying 22 = some (.int .u32) := by kernel_rfl
theorem ty23 : Tryd.prog.underlying 23 = some (.int .u64) := by kernel_rfl
theorem ty3 : Tryd.prog.underlying 3 = some (.int .i64) := by kernel_rfl
theorem ty32 : Tryd.prog.underlying 32 = some (.slice 44) := by kernel_rfl
theorem ty41 : Tryd.prog.underlying 41 = some (.slice 5) := by kernel_rfl
theorem ty5 : Tryd.prog.underlying 5 = some (.int .u8) := by kernel_rfl
theorem ty51 : Tryd.prog.underlying 51 = some (.pointer 53) := by kernel_rfl
theorem ty71 : Tryd.prog.underlying 71 = some (.array 5 3) := by kernel_rfl
theorem ty76 : Tryd.prog.underlying 76 = some (.pointer 5) := by kernel_rfl
theorem ty79 : Tryd.prog.underlying 79 = some (.int .u64) := by kernel_rfl
theorem ty83 : Tryd.prog.underlying 83 = some (.slice 9) := by kernel_rfl
theorem ty9 : Tryd.prog.underlying 9 = some (.string) := by kernel_rfl
theorem ze102 : zer Tryd.prog 102 = some (.agg #[.int .u32 0, .int .u32 0, .int .u32 0, .int .u32 0, .int .u32 0, .int .u32 0, .int .u32 0, .int .u32 0, .int .u32 0, .int .u32 0, .int .u32 0, .int .u32 0, .int .u32 0, .int .u32 0, .int .u32 0, .int .u32 0]) := by kernel_rfl
theorem ze108 : zer Tryd.prog 108 = some (.agg #[.int .u32 0, .int .u32 0, .int .u32 0, .int .u32 0, .int .u32 0, .int .u32 0, .int .u32 0, .int .u32 0]) := by kernel_rfl
theorem ze111 : zer Tryd.prog 111 = some (.agg #[.int .u32 0, .int .u32 0, .int .u32 0, .int .u32 0, .int .u32 0, .int .u32 0, .int .u32 0, .int .u32 0, .string ⟨⟨[]⟩⟩, .int .i64 0]) := by kernel_rfl
theorem ze128 : zer Tryd.prog 128 = some (.agg #[.int .i64 0, .int .i64 0, .int .i64 0, .int .i64 0]) := by kernel_rfl
theorem ze129 : zer Tryd.prog 129 = some (.agg #[.int .u32 0, .int .u32 0, .int .u32 0, .int .u32 0]) := by kernel_rfl
theorem ze135 : zer Tryd.prog 135 = some (.agg #[.int .u32 0, .int .u32 0, .int .u32 0, .int .u32 0, .int .u32 0, .int .u32 0, .int .u32 0, .int .u32 0, .int .u32 0, .int .u32 0, .int .u32 0, .int .u32 0, .int .u32 0, .int .u32 0, .int .u32 0, .int .u32 0, .int .u32 0, .int .u32 0, .int .u32 0, .int .u32 0, .int .u32 0, .int .u32 0, .int .u32 0, .int .u32 0, .int .u32 0, .int .u32 0, .int .u32 0, .int .u32 0, .int .u32 0, .int .u32 0, .int .u32 0, .int .u32 0, .int .u32 0, .int .u32 0, .int .u32 0, .int .u32 0, .int .u32 0, .int .u32 0, .int .u32 0, .int .u32 0, .int .u32 0, .int .u32 0, .int .u32 0, .int .u32 0, .int .u32 0, .int .u32 0, .int .u32 0, .int .u32 0, .int .u32 0, .int .u32 0, .int .u32 0, .int .u32 0, .int .u32 0, .int .u32 0, .int .u32 0, .int .u32 0, .int .u32 0, .int .u32 0, .int .u32 0, .int .u32 0, .int .u32 0, .int .u32 0, .int .u32 0, .int .u32 0]) := by kernel_rfl
theorem ze140 : zer Tryd.prog 140 = some (.agg #[.int .i64 0, .int .i64 0]) := by kernel_rfl
theorem ze141 : zer Tryd.prog 141 = some (.agg #[.int .i64 0, .int .i64 0, .int .i64 0, .int .i64 0]) := by kernel_rfl
theorem ze25 : zer Tryd.prog 25 = some (.agg #[.int .u32 0, .int .u32 0, .int .u32 0, .int .u64 0]) := by kernel_rfl
theorem ze3 : zer Tryd.prog 3 = some (.int .i64 0) := by kernel_rfl
theorem ze4 : zer Tryd.prog 4 = some (.bool false) := by kernel_rfl
theorem ze44 : zer Tryd.prog 44 = some (.agg #[.int .u32 0, .string ⟨⟨[]⟩⟩]) := by kernel_rfl
theorem ze5 : zer Tryd.prog 5 = some (.int .u8 0) := by kernel_rfl
theorem ze53 : zer Tryd.prog 53 = some (.agg #[.pointer none, .slice none 0 0]) := by kernel_rfl
theorem ze55 : zer Tryd.prog 55 = some (.agg #[.pointer none, .slice none 0 0]) := by kernel_rfl
theorem ze71 : zer Tryd.prog 71 = some (.agg #[.int .i64 0, .int .i64 0, .int .i64 0, .int .i64 0, .int .i64 0]) := by kernel_rfl
theorem ze9 : zer Tryd.prog 9 = some (.string ⟨⟨[]⟩⟩) := by kernel_rfl
end Go.Proofs.YtnpnmdbleopikaaDoor
