/- The table of types. -/
import Derived.Test.YtknjenjjhdhemaaGreatProg
import Derived.Test.YtknjenjjhdhemaaGreatRXE
import Derived.Test.YtknjenjjhdhemaaGreatSeq
import Derived.Test.YtknjenjjhdhemaaGreatRXr
set_option linter.unusedVariables false
open Go Go.RX Go.Proofs
namespace Go.RX
theorem TEok.mk' {P : Program} {t : Nat} {e : TE} (h1 : (P.underlying t).map TI.of = some e.u) (h2 : (P.info? t).map (fun i => (i.zero, i.size, i.bytes)) = some (some e.zero, e.size, e.bytes)) (h3 : P.stoodInHeld t = false) (h4 : e.u.isAgg = true → P.eqGuardType P.depth t = false) (h5 : e.zero.cells.size = e.size) (h6 : e.zero.cells.toList.all Value.oneCell' = true) : TEok P t e := ⟨h1, h2, h3, h4, h5, fun i hi => by
 have := List.all_eq_true.1 h6 (e.zero.cells[i]) (by simp)
 simpa [Array.getD, hi] using this⟩
theorem te3 : TEok Tryz.prog 3 ⟨.int .i64, 1, 8, .int .i64 (0)⟩ := .mk' (by kernel_rfl) (by kernel_rfl) (by kernel_rfl) (fun h => by cases h) (by rfl) (by rfl)
theorem te24 : TEok Tryz.prog 24 ⟨.struct [(0, 22, true), (1, 3, true), (2, 3, true)], 3, 40, .agg #[(.slice none 0 0), (.int .i64 (0)), (.int .i64 (0))]⟩ := .mk' (by kernel_rfl) (by kernel_rfl) (by kernel_rfl) (fun _ => by kernel_rfl) (by rfl) (by rfl)
theorem te22 : TEok Tryz.prog 22 ⟨.slice 39, 1, 24, .slice none 0 0⟩ := .mk' (by kernel_rfl) (by kernel_rfl) (by kernel_rfl) (fun h => by cases h) (by rfl) (by rfl)
theorem te45 : TEok Tryz.prog 45 ⟨.slice 49, 1, 24, .slice none 0 0⟩ := .mk' (by kernel_rfl) (by kernel_rfl) (by kernel_rfl) (fun h => by cases h) (by rfl) (by rfl)
theorem te49 : TEok Tryz.prog 49 ⟨.struct [(0, 3, true), (1, 3, true)], 2, 16, .agg #[(.int .i64 (0)), (.int .i64 (0))]⟩ := .mk' (by kernel_rfl) (by kernel_rfl) (by kernel_rfl) (fun _ => by kernel_rfl) (by rfl) (by rfl)
theorem te42 : TEok Tryz.prog 42 ⟨.struct [(0, 3, true), (1, 3, true), (2, 3, true), (3, 4, true)], 4, 32, .agg #[(.int .i64 (0)), (.int .i64 (0)), (.int .i64 (0)), (.bool false)]⟩ := .mk' (by kernel_rfl) (by kernel_rfl) (by kernel_rfl) (fun _ => by kernel_rfl) (by rfl) (by rfl)
theorem te39 : TEok Tryz.prog 39 ⟨.slice 42, 1, 24, .slice none 0 0⟩ := .mk' (by kernel_rfl) (by kernel_rfl) (by kernel_rfl) (fun h => by cases h) (by rfl) (by rfl)
theorem te4 : TEok Tryz.prog 4 ⟨.bool, 1, 1, .bool false⟩ := .mk' (by kernel_rfl) (by kernel_rfl) (by kernel_rfl) (fun h => by cases h) (by rfl) (by rfl)
theorem te57 : TEok Tryz.prog 57 ⟨.slice 3, 1, 24, .slice none 0 0⟩ := .mk' (by kernel_rfl) (by kernel_rfl) (by kernel_rfl) (fun h => by cases h) (by rfl) (by rfl)
theorem te87 : TEok Tryz.prog 87 ⟨.slice 3, 1, 24, .slice none 0 0⟩ := .mk' (by kernel_rfl) (by kernel_rfl) (by kernel_rfl) (fun h => by cases h) (by rfl) (by rfl)
theorem te26 : TEok Tryz.prog 26 ⟨.int .i64, 1, 8, .int .i64 (0)⟩ := .mk' (by kernel_rfl) (by kernel_rfl) (by kernel_rfl) (fun h => by cases h) (by rfl) (by rfl)
theorem te89 : TEok Tryz.prog 89 ⟨.func, 1, 8, .nilFunc⟩ := .mk' (by kernel_rfl) (by kernel_rfl) (by kernel_rfl) (fun h => by cases h) (by rfl) (by rfl)
theorem te118 : TEok Tryz.prog 118 ⟨.int .u64, 1, 8, .int .u64 (0)⟩ := .mk' (by kernel_rfl) (by kernel_rfl) (by kernel_rfl) (fun h => by cases h) (by rfl) (by rfl)
theorem te5 : TEok Tryz.prog 5 ⟨.int .u8, 1, 1, .int .u8 (0)⟩ := .mk' (by kernel_rfl) (by kernel_rfl) (by kernel_rfl) (fun h => by cases h) (by rfl) (by rfl)
theorem te67 : TEok Tryz.prog 67 ⟨.map 3 3, 1, 8, .map none⟩ := .mk' (by kernel_rfl) (by kernel_rfl) (by kernel_rfl) (fun h => by cases h) (by rfl) (by rfl)
theorem te97 : TEok Tryz.prog 97 ⟨.int .u32, 1, 4, .int .u32 (0)⟩ := .mk' (by kernel_rfl) (by kernel_rfl) (by kernel_rfl) (fun h => by cases h) (by rfl) (by rfl)
theorem te9 : TEok Tryz.prog 9 ⟨.str, 1, 16, .string ⟨#[]⟩⟩ := .mk' (by kernel_rfl) (by kernel_rfl) (by kernel_rfl) (fun h => by cases h) (by rfl) (by rfl)
theorem te84 : TEok Tryz.prog 84 ⟨.int .u64, 1, 8, .int .u64 (0)⟩ := .mk' (by kernel_rfl) (by kernel_rfl) (by kernel_rfl) (fun h => by cases h) (by rfl) (by rfl)
theorem te44 : TEok Tryz.prog 44 ⟨.func, 1, 8, .nilFunc⟩ := .mk' (by kernel_rfl) (by kernel_rfl) (by kernel_rfl) (fun h => by cases h) (by rfl) (by rfl)
theorem te117 : TEok Tryz.prog 117 ⟨.int .u64, 1, 8, .int .u64 (0)⟩ := .mk' (by kernel_rfl) (by kernel_rfl) (by kernel_rfl) (fun h => by cases h) (by rfl) (by rfl)
theorem te122 : TEok Tryz.prog 122 ⟨.ptr 3, 1, 8, .pointer none⟩ := .mk' (by kernel_rfl) (by kernel_rfl) (by kernel_rfl) (fun h => by cases h) (by rfl) (by rfl)
theorem te52 : TEok Tryz.prog 52 ⟨.map 42 4, 1, 8, .map none⟩ := .mk' (by kernel_rfl) (by kernel_rfl) (by kernel_rfl) (fun h => by cases h) (by rfl) (by rfl)
theorem te94 : TEok Tryz.prog 94 ⟨.slice 45, 1, 24, .slice none 0 0⟩ := .mk' (by kernel_rfl) (by kernel_rfl) (by kernel_rfl) (fun h => by cases h) (by rfl) (by rfl)
theorem te92 : TEok Tryz.prog 92 ⟨.arr 16 45, 16, 384, .agg #[(.slice none 0 0), (.slice none 0 0), (.slice none 0 0), (.slice none 0 0), (.slice none 0 0), (.slice none 0 0), (.slice none 0 0), (.slice none 0 0), (.slice none 0 0), (.slice none 0 0), (.slice none 0 0), (.slice none 0 0), (.slice none 0 0), (.slice none 0 0), (.slice none 0 0), (.slice none 0 0)]⟩ := .mk' (by kernel_rfl) (by kernel_rfl) (by kernel_rfl) (fun _ => by kernel_rfl) (by rfl) (by rfl)
theorem te78 : TEok Tryz.prog 78 ⟨.func, 1, 8, .nilFunc⟩ := .mk' (by kernel_rfl) (by kernel_rfl) (by kernel_rfl) (fun h => by cases h) (by rfl) (by rfl)
theorem te104 : TEok Tryz.prog 104 ⟨.arr 6 5, 6, 6, .agg #[(.int .u8 (0)), (.int .u8 (0)), (.int .u8 (0)), (.int .u8 (0)), (.int .u8 (0)), (.int .u8 (0))]⟩ := .mk' (by kernel_rfl) (by kernel_rfl) (by kernel_rfl) (fun _ => by kernel_rfl) (by rfl) (by rfl)
theorem te105 : TEok Tryz.prog 105 ⟨.slice 5, 1, 24, .slice none 0 0⟩ := .mk' (by kernel_rfl) (by kernel_rfl) (by kernel_rfl) (fun h => by cases h) (by rfl) (by rfl)
theorem te33 : TEok Tryz.prog 33 ⟨.func, 1, 8, .nilFunc⟩ := .mk' (by kernel_rfl) (by kernel_rfl) (by kernel_rfl) (fun h => by cases h) (by rfl) (by rfl)
theorem te108 : TEok Tryz.prog 108 ⟨.int .i64, 1, 8, .int .i64 (0)⟩ := .mk' (by kernel_rfl) (by kernel_rfl) (by kernel_rfl) (fun h => by cases h) (by rfl) (by rfl)
set_option maxRecDepth 100000
def TT : List (Nat × TE) := [(3, ⟨.int .i64, 1, 8, .int .i64 (0)⟩),
 (24, ⟨.struct [(0, 22, true), (1, 3, true), (2, 3, true)], 3, 40, .agg #[(.slice none 0 0), (.int .i64 (0)), (.int .i64 (0))]⟩),
 (22, ⟨.slice 39, 1, 24, .slice none 0 0⟩),
 (45, ⟨.slice 49, 1, 24, .slice none 0 0⟩),
 (49, ⟨.struct [(0, 3, true), (1, 3, true)], 2, 16, .agg #[(.int .i64 (0)), (.int .i64 (0))]⟩),
 (42, ⟨.struct [(0, 3, true), (1, 3, true), (2, 3, true), (3, 4, true)], 4, 32, .agg #[(.int .i64 (0)), (.int .i64 (0)), (.int .i64 (0)), (.bool false)]⟩),
 (39, ⟨.slice 42, 1, 24, .slice none 0 0⟩),
 (4, ⟨.bool, 1, 1, .bool false⟩),
 (57, ⟨.slice 3, 1, 24, .slice none 0 0⟩),
 (87, ⟨.slice 3, 1, 24, .slice none 0 0⟩),
 (26, ⟨.int .i64, 1, 8, .int .i64 (0)⟩),
 (89, ⟨.func, 1, 8, .nilFunc⟩),
 (118, ⟨.int .u64, 1, 8, .int .u64 (0)⟩),
 (5, ⟨.int .u8, 1, 1, .int .u8 (0)⟩),
 (67, ⟨.map 3 3, 1, 8, .map none⟩),
 (97, ⟨.int .u32, 1, 4, .int .u32 (0)⟩),
 (9, ⟨.str, 1, 16, .string ⟨#[]⟩⟩),
 (84, ⟨.int .u64, 1, 8, .int .u64 (0)⟩),
 (44, ⟨.func, 1, 8, .nilFunc⟩),
 (117, ⟨.int .u64, 1, 8, .int .u64 (0)⟩),
 (122, ⟨.ptr 3, 1, 8, .pointer none⟩),
 (52, ⟨.map 42 4, 1, 8, .map none⟩),
 (94, ⟨.slice 45, 1, 24, .slice none 0 0⟩),
 (92, ⟨.arr 16 45, 16, 384, .agg #[(.slice none 0 0), (.slice none 0 0), (.slice none 0 0), (.slice none 0 0), (.slice none 0 0), (.slice none 0 0), (.slice none 0 0), (.slice none 0 0), (.slice none 0 0), (.slice none 0 0), (.slice none 0 0), (.slice none 0 0), (.slice none 0 0), (.slice none 0 0), (.slice none 0 0), (.slice none 0 0)]⟩),
 (78, ⟨.func, 1, 8, .nilFunc⟩),
 (104, ⟨.arr 6 5, 6, 6, .agg #[(.int .u8 (0)), (.int .u8 (0)), (.int .u8 (0)), (.int .u8 (0)), (.int .u8 (0)), (.int .u8 (0))]⟩),
 (105, ⟨.slice 5, 1, 24, .slice none 0 0⟩),
 (33, ⟨.func, 1, 8, .nilFunc⟩),
 (108, ⟨.int .i64, 1, 8, .int .i64 (0)⟩)]
theorem TT_ok : TOk Tryz.prog TT := .cons te3 <| .cons te24 <| .cons te22 <| .cons te45 <| .cons te49 <| .cons te42 <| .cons te39 <| .cons te4 <| .cons te57 <| .cons te87 <| .cons te26 <| .cons te89 <| .cons te118 <| .cons te5 <| .cons te67 <| .cons te97 <| .cons te9 <| .cons te84 <| .cons te44 <| .cons te117 <| .cons te122 <| .cons te52 <| .cons te94 <| .cons te92 <| .cons te78 <| .cons te104 <| .cons te105 <| .cons te33 <| .cons te108 <| .nil _
theorem hmix1 : Tryz.prog.follows .mixedOrders = true := by kernel_rfl
end Go.RX
