/- The table of types. -/
import Derived.Test.YtknjenjjhdhemaaProg
import Derived.Test.YtknjenjjhdhemaaRXE
import Derived.Test.YtknjenjjhdhemaaSeq
import Derived.Test.YtknjenjjhdhemaaRXr
set_option linter.unusedVariables false
open Go Go.RX Go.Proofs
namespace Go.RX
theorem TEok.mk' {P : Program} {t : Nat} {e : TE} (h1 : (P.underlying t).map TI.of = some e.u) (h2 : (P.info? t).map (fun i => (i.zero, i.size, i.bytes)) = some (some e.zero, e.size, e.bytes)) (h3 : P.stoodInHeld t = false) (h4 : e.u.isAgg = true → P.eqGuardType P.depth t = false) (h5 : e.zero.cells.size = e.size) (h6 : e.zero.cells.toList.all Value.oneCell' = true) : TEok P t e := ⟨h1, h2, h3, h4, h5, fun i hi => by
 have := List.all_eq_true.1 h6 (e.zero.cells[i]) (by simp)
 simpa [Array.getD, hi] using this⟩
theorem te3 : TEok Try.prog 3 ⟨.int .i64, 1, 8, .int .i64 (0)⟩ := .mk' (by kernel_rfl) (by kernel_rfl) (by kernel_rfl) (fun h => by cases h) (by rfl) (by rfl)
theorem te22 : TEok Try.prog 22 ⟨.slice 24, 1, 24, .slice none 0 0⟩ := .mk' (by kernel_rfl) (by kernel_rfl) (by kernel_rfl) (fun h => by cases h) (by rfl) (by rfl)
theorem te24 : TEok Try.prog 24 ⟨.struct [(0, 3, true), (1, 3, true)], 2, 16, .agg #[(.int .i64 (0)), (.int .i64 (0))]⟩ := .mk' (by kernel_rfl) (by kernel_rfl) (by kernel_rfl) (fun _ => by kernel_rfl) (by rfl) (by rfl)
theorem te53 : TEok Try.prog 53 ⟨.slice 3, 1, 24, .slice none 0 0⟩ := .mk' (by kernel_rfl) (by kernel_rfl) (by kernel_rfl) (fun h => by cases h) (by rfl) (by rfl)
theorem te69 : TEok Try.prog 69 ⟨.struct [(0, 67, true), (1, 3, true), (2, 3, true)], 3, 40, .agg #[(.slice none 0 0), (.int .i64 (0)), (.int .i64 (0))]⟩ := .mk' (by kernel_rfl) (by kernel_rfl) (by kernel_rfl) (fun _ => by kernel_rfl) (by rfl) (by rfl)
theorem te67 : TEok Try.prog 67 ⟨.slice 111, 1, 24, .slice none 0 0⟩ := .mk' (by kernel_rfl) (by kernel_rfl) (by kernel_rfl) (fun h => by cases h) (by rfl) (by rfl)
theorem te9 : TEok Try.prog 9 ⟨.str, 1, 16, .string ⟨#[]⟩⟩ := .mk' (by kernel_rfl) (by kernel_rfl) (by kernel_rfl) (fun h => by cases h) (by rfl) (by rfl)
theorem te47 : TEok Try.prog 47 ⟨.struct [(0, 3, true), (1, 44, true), (2, 45, true)], 3, 56, .agg #[(.int .i64 (0)), (.slice none 0 0), (.slice none 0 0)]⟩ := .mk' (by kernel_rfl) (by kernel_rfl) (by kernel_rfl) (fun _ => by kernel_rfl) (by rfl) (by rfl)
theorem te44 : TEok Try.prog 44 ⟨.slice 87, 1, 24, .slice none 0 0⟩ := .mk' (by kernel_rfl) (by kernel_rfl) (by kernel_rfl) (fun h => by cases h) (by rfl) (by rfl)
theorem te45 : TEok Try.prog 45 ⟨.slice 103, 1, 24, .slice none 0 0⟩ := .mk' (by kernel_rfl) (by kernel_rfl) (by kernel_rfl) (fun h => by cases h) (by rfl) (by rfl)
theorem te90 : TEok Try.prog 90 ⟨.struct [(0, 3, true), (1, 3, true), (2, 3, true), (3, 3, true), (4, 9, true)], 5, 48, .agg #[(.int .i64 (0)), (.int .i64 (0)), (.int .i64 (0)), (.int .i64 (0)), (.string ⟨#[]⟩)]⟩ := .mk' (by kernel_rfl) (by kernel_rfl) (by kernel_rfl) (fun _ => by kernel_rfl) (by rfl) (by rfl)
theorem te27 : TEok Try.prog 27 ⟨.int .i64, 1, 8, .int .i64 (0)⟩ := .mk' (by kernel_rfl) (by kernel_rfl) (by kernel_rfl) (fun h => by cases h) (by rfl) (by rfl)
theorem te116 : TEok Try.prog 116 ⟨.struct [(0, 3, true), (1, 3, true), (2, 3, true), (3, 4, true)], 4, 32, .agg #[(.int .i64 (0)), (.int .i64 (0)), (.int .i64 (0)), (.bool false)]⟩ := .mk' (by kernel_rfl) (by kernel_rfl) (by kernel_rfl) (fun _ => by kernel_rfl) (by rfl) (by rfl)
theorem te4 : TEok Try.prog 4 ⟨.bool, 1, 1, .bool false⟩ := .mk' (by kernel_rfl) (by kernel_rfl) (by kernel_rfl) (fun h => by cases h) (by rfl) (by rfl)
theorem te85 : TEok Try.prog 85 ⟨.slice 140, 1, 24, .slice none 0 0⟩ := .mk' (by kernel_rfl) (by kernel_rfl) (by kernel_rfl) (fun h => by cases h) (by rfl) (by rfl)
theorem te136 : TEok Try.prog 136 ⟨.struct [(0, 3, true), (1, 3, true), (2, 3, true), (3, 9, true)], 4, 40, .agg #[(.int .i64 (0)), (.int .i64 (0)), (.int .i64 (0)), (.string ⟨#[]⟩)]⟩ := .mk' (by kernel_rfl) (by kernel_rfl) (by kernel_rfl) (fun _ => by kernel_rfl) (by rfl) (by rfl)
theorem te111 : TEok Try.prog 111 ⟨.slice 116, 1, 24, .slice none 0 0⟩ := .mk' (by kernel_rfl) (by kernel_rfl) (by kernel_rfl) (fun h => by cases h) (by rfl) (by rfl)
theorem te49 : TEok Try.prog 49 ⟨.slice 90, 1, 24, .slice none 0 0⟩ := .mk' (by kernel_rfl) (by kernel_rfl) (by kernel_rfl) (fun h => by cases h) (by rfl) (by rfl)
theorem te26 : TEok Try.prog 26 ⟨.int .u64, 1, 8, .int .u64 (0)⟩ := .mk' (by kernel_rfl) (by kernel_rfl) (by kernel_rfl) (fun h => by cases h) (by rfl) (by rfl)
theorem te87 : TEok Try.prog 87 ⟨.struct [(0, 3, true), (1, 85, true)], 2, 32, .agg #[(.int .i64 (0)), (.slice none 0 0)]⟩ := .mk' (by kernel_rfl) (by kernel_rfl) (by kernel_rfl) (fun _ => by kernel_rfl) (by rfl) (by rfl)
theorem te77 : TEok Try.prog 77 ⟨.map 3 3, 1, 8, .map none⟩ := .mk' (by kernel_rfl) (by kernel_rfl) (by kernel_rfl) (fun h => by cases h) (by rfl) (by rfl)
theorem te103 : TEok Try.prog 103 ⟨.struct [(0, 3, true), (1, 3, true)], 2, 16, .agg #[(.int .i64 (0)), (.int .i64 (0))]⟩ := .mk' (by kernel_rfl) (by kernel_rfl) (by kernel_rfl) (fun _ => by kernel_rfl) (by rfl) (by rfl)
theorem te48 : TEok Try.prog 48 ⟨.slice 88, 1, 24, .slice none 0 0⟩ := .mk' (by kernel_rfl) (by kernel_rfl) (by kernel_rfl) (fun h => by cases h) (by rfl) (by rfl)
theorem te140 : TEok Try.prog 140 ⟨.struct [(0, 3, true), (1, 3, true), (2, 4, true)], 3, 24, .agg #[(.int .i64 (0)), (.int .i64 (0)), (.bool false)]⟩ := .mk' (by kernel_rfl) (by kernel_rfl) (by kernel_rfl) (fun _ => by kernel_rfl) (by rfl) (by rfl)
theorem te150 : TEok Try.prog 150 ⟨.int .u64, 1, 8, .int .u64 (0)⟩ := .mk' (by kernel_rfl) (by kernel_rfl) (by kernel_rfl) (fun h => by cases h) (by rfl) (by rfl)
theorem te187 : TEok Try.prog 187 ⟨.int .u64, 1, 8, .int .u64 (0)⟩ := .mk' (by kernel_rfl) (by kernel_rfl) (by kernel_rfl) (fun h => by cases h) (by rfl) (by rfl)
theorem te163 : TEok Try.prog 163 ⟨.slice 3, 1, 24, .slice none 0 0⟩ := .mk' (by kernel_rfl) (by kernel_rfl) (by kernel_rfl) (fun h => by cases h) (by rfl) (by rfl)
theorem te82 : TEok Try.prog 82 ⟨.func, 1, 8, .nilFunc⟩ := .mk' (by kernel_rfl) (by kernel_rfl) (by kernel_rfl) (fun h => by cases h) (by rfl) (by rfl)
theorem te5 : TEok Try.prog 5 ⟨.int .u8, 1, 1, .int .u8 (0)⟩ := .mk' (by kernel_rfl) (by kernel_rfl) (by kernel_rfl) (fun h => by cases h) (by rfl) (by rfl)
theorem te174 : TEok Try.prog 174 ⟨.int .u32, 1, 4, .int .u32 (0)⟩ := .mk' (by kernel_rfl) (by kernel_rfl) (by kernel_rfl) (fun h => by cases h) (by rfl) (by rfl)
theorem te191 : TEok Try.prog 191 ⟨.ptr 3, 1, 8, .pointer none⟩ := .mk' (by kernel_rfl) (by kernel_rfl) (by kernel_rfl) (fun h => by cases h) (by rfl) (by rfl)
theorem te88 : TEok Try.prog 88 ⟨.slice 4, 1, 24, .slice none 0 0⟩ := .mk' (by kernel_rfl) (by kernel_rfl) (by kernel_rfl) (fun h => by cases h) (by rfl) (by rfl)
theorem te157 : TEok Try.prog 157 ⟨.slice 5, 1, 24, .slice none 0 0⟩ := .mk' (by kernel_rfl) (by kernel_rfl) (by kernel_rfl) (fun h => by cases h) (by rfl) (by rfl)
theorem te179 : TEok Try.prog 179 ⟨.slice 53, 1, 24, .slice none 0 0⟩ := .mk' (by kernel_rfl) (by kernel_rfl) (by kernel_rfl) (fun h => by cases h) (by rfl) (by rfl)
theorem te118 : TEok Try.prog 118 ⟨.func, 1, 8, .nilFunc⟩ := .mk' (by kernel_rfl) (by kernel_rfl) (by kernel_rfl) (fun h => by cases h) (by rfl) (by rfl)
theorem te119 : TEok Try.prog 119 ⟨.map 116 4, 1, 8, .map none⟩ := .mk' (by kernel_rfl) (by kernel_rfl) (by kernel_rfl) (fun h => by cases h) (by rfl) (by rfl)
theorem te78 : TEok Try.prog 78 ⟨.arr 3 3, 3, 24, .agg #[(.int .i64 (0)), (.int .i64 (0)), (.int .i64 (0))]⟩ := .mk' (by kernel_rfl) (by kernel_rfl) (by kernel_rfl) (fun _ => by kernel_rfl) (by rfl) (by rfl)
theorem te129 : TEok Try.prog 129 ⟨.slice 22, 1, 24, .slice none 0 0⟩ := .mk' (by kernel_rfl) (by kernel_rfl) (by kernel_rfl) (fun h => by cases h) (by rfl) (by rfl)
theorem te94 : TEok Try.prog 94 ⟨.map 96 3, 1, 8, .map none⟩ := .mk' (by kernel_rfl) (by kernel_rfl) (by kernel_rfl) (fun h => by cases h) (by rfl) (by rfl)
theorem te96 : TEok Try.prog 96 ⟨.struct [(0, 3, true), (1, 9, true)], 2, 24, .agg #[(.int .i64 (0)), (.string ⟨#[]⟩)]⟩ := .mk' (by kernel_rfl) (by kernel_rfl) (by kernel_rfl) (fun _ => by kernel_rfl) (by rfl) (by rfl)
theorem te127 : TEok Try.prog 127 ⟨.arr 16 22, 16, 384, .agg #[(.slice none 0 0), (.slice none 0 0), (.slice none 0 0), (.slice none 0 0), (.slice none 0 0), (.slice none 0 0), (.slice none 0 0), (.slice none 0 0), (.slice none 0 0), (.slice none 0 0), (.slice none 0 0), (.slice none 0 0), (.slice none 0 0), (.slice none 0 0), (.slice none 0 0), (.slice none 0 0)]⟩ := .mk' (by kernel_rfl) (by kernel_rfl) (by kernel_rfl) (fun _ => by kernel_rfl) (by rfl) (by rfl)
theorem te75 : TEok Try.prog 75 ⟨.slice 78, 1, 24, .slice none 0 0⟩ := .mk' (by kernel_rfl) (by kernel_rfl) (by kernel_rfl) (fun h => by cases h) (by rfl) (by rfl)
theorem te109 : TEok Try.prog 109 ⟨.func, 1, 8, .nilFunc⟩ := .mk' (by kernel_rfl) (by kernel_rfl) (by kernel_rfl) (fun h => by cases h) (by rfl) (by rfl)
theorem te166 : TEok Try.prog 166 ⟨.int .i64, 1, 8, .int .i64 (0)⟩ := .mk' (by kernel_rfl) (by kernel_rfl) (by kernel_rfl) (fun h => by cases h) (by rfl) (by rfl)
theorem te40 : TEok Try.prog 40 ⟨.func, 1, 8, .nilFunc⟩ := .mk' (by kernel_rfl) (by kernel_rfl) (by kernel_rfl) (fun h => by cases h) (by rfl) (by rfl)
theorem te92 : TEok Try.prog 92 ⟨.func, 1, 8, .nilFunc⟩ := .mk' (by kernel_rfl) (by kernel_rfl) (by kernel_rfl) (fun h => by cases h) (by rfl) (by rfl)
theorem te99 : TEok Try.prog 99 ⟨.map 9 53, 1, 8, .map none⟩ := .mk' (by kernel_rfl) (by kernel_rfl) (by kernel_rfl) (fun h => by cases h) (by rfl) (by rfl)
theorem te105 : TEok Try.prog 105 ⟨.map 96 4, 1, 8, .map none⟩ := .mk' (by kernel_rfl) (by kernel_rfl) (by kernel_rfl) (fun h => by cases h) (by rfl) (by rfl)
theorem te198 : TEok Try.prog 198 ⟨.arr 6 5, 6, 6, .agg #[(.int .u8 (0)), (.int .u8 (0)), (.int .u8 (0)), (.int .u8 (0)), (.int .u8 (0)), (.int .u8 (0))]⟩ := .mk' (by kernel_rfl) (by kernel_rfl) (by kernel_rfl) (fun _ => by kernel_rfl) (by rfl) (by rfl)
theorem te155 : TEok Try.prog 155 ⟨.func, 1, 8, .nilFunc⟩ := .mk' (by kernel_rfl) (by kernel_rfl) (by kernel_rfl) (fun h => by cases h) (by rfl) (by rfl)
set_option maxRecDepth 100000
def TT : List (Nat × TE) := [(3, ⟨.int .i64, 1, 8, .int .i64 (0)⟩),
 (22, ⟨.slice 24, 1, 24, .slice none 0 0⟩),
 (24, ⟨.struct [(0, 3, true), (1, 3, true)], 2, 16, .agg #[(.int .i64 (0)), (.int .i64 (0))]⟩),
 (53, ⟨.slice 3, 1, 24, .slice none 0 0⟩),
 (69, ⟨.struct [(0, 67, true), (1, 3, true), (2, 3, true)], 3, 40, .agg #[(.slice none 0 0), (.int .i64 (0)), (.int .i64 (0))]⟩),
 (67, ⟨.slice 111, 1, 24, .slice none 0 0⟩),
 (9, ⟨.str, 1, 16, .string ⟨#[]⟩⟩),
 (47, ⟨.struct [(0, 3, true), (1, 44, true), (2, 45, true)], 3, 56, .agg #[(.int .i64 (0)), (.slice none 0 0), (.slice none 0 0)]⟩),
 (44, ⟨.slice 87, 1, 24, .slice none 0 0⟩),
 (45, ⟨.slice 103, 1, 24, .slice none 0 0⟩),
 (90, ⟨.struct [(0, 3, true), (1, 3, true), (2, 3, true), (3, 3, true), (4, 9, true)], 5, 48, .agg #[(.int .i64 (0)), (.int .i64 (0)), (.int .i64 (0)), (.int .i64 (0)), (.string ⟨#[]⟩)]⟩),
 (27, ⟨.int .i64, 1, 8, .int .i64 (0)⟩),
 (116, ⟨.struct [(0, 3, true), (1, 3, true), (2, 3, true), (3, 4, true)], 4, 32, .agg #[(.int .i64 (0)), (.int .i64 (0)), (.int .i64 (0)), (.bool false)]⟩),
 (4, ⟨.bool, 1, 1, .bool false⟩),
 (85, ⟨.slice 140, 1, 24, .slice none 0 0⟩),
 (136, ⟨.struct [(0, 3, true), (1, 3, true), (2, 3, true), (3, 9, true)], 4, 40, .agg #[(.int .i64 (0)), (.int .i64 (0)), (.int .i64 (0)), (.string ⟨#[]⟩)]⟩),
 (111, ⟨.slice 116, 1, 24, .slice none 0 0⟩),
 (49, ⟨.slice 90, 1, 24, .slice none 0 0⟩),
 (26, ⟨.int .u64, 1, 8, .int .u64 (0)⟩),
 (87, ⟨.struct [(0, 3, true), (1, 85, true)], 2, 32, .agg #[(.int .i64 (0)), (.slice none 0 0)]⟩),
 (77, ⟨.map 3 3, 1, 8, .map none⟩),
 (103, ⟨.struct [(0, 3, true), (1, 3, true)], 2, 16, .agg #[(.int .i64 (0)), (.int .i64 (0))]⟩),
 (48, ⟨.slice 88, 1, 24, .slice none 0 0⟩),
 (140, ⟨.struct [(0, 3, true), (1, 3, true), (2, 4, true)], 3, 24, .agg #[(.int .i64 (0)), (.int .i64 (0)), (.bool false)]⟩),
 (150, ⟨.int .u64, 1, 8, .int .u64 (0)⟩),
 (187, ⟨.int .u64, 1, 8, .int .u64 (0)⟩),
 (163, ⟨.slice 3, 1, 24, .slice none 0 0⟩),
 (82, ⟨.func, 1, 8, .nilFunc⟩),
 (5, ⟨.int .u8, 1, 1, .int .u8 (0)⟩),
 (174, ⟨.int .u32, 1, 4, .int .u32 (0)⟩),
 (191, ⟨.ptr 3, 1, 8, .pointer none⟩),
 (88, ⟨.slice 4, 1, 24, .slice none 0 0⟩),
 (157, ⟨.slice 5, 1, 24, .slice none 0 0⟩),
 (179, ⟨.slice 53, 1, 24, .slice none 0 0⟩),
 (118, ⟨.func, 1, 8, .nilFunc⟩),
 (119, ⟨.map 116 4, 1, 8, .map none⟩),
 (78, ⟨.arr 3 3, 3, 24, .agg #[(.int .i64 (0)), (.int .i64 (0)), (.int .i64 (0))]⟩),
 (129, ⟨.slice 22, 1, 24, .slice none 0 0⟩),
 (94, ⟨.map 96 3, 1, 8, .map none⟩),
 (96, ⟨.struct [(0, 3, true), (1, 9, true)], 2, 24, .agg #[(.int .i64 (0)), (.string ⟨#[]⟩)]⟩),
 (127, ⟨.arr 16 22, 16, 384, .agg #[(.slice none 0 0), (.slice none 0 0), (.slice none 0 0), (.slice none 0 0), (.slice none 0 0), (.slice none 0 0), (.slice none 0 0), (.slice none 0 0), (.slice none 0 0), (.slice none 0 0), (.slice none 0 0), (.slice none 0 0), (.slice none 0 0), (.slice none 0 0), (.slice none 0 0), (.slice none 0 0)]⟩),
 (75, ⟨.slice 78, 1, 24, .slice none 0 0⟩),
 (109, ⟨.func, 1, 8, .nilFunc⟩),
 (166, ⟨.int .i64, 1, 8, .int .i64 (0)⟩),
 (40, ⟨.func, 1, 8, .nilFunc⟩),
 (92, ⟨.func, 1, 8, .nilFunc⟩),
 (99, ⟨.map 9 53, 1, 8, .map none⟩),
 (105, ⟨.map 96 4, 1, 8, .map none⟩),
 (198, ⟨.arr 6 5, 6, 6, .agg #[(.int .u8 (0)), (.int .u8 (0)), (.int .u8 (0)), (.int .u8 (0)), (.int .u8 (0)), (.int .u8 (0))]⟩),
 (155, ⟨.func, 1, 8, .nilFunc⟩)]
theorem TT_ok : TOk Try.prog TT := .cons te3 <| .cons te22 <| .cons te24 <| .cons te53 <| .cons te69 <| .cons te67 <| .cons te9 <| .cons te47 <| .cons te44 <| .cons te45 <| .cons te90 <| .cons te27 <| .cons te116 <| .cons te4 <| .cons te85 <| .cons te136 <| .cons te111 <| .cons te49 <| .cons te26 <| .cons te87 <| .cons te77 <| .cons te103 <| .cons te48 <| .cons te140 <| .cons te150 <| .cons te187 <| .cons te163 <| .cons te82 <| .cons te5 <| .cons te174 <| .cons te191 <| .cons te88 <| .cons te157 <| .cons te179 <| .cons te118 <| .cons te119 <| .cons te78 <| .cons te129 <| .cons te94 <| .cons te96 <| .cons te127 <| .cons te75 <| .cons te109 <| .cons te166 <| .cons te40 <| .cons te92 <| .cons te99 <| .cons te105 <| .cons te198 <| .cons te155 <| .nil _
theorem hmix1 : Try.prog.follows .mixedOrders = true := by kernel_rfl
end Go.RX
