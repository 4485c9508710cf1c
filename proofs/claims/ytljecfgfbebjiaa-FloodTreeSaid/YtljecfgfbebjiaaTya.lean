/- The table of types. -/
import Derived.Test.YtljecfgfbebjiaaProg
import Derived.Test.YtljecfgfbebjiaaRXE
import Derived.Test.YtljecfgfbebjiaaSeq
import Derived.Test.YtljecfgfbebjiaaRXr
set_option linter.unusedVariables false
open Go Go.RX Go.Proofs
namespace Go.RX
theorem TEok.mk' {P : Program} {t : Nat} {e : TE} (h1 : (P.underlying t).map TI.of = some e.u) (h2 : (P.info? t).map (fun i => (i.zero, i.size, i.bytes)) = some (some e.zero, e.size, e.bytes)) (h3 : P.stoodInHeld t = false) (h4 : e.u.isAgg = true → P.eqGuardType P.depth t = false) (h5 : e.zero.cells.size = e.size) (h6 : e.zero.cells.toList.all Value.oneCell' = true) : TEok P t e := ⟨h1, h2, h3, h4, h5, fun i hi => by
 have := List.all_eq_true.1 h6 (e.zero.cells[i]) (by simp)
 simpa [Array.getD, hi] using this⟩
theorem te3 : TEok Try.prog 3 ⟨.int .i64, 1, 8, .int .i64 (0)⟩ := .mk' (by kernel_rfl) (by kernel_rfl) (by kernel_rfl) (fun h => by cases h) (by rfl) (by rfl)
theorem te25 : TEok Try.prog 25 ⟨.struct [(0, 3, true), (1, 22, true), (2, 23, true)], 3, 56, .agg #[(.int .i64 (0)), (.slice none 0 0), (.slice none 0 0)]⟩ := .mk' (by kernel_rfl) (by kernel_rfl) (by kernel_rfl) (fun _ => by kernel_rfl) (by rfl) (by rfl)
theorem te22 : TEok Try.prog 22 ⟨.slice 33, 1, 24, .slice none 0 0⟩ := .mk' (by kernel_rfl) (by kernel_rfl) (by kernel_rfl) (fun h => by cases h) (by rfl) (by rfl)
theorem te47 : TEok Try.prog 47 ⟨.slice 3, 1, 24, .slice none 0 0⟩ := .mk' (by kernel_rfl) (by kernel_rfl) (by kernel_rfl) (fun h => by cases h) (by rfl) (by rfl)
theorem te23 : TEok Try.prog 23 ⟨.slice 80, 1, 24, .slice none 0 0⟩ := .mk' (by kernel_rfl) (by kernel_rfl) (by kernel_rfl) (fun h => by cases h) (by rfl) (by rfl)
theorem te31 : TEok Try.prog 31 ⟨.slice 35, 1, 24, .slice none 0 0⟩ := .mk' (by kernel_rfl) (by kernel_rfl) (by kernel_rfl) (fun h => by cases h) (by rfl) (by rfl)
theorem te33 : TEok Try.prog 33 ⟨.struct [(0, 3, true), (1, 31, true)], 2, 32, .agg #[(.int .i64 (0)), (.slice none 0 0)]⟩ := .mk' (by kernel_rfl) (by kernel_rfl) (by kernel_rfl) (fun _ => by kernel_rfl) (by rfl) (by rfl)
theorem te35 : TEok Try.prog 35 ⟨.struct [(0, 3, true), (1, 3, true), (2, 4, true)], 3, 24, .agg #[(.int .i64 (0)), (.int .i64 (0)), (.bool false)]⟩ := .mk' (by kernel_rfl) (by kernel_rfl) (by kernel_rfl) (fun _ => by kernel_rfl) (by rfl) (by rfl)
theorem te41 : TEok Try.prog 41 ⟨.arr 2 3, 2, 16, .agg #[(.int .i64 (0)), (.int .i64 (0))]⟩ := .mk' (by kernel_rfl) (by kernel_rfl) (by kernel_rfl) (fun _ => by kernel_rfl) (by rfl) (by rfl)
theorem te108 : TEok Try.prog 108 ⟨.struct [(0, 3, true), (1, 3, true), (2, 3, true), (3, 3, true)], 4, 32, .agg #[(.int .i64 (0)), (.int .i64 (0)), (.int .i64 (0)), (.int .i64 (0))]⟩ := .mk' (by kernel_rfl) (by kernel_rfl) (by kernel_rfl) (fun _ => by kernel_rfl) (by rfl) (by rfl)
theorem te4 : TEok Try.prog 4 ⟨.bool, 1, 1, .bool false⟩ := .mk' (by kernel_rfl) (by kernel_rfl) (by kernel_rfl) (fun h => by cases h) (by rfl) (by rfl)
theorem te49 : TEok Try.prog 49 ⟨.slice 54, 1, 24, .slice none 0 0⟩ := .mk' (by kernel_rfl) (by kernel_rfl) (by kernel_rfl) (fun h => by cases h) (by rfl) (by rfl)
theorem te27 : TEok Try.prog 27 ⟨.int .i64, 1, 8, .int .i64 (0)⟩ := .mk' (by kernel_rfl) (by kernel_rfl) (by kernel_rfl) (fun h => by cases h) (by rfl) (by rfl)
theorem te37 : TEok Try.prog 37 ⟨.slice 47, 1, 24, .slice none 0 0⟩ := .mk' (by kernel_rfl) (by kernel_rfl) (by kernel_rfl) (fun h => by cases h) (by rfl) (by rfl)
theorem te72 : TEok Try.prog 72 ⟨.arr 2 3, 2, 16, .agg #[(.int .i64 (0)), (.int .i64 (0))]⟩ := .mk' (by kernel_rfl) (by kernel_rfl) (by kernel_rfl) (fun _ => by kernel_rfl) (by rfl) (by rfl)
theorem te54 : TEok Try.prog 54 ⟨.slice 4, 1, 24, .slice none 0 0⟩ := .mk' (by kernel_rfl) (by kernel_rfl) (by kernel_rfl) (fun h => by cases h) (by rfl) (by rfl)
theorem te56 : TEok Try.prog 56 ⟨.struct [(0, 3, true), (1, 3, true)], 2, 16, .agg #[(.int .i64 (0)), (.int .i64 (0))]⟩ := .mk' (by kernel_rfl) (by kernel_rfl) (by kernel_rfl) (fun _ => by kernel_rfl) (by rfl) (by rfl)
theorem te162 : TEok Try.prog 162 ⟨.int .u64, 1, 8, .int .u64 (0)⟩ := .mk' (by kernel_rfl) (by kernel_rfl) (by kernel_rfl) (fun h => by cases h) (by rfl) (by rfl)
theorem te57 : TEok Try.prog 57 ⟨.slice 56, 1, 24, .slice none 0 0⟩ := .mk' (by kernel_rfl) (by kernel_rfl) (by kernel_rfl) (fun h => by cases h) (by rfl) (by rfl)
theorem te80 : TEok Try.prog 80 ⟨.struct [(0, 3, true), (1, 3, true)], 2, 16, .agg #[(.int .i64 (0)), (.int .i64 (0))]⟩ := .mk' (by kernel_rfl) (by kernel_rfl) (by kernel_rfl) (fun _ => by kernel_rfl) (by rfl) (by rfl)
theorem te102 : TEok Try.prog 102 ⟨.struct [(0, 72, true), (2, 3, true)], 3, 24, .agg #[(.int .i64 (0)), (.int .i64 (0)), (.int .i64 (0))]⟩ := .mk' (by kernel_rfl) (by kernel_rfl) (by kernel_rfl) (fun _ => by kernel_rfl) (by rfl) (by rfl)
theorem te97 : TEok Try.prog 97 ⟨.slice 102, 1, 24, .slice none 0 0⟩ := .mk' (by kernel_rfl) (by kernel_rfl) (by kernel_rfl) (fun h => by cases h) (by rfl) (by rfl)
theorem te138 : TEok Try.prog 138 ⟨.struct [(0, 108, true)], 4, 32, .agg #[(.int .i64 (0)), (.int .i64 (0)), (.int .i64 (0)), (.int .i64 (0))]⟩ := .mk' (by kernel_rfl) (by kernel_rfl) (by kernel_rfl) (fun _ => by kernel_rfl) (by rfl) (by rfl)
theorem te127 : TEok Try.prog 127 ⟨.int .u64, 1, 8, .int .u64 (0)⟩ := .mk' (by kernel_rfl) (by kernel_rfl) (by kernel_rfl) (fun h => by cases h) (by rfl) (by rfl)
theorem te168 : TEok Try.prog 168 ⟨.int .u64, 1, 8, .int .u64 (0)⟩ := .mk' (by kernel_rfl) (by kernel_rfl) (by kernel_rfl) (fun h => by cases h) (by rfl) (by rfl)
theorem te44 : TEok Try.prog 44 ⟨.slice 41, 1, 24, .slice none 0 0⟩ := .mk' (by kernel_rfl) (by kernel_rfl) (by kernel_rfl) (fun h => by cases h) (by rfl) (by rfl)
theorem te106 : TEok Try.prog 106 ⟨.slice 108, 1, 24, .slice none 0 0⟩ := .mk' (by kernel_rfl) (by kernel_rfl) (by kernel_rfl) (fun h => by cases h) (by rfl) (by rfl)
theorem te160 : TEok Try.prog 160 ⟨.int .u32, 1, 4, .int .u32 (0)⟩ := .mk' (by kernel_rfl) (by kernel_rfl) (by kernel_rfl) (fun h => by cases h) (by rfl) (by rfl)
theorem te73 : TEok Try.prog 73 ⟨.slice 72, 1, 24, .slice none 0 0⟩ := .mk' (by kernel_rfl) (by kernel_rfl) (by kernel_rfl) (fun h => by cases h) (by rfl) (by rfl)
theorem te93 : TEok Try.prog 93 ⟨.map 3 3, 1, 8, .map none⟩ := .mk' (by kernel_rfl) (by kernel_rfl) (by kernel_rfl) (fun h => by cases h) (by rfl) (by rfl)
theorem te172 : TEok Try.prog 172 ⟨.ptr 3, 1, 8, .pointer none⟩ := .mk' (by kernel_rfl) (by kernel_rfl) (by kernel_rfl) (fun h => by cases h) (by rfl) (by rfl)
theorem te103 : TEok Try.prog 103 ⟨.map 3 4, 1, 8, .map none⟩ := .mk' (by kernel_rfl) (by kernel_rfl) (by kernel_rfl) (fun h => by cases h) (by rfl) (by rfl)
theorem te99 : TEok Try.prog 99 ⟨.iface false, 1, 16, .nilIface⟩ := .mk' (by kernel_rfl) (by kernel_rfl) (by kernel_rfl) (fun h => by cases h) (by rfl) (by rfl)
theorem te9 : TEok Try.prog 9 ⟨.str, 1, 16, .string ⟨#[]⟩⟩ := .mk' (by kernel_rfl) (by kernel_rfl) (by kernel_rfl) (fun h => by cases h) (by rfl) (by rfl)
theorem te5 : TEok Try.prog 5 ⟨.int .u8, 1, 1, .int .u8 (0)⟩ := .mk' (by kernel_rfl) (by kernel_rfl) (by kernel_rfl) (fun h => by cases h) (by rfl) (by rfl)
theorem te84 : TEok Try.prog 84 ⟨.func, 1, 8, .nilFunc⟩ := .mk' (by kernel_rfl) (by kernel_rfl) (by kernel_rfl) (fun h => by cases h) (by rfl) (by rfl)
theorem te20 : TEok Try.prog 20 ⟨.iface true, 1, 16, .nilIface⟩ := .mk' (by kernel_rfl) (by kernel_rfl) (by kernel_rfl) (fun h => by cases h) (by rfl) (by rfl)
theorem te120 : TEok Try.prog 120 ⟨.func, 1, 8, .nilFunc⟩ := .mk' (by kernel_rfl) (by kernel_rfl) (by kernel_rfl) (fun h => by cases h) (by rfl) (by rfl)
theorem te82 : TEok Try.prog 82 ⟨.func, 1, 8, .nilFunc⟩ := .mk' (by kernel_rfl) (by kernel_rfl) (by kernel_rfl) (fun h => by cases h) (by rfl) (by rfl)
theorem te133 : TEok Try.prog 133 ⟨.func, 1, 8, .nilFunc⟩ := .mk' (by kernel_rfl) (by kernel_rfl) (by kernel_rfl) (fun h => by cases h) (by rfl) (by rfl)
theorem te152 : TEok Try.prog 152 ⟨.int .i64, 1, 8, .int .i64 (0)⟩ := .mk' (by kernel_rfl) (by kernel_rfl) (by kernel_rfl) (fun h => by cases h) (by rfl) (by rfl)
theorem te95 : TEok Try.prog 95 ⟨.ptr 97, 1, 8, .pointer none⟩ := .mk' (by kernel_rfl) (by kernel_rfl) (by kernel_rfl) (fun h => by cases h) (by rfl) (by rfl)
theorem te149 : TEok Try.prog 149 ⟨.iface false, 1, 16, .nilIface⟩ := .mk' (by kernel_rfl) (by kernel_rfl) (by kernel_rfl) (fun h => by cases h) (by rfl) (by rfl)
set_option maxRecDepth 100000
def TT : List (Nat × TE) := [(3, ⟨.int .i64, 1, 8, .int .i64 (0)⟩),
 (25, ⟨.struct [(0, 3, true), (1, 22, true), (2, 23, true)], 3, 56, .agg #[(.int .i64 (0)), (.slice none 0 0), (.slice none 0 0)]⟩),
 (22, ⟨.slice 33, 1, 24, .slice none 0 0⟩),
 (47, ⟨.slice 3, 1, 24, .slice none 0 0⟩),
 (23, ⟨.slice 80, 1, 24, .slice none 0 0⟩),
 (31, ⟨.slice 35, 1, 24, .slice none 0 0⟩),
 (33, ⟨.struct [(0, 3, true), (1, 31, true)], 2, 32, .agg #[(.int .i64 (0)), (.slice none 0 0)]⟩),
 (35, ⟨.struct [(0, 3, true), (1, 3, true), (2, 4, true)], 3, 24, .agg #[(.int .i64 (0)), (.int .i64 (0)), (.bool false)]⟩),
 (41, ⟨.arr 2 3, 2, 16, .agg #[(.int .i64 (0)), (.int .i64 (0))]⟩),
 (108, ⟨.struct [(0, 3, true), (1, 3, true), (2, 3, true), (3, 3, true)], 4, 32, .agg #[(.int .i64 (0)), (.int .i64 (0)), (.int .i64 (0)), (.int .i64 (0))]⟩),
 (4, ⟨.bool, 1, 1, .bool false⟩),
 (49, ⟨.slice 54, 1, 24, .slice none 0 0⟩),
 (27, ⟨.int .i64, 1, 8, .int .i64 (0)⟩),
 (37, ⟨.slice 47, 1, 24, .slice none 0 0⟩),
 (72, ⟨.arr 2 3, 2, 16, .agg #[(.int .i64 (0)), (.int .i64 (0))]⟩),
 (54, ⟨.slice 4, 1, 24, .slice none 0 0⟩),
 (56, ⟨.struct [(0, 3, true), (1, 3, true)], 2, 16, .agg #[(.int .i64 (0)), (.int .i64 (0))]⟩),
 (162, ⟨.int .u64, 1, 8, .int .u64 (0)⟩),
 (57, ⟨.slice 56, 1, 24, .slice none 0 0⟩),
 (80, ⟨.struct [(0, 3, true), (1, 3, true)], 2, 16, .agg #[(.int .i64 (0)), (.int .i64 (0))]⟩),
 (102, ⟨.struct [(0, 72, true), (2, 3, true)], 3, 24, .agg #[(.int .i64 (0)), (.int .i64 (0)), (.int .i64 (0))]⟩),
 (97, ⟨.slice 102, 1, 24, .slice none 0 0⟩),
 (138, ⟨.struct [(0, 108, true)], 4, 32, .agg #[(.int .i64 (0)), (.int .i64 (0)), (.int .i64 (0)), (.int .i64 (0))]⟩),
 (127, ⟨.int .u64, 1, 8, .int .u64 (0)⟩),
 (168, ⟨.int .u64, 1, 8, .int .u64 (0)⟩),
 (44, ⟨.slice 41, 1, 24, .slice none 0 0⟩),
 (106, ⟨.slice 108, 1, 24, .slice none 0 0⟩),
 (160, ⟨.int .u32, 1, 4, .int .u32 (0)⟩),
 (73, ⟨.slice 72, 1, 24, .slice none 0 0⟩),
 (93, ⟨.map 3 3, 1, 8, .map none⟩),
 (172, ⟨.ptr 3, 1, 8, .pointer none⟩),
 (103, ⟨.map 3 4, 1, 8, .map none⟩),
 (99, ⟨.iface false, 1, 16, .nilIface⟩),
 (9, ⟨.str, 1, 16, .string ⟨#[]⟩⟩),
 (5, ⟨.int .u8, 1, 1, .int .u8 (0)⟩),
 (84, ⟨.func, 1, 8, .nilFunc⟩),
 (20, ⟨.iface true, 1, 16, .nilIface⟩),
 (120, ⟨.func, 1, 8, .nilFunc⟩),
 (82, ⟨.func, 1, 8, .nilFunc⟩),
 (133, ⟨.func, 1, 8, .nilFunc⟩),
 (152, ⟨.int .i64, 1, 8, .int .i64 (0)⟩),
 (95, ⟨.ptr 97, 1, 8, .pointer none⟩),
 (149, ⟨.iface false, 1, 16, .nilIface⟩)]
theorem TT_ok : TOk Try.prog TT := .cons te3 <| .cons te25 <| .cons te22 <| .cons te47 <| .cons te23 <| .cons te31 <| .cons te33 <| .cons te35 <| .cons te41 <| .cons te108 <| .cons te4 <| .cons te49 <| .cons te27 <| .cons te37 <| .cons te72 <| .cons te54 <| .cons te56 <| .cons te162 <| .cons te57 <| .cons te80 <| .cons te102 <| .cons te97 <| .cons te138 <| .cons te127 <| .cons te168 <| .cons te44 <| .cons te106 <| .cons te160 <| .cons te73 <| .cons te93 <| .cons te172 <| .cons te103 <| .cons te99 <| .cons te9 <| .cons te5 <| .cons te84 <| .cons te20 <| .cons te120 <| .cons te82 <| .cons te133 <| .cons te152 <| .cons te95 <| .cons te149 <| .nil _
theorem hmix1 : Try.prog.follows .mixedOrders = true := by kernel_rfl
end Go.RX
