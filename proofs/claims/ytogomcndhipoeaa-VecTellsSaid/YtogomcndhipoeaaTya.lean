/- The table of the program's types, checked. -/
import Derived.Test.YtogomcndhipoeaaProg
import Derived.Test.YtogomcndhipoeaaRXq
open Go Go.RX Go.Proofs
namespace Go.RX
theorem TEok.mk' {P : Program} {t : Nat} {e : TE} (h1 : (P.underlying t).map TI.of = some e.u) (h2 : (P.info? t).map (fun i => (i.zero, i.size, i.bytes)) = some (some e.zero, e.size, e.bytes)) (h3 : P.stoodInHeld t = false) (h4 : e.u.isAgg = true → P.eqGuardType P.depth t = false) (h5 : e.zero.cells.size = e.size) (h6 : e.zero.cells.toList.all Value.oneCell' = true) : TEok P t e := ⟨h1, h2, h3, h4, h5, fun i hi => by
  have := List.all_eq_true.1 h6 (e.zero.cells[i]) (by simp)
  simpa [Array.getD, hi] using this⟩
theorem te1 : TEok Try.prog 1 ⟨.func, 1, 8, .nilFunc⟩ := .mk' (by kernel_rfl) (by kernel_rfl) (by kernel_rfl) (fun h => by cases h) (by rfl) (by rfl)
theorem te2 : TEok Try.prog 2 ⟨.int .i64, 1, 8, .int .i64 (0)⟩ := .mk' (by kernel_rfl) (by kernel_rfl) (by kernel_rfl) (fun h => by cases h) (by rfl) (by rfl)
theorem te3 : TEok Try.prog 3 ⟨.int .i64, 1, 8, .int .i64 (0)⟩ := .mk' (by kernel_rfl) (by kernel_rfl) (by kernel_rfl) (fun h => by cases h) (by rfl) (by rfl)
theorem te4 : TEok Try.prog 4 ⟨.bool, 1, 1, .bool false⟩ := .mk' (by kernel_rfl) (by kernel_rfl) (by kernel_rfl) (fun h => by cases h) (by rfl) (by rfl)
theorem te5 : TEok Try.prog 5 ⟨.int .u8, 1, 1, .int .u8 (0)⟩ := .mk' (by kernel_rfl) (by kernel_rfl) (by kernel_rfl) (fun h => by cases h) (by rfl) (by rfl)
theorem te9 : TEok Try.prog 9 ⟨.str, 1, 16, .string ⟨#[]⟩⟩ := .mk' (by kernel_rfl) (by kernel_rfl) (by kernel_rfl) (fun h => by cases h) (by rfl) (by rfl)
theorem te12 : TEok Try.prog 12 ⟨.int .u64, 1, 8, .int .u64 (0)⟩ := .mk' (by kernel_rfl) (by kernel_rfl) (by kernel_rfl) (fun h => by cases h) (by rfl) (by rfl)
theorem te20 : TEok Try.prog 20 ⟨.iface true, 1, 16, .nilIface⟩ := .mk' (by kernel_rfl) (by kernel_rfl) (by kernel_rfl) (fun h => by cases h) (by rfl) (by rfl)
theorem te21 : TEok Try.prog 21 ⟨.int .i32, 1, 4, .int .i32 (0)⟩ := .mk' (by kernel_rfl) (by kernel_rfl) (by kernel_rfl) (fun h => by cases h) (by rfl) (by rfl)
theorem te22 : TEok Try.prog 22 ⟨.slice 31, 1, 24, .slice none 0 0⟩ := .mk' (by kernel_rfl) (by kernel_rfl) (by kernel_rfl) (fun h => by cases h) (by rfl) (by rfl)
theorem te23 : TEok Try.prog 23 ⟨.func, 1, 8, .nilFunc⟩ := .mk' (by kernel_rfl) (by kernel_rfl) (by kernel_rfl) (fun h => by cases h) (by rfl) (by rfl)
theorem te24 : TEok Try.prog 24 ⟨.int .i64, 1, 8, .int .i64 (0)⟩ := .mk' (by kernel_rfl) (by kernel_rfl) (by kernel_rfl) (fun h => by cases h) (by rfl) (by rfl)
theorem te26 : TEok Try.prog 26 ⟨.func, 1, 8, .nilFunc⟩ := .mk' (by kernel_rfl) (by kernel_rfl) (by kernel_rfl) (fun h => by cases h) (by rfl) (by rfl)
theorem te28 : TEok Try.prog 28 ⟨.func, 1, 8, .nilFunc⟩ := .mk' (by kernel_rfl) (by kernel_rfl) (by kernel_rfl) (fun h => by cases h) (by rfl) (by rfl)
theorem te29 : TEok Try.prog 29 ⟨.func, 1, 8, .nilFunc⟩ := .mk' (by kernel_rfl) (by kernel_rfl) (by kernel_rfl) (fun h => by cases h) (by rfl) (by rfl)
theorem te30 : TEok Try.prog 30 ⟨.struct [(0, 3, true), (1, 3, true), (2, 3, true), (3, 3, true)], 4, 32, .agg #[(.int .i64 (0)), (.int .i64 (0)), (.int .i64 (0)), (.int .i64 (0))]⟩ := .mk' (by kernel_rfl) (by kernel_rfl) (by kernel_rfl) (fun _ => by kernel_rfl) (by rfl) (by rfl)
theorem te31 : TEok Try.prog 31 ⟨.struct [(0, 3, true), (1, 3, true), (2, 3, true), (3, 3, true)], 4, 32, .agg #[(.int .i64 (0)), (.int .i64 (0)), (.int .i64 (0)), (.int .i64 (0))]⟩ := .mk' (by kernel_rfl) (by kernel_rfl) (by kernel_rfl) (fun _ => by kernel_rfl) (by rfl) (by rfl)
theorem te33 : TEok Try.prog 33 ⟨.func, 1, 8, .nilFunc⟩ := .mk' (by kernel_rfl) (by kernel_rfl) (by kernel_rfl) (fun h => by cases h) (by rfl) (by rfl)
theorem te34 : TEok Try.prog 34 ⟨.func, 1, 8, .nilFunc⟩ := .mk' (by kernel_rfl) (by kernel_rfl) (by kernel_rfl) (fun h => by cases h) (by rfl) (by rfl)
theorem te36 : TEok Try.prog 36 ⟨.func, 1, 8, .nilFunc⟩ := .mk' (by kernel_rfl) (by kernel_rfl) (by kernel_rfl) (fun h => by cases h) (by rfl) (by rfl)
theorem te37 : TEok Try.prog 37 ⟨.func, 1, 8, .nilFunc⟩ := .mk' (by kernel_rfl) (by kernel_rfl) (by kernel_rfl) (fun h => by cases h) (by rfl) (by rfl)
theorem te38 : TEok Try.prog 38 ⟨.func, 1, 8, .nilFunc⟩ := .mk' (by kernel_rfl) (by kernel_rfl) (by kernel_rfl) (fun h => by cases h) (by rfl) (by rfl)
theorem te39 : TEok Try.prog 39 ⟨.func, 1, 8, .nilFunc⟩ := .mk' (by kernel_rfl) (by kernel_rfl) (by kernel_rfl) (fun h => by cases h) (by rfl) (by rfl)
theorem te40 : TEok Try.prog 40 ⟨.func, 1, 8, .nilFunc⟩ := .mk' (by kernel_rfl) (by kernel_rfl) (by kernel_rfl) (fun h => by cases h) (by rfl) (by rfl)
theorem te41 : TEok Try.prog 41 ⟨.func, 1, 8, .nilFunc⟩ := .mk' (by kernel_rfl) (by kernel_rfl) (by kernel_rfl) (fun h => by cases h) (by rfl) (by rfl)
theorem te42 : TEok Try.prog 42 ⟨.func, 1, 8, .nilFunc⟩ := .mk' (by kernel_rfl) (by kernel_rfl) (by kernel_rfl) (fun h => by cases h) (by rfl) (by rfl)
theorem te43 : TEok Try.prog 43 ⟨.func, 1, 8, .nilFunc⟩ := .mk' (by kernel_rfl) (by kernel_rfl) (by kernel_rfl) (fun h => by cases h) (by rfl) (by rfl)
theorem te44 : TEok Try.prog 44 ⟨.struct [(0, 31, true)], 4, 32, .agg #[(.int .i64 (0)), (.int .i64 (0)), (.int .i64 (0)), (.int .i64 (0))]⟩ := .mk' (by kernel_rfl) (by kernel_rfl) (by kernel_rfl) (fun _ => by kernel_rfl) (by rfl) (by rfl)
theorem te45 : TEok Try.prog 45 ⟨.struct [(0, 31, true)], 4, 32, .agg #[(.int .i64 (0)), (.int .i64 (0)), (.int .i64 (0)), (.int .i64 (0))]⟩ := .mk' (by kernel_rfl) (by kernel_rfl) (by kernel_rfl) (fun _ => by kernel_rfl) (by rfl) (by rfl)
theorem te46 : TEok Try.prog 46 ⟨.func, 1, 8, .nilFunc⟩ := .mk' (by kernel_rfl) (by kernel_rfl) (by kernel_rfl) (fun h => by cases h) (by rfl) (by rfl)
theorem te47 : TEok Try.prog 47 ⟨.func, 1, 8, .nilFunc⟩ := .mk' (by kernel_rfl) (by kernel_rfl) (by kernel_rfl) (fun h => by cases h) (by rfl) (by rfl)
theorem te48 : TEok Try.prog 48 ⟨.func, 1, 8, .nilFunc⟩ := .mk' (by kernel_rfl) (by kernel_rfl) (by kernel_rfl) (fun h => by cases h) (by rfl) (by rfl)
theorem te49 : TEok Try.prog 49 ⟨.func, 1, 8, .nilFunc⟩ := .mk' (by kernel_rfl) (by kernel_rfl) (by kernel_rfl) (fun h => by cases h) (by rfl) (by rfl)
theorem te50 : TEok Try.prog 50 ⟨.func, 1, 8, .nilFunc⟩ := .mk' (by kernel_rfl) (by kernel_rfl) (by kernel_rfl) (fun h => by cases h) (by rfl) (by rfl)
theorem te51 : TEok Try.prog 51 ⟨.iface false, 1, 16, .nilIface⟩ := .mk' (by kernel_rfl) (by kernel_rfl) (by kernel_rfl) (fun h => by cases h) (by rfl) (by rfl)
theorem te52 : TEok Try.prog 52 ⟨.iface false, 1, 16, .nilIface⟩ := .mk' (by kernel_rfl) (by kernel_rfl) (by kernel_rfl) (fun h => by cases h) (by rfl) (by rfl)
theorem te53 : TEok Try.prog 53 ⟨.func, 1, 8, .nilFunc⟩ := .mk' (by kernel_rfl) (by kernel_rfl) (by kernel_rfl) (fun h => by cases h) (by rfl) (by rfl)
theorem te54 : TEok Try.prog 54 ⟨.func, 1, 8, .nilFunc⟩ := .mk' (by kernel_rfl) (by kernel_rfl) (by kernel_rfl) (fun h => by cases h) (by rfl) (by rfl)
theorem te55 : TEok Try.prog 55 ⟨.func, 1, 8, .nilFunc⟩ := .mk' (by kernel_rfl) (by kernel_rfl) (by kernel_rfl) (fun h => by cases h) (by rfl) (by rfl)
theorem te56 : TEok Try.prog 56 ⟨.func, 1, 8, .nilFunc⟩ := .mk' (by kernel_rfl) (by kernel_rfl) (by kernel_rfl) (fun h => by cases h) (by rfl) (by rfl)
theorem te57 : TEok Try.prog 57 ⟨.func, 1, 8, .nilFunc⟩ := .mk' (by kernel_rfl) (by kernel_rfl) (by kernel_rfl) (fun h => by cases h) (by rfl) (by rfl)
theorem te58 : TEok Try.prog 58 ⟨.slice 3, 1, 24, .slice none 0 0⟩ := .mk' (by kernel_rfl) (by kernel_rfl) (by kernel_rfl) (fun h => by cases h) (by rfl) (by rfl)
theorem te59 : TEok Try.prog 59 ⟨.int .u64, 1, 8, .int .u64 (0)⟩ := .mk' (by kernel_rfl) (by kernel_rfl) (by kernel_rfl) (fun h => by cases h) (by rfl) (by rfl)
theorem te60 : TEok Try.prog 60 ⟨.func, 1, 8, .nilFunc⟩ := .mk' (by kernel_rfl) (by kernel_rfl) (by kernel_rfl) (fun h => by cases h) (by rfl) (by rfl)
theorem te66 : TEok Try.prog 66 ⟨.func, 1, 8, .nilFunc⟩ := .mk' (by kernel_rfl) (by kernel_rfl) (by kernel_rfl) (fun h => by cases h) (by rfl) (by rfl)
theorem te67 : TEok Try.prog 67 ⟨.int .u32, 1, 4, .int .u32 (0)⟩ := .mk' (by kernel_rfl) (by kernel_rfl) (by kernel_rfl) (fun h => by cases h) (by rfl) (by rfl)
theorem te71 : TEok Try.prog 71 ⟨.ptr 5, 1, 8, .pointer none⟩ := .mk' (by kernel_rfl) (by kernel_rfl) (by kernel_rfl) (fun h => by cases h) (by rfl) (by rfl)
def TT : List (Nat × TE) := [(1, ⟨.func, 1, 8, .nilFunc⟩),
  (2, ⟨.int .i64, 1, 8, .int .i64 (0)⟩),
  (3, ⟨.int .i64, 1, 8, .int .i64 (0)⟩),
  (4, ⟨.bool, 1, 1, .bool false⟩),
  (5, ⟨.int .u8, 1, 1, .int .u8 (0)⟩),
  (9, ⟨.str, 1, 16, .string ⟨#[]⟩⟩),
  (12, ⟨.int .u64, 1, 8, .int .u64 (0)⟩),
  (20, ⟨.iface true, 1, 16, .nilIface⟩),
  (21, ⟨.int .i32, 1, 4, .int .i32 (0)⟩),
  (22, ⟨.slice 31, 1, 24, .slice none 0 0⟩),
  (23, ⟨.func, 1, 8, .nilFunc⟩),
  (24, ⟨.int .i64, 1, 8, .int .i64 (0)⟩),
  (26, ⟨.func, 1, 8, .nilFunc⟩),
  (28, ⟨.func, 1, 8, .nilFunc⟩),
  (29, ⟨.func, 1, 8, .nilFunc⟩),
  (30, ⟨.struct [(0, 3, true), (1, 3, true), (2, 3, true), (3, 3, true)], 4, 32, .agg #[(.int .i64 (0)), (.int .i64 (0)), (.int .i64 (0)), (.int .i64 (0))]⟩),
  (31, ⟨.struct [(0, 3, true), (1, 3, true), (2, 3, true), (3, 3, true)], 4, 32, .agg #[(.int .i64 (0)), (.int .i64 (0)), (.int .i64 (0)), (.int .i64 (0))]⟩),
  (33, ⟨.func, 1, 8, .nilFunc⟩),
  (34, ⟨.func, 1, 8, .nilFunc⟩),
  (36, ⟨.func, 1, 8, .nilFunc⟩),
  (37, ⟨.func, 1, 8, .nilFunc⟩),
  (38, ⟨.func, 1, 8, .nilFunc⟩),
  (39, ⟨.func, 1, 8, .nilFunc⟩),
  (40, ⟨.func, 1, 8, .nilFunc⟩),
  (41, ⟨.func, 1, 8, .nilFunc⟩),
  (42, ⟨.func, 1, 8, .nilFunc⟩),
  (43, ⟨.func, 1, 8, .nilFunc⟩),
  (44, ⟨.struct [(0, 31, true)], 4, 32, .agg #[(.int .i64 (0)), (.int .i64 (0)), (.int .i64 (0)), (.int .i64 (0))]⟩),
  (45, ⟨.struct [(0, 31, true)], 4, 32, .agg #[(.int .i64 (0)), (.int .i64 (0)), (.int .i64 (0)), (.int .i64 (0))]⟩),
  (46, ⟨.func, 1, 8, .nilFunc⟩),
  (47, ⟨.func, 1, 8, .nilFunc⟩),
  (48, ⟨.func, 1, 8, .nilFunc⟩),
  (49, ⟨.func, 1, 8, .nilFunc⟩),
  (50, ⟨.func, 1, 8, .nilFunc⟩),
  (51, ⟨.iface false, 1, 16, .nilIface⟩),
  (52, ⟨.iface false, 1, 16, .nilIface⟩),
  (53, ⟨.func, 1, 8, .nilFunc⟩),
  (54, ⟨.func, 1, 8, .nilFunc⟩),
  (55, ⟨.func, 1, 8, .nilFunc⟩),
  (56, ⟨.func, 1, 8, .nilFunc⟩),
  (57, ⟨.func, 1, 8, .nilFunc⟩),
  (58, ⟨.slice 3, 1, 24, .slice none 0 0⟩),
  (59, ⟨.int .u64, 1, 8, .int .u64 (0)⟩),
  (60, ⟨.func, 1, 8, .nilFunc⟩),
  (66, ⟨.func, 1, 8, .nilFunc⟩),
  (67, ⟨.int .u32, 1, 4, .int .u32 (0)⟩),
  (71, ⟨.ptr 5, 1, 8, .pointer none⟩)]
theorem TT_ok : TOk Try.prog TT := .cons te1 <| .cons te2 <| .cons te3 <| .cons te4 <| .cons te5 <| .cons te9 <| .cons te12 <| .cons te20 <| .cons te21 <| .cons te22 <| .cons te23 <| .cons te24 <| .cons te26 <| .cons te28 <| .cons te29 <| .cons te30 <| .cons te31 <| .cons te33 <| .cons te34 <| .cons te36 <| .cons te37 <| .cons te38 <| .cons te39 <| .cons te40 <| .cons te41 <| .cons te42 <| .cons te43 <| .cons te44 <| .cons te45 <| .cons te46 <| .cons te47 <| .cons te48 <| .cons te49 <| .cons te50 <| .cons te51 <| .cons te52 <| .cons te53 <| .cons te54 <| .cons te55 <| .cons te56 <| .cons te57 <| .cons te58 <| .cons te59 <| .cons te60 <| .cons te66 <| .cons te67 <| .cons te71 <| .nil _
end Go.RX
