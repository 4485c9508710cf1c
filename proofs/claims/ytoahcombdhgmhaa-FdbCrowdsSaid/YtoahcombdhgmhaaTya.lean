/- The table of types. -/
import Derived.Test.YtoahcombdhgmhaaProg
import Derived.Test.YtoahcombdhgmhaaRXE
import Derived.Test.YtoahcombdhgmhaaSeq
import Derived.Test.YtoahcombdhgmhaaRXr
set_option linter.unusedVariables false
open Go Go.RX Go.Proofs
namespace Go.RX
theorem TEok.mk' {P : Program} {t : Nat} {e : TE} (h1 : (P.underlying t).map TI.of = some e.u) (h2 : (P.info? t).map (fun i => (i.zero, i.size, i.bytes)) = some (some e.zero, e.size, e.bytes)) (h3 : P.stoodInHeld t = false) (h4 : e.u.isAgg = true → P.eqGuardType P.depth t = false) (h5 : e.zero.cells.size = e.size) (h6 : e.zero.cells.toList.all Value.oneCell' = true) : TEok P t e := ⟨h1, h2, h3, h4, h5, fun i hi => by
  have := List.all_eq_true.1 h6 (e.zero.cells[i]) (by simp)
  simpa [Array.getD, hi] using this⟩
theorem te3 : TEok Try.prog 3 ⟨.int .i64, 1, 8, .int .i64 (0)⟩ := .mk' (by kernel_rfl) (by kernel_rfl) (by kernel_rfl) (fun h => by cases h) (by rfl) (by rfl)
theorem te41 : TEok Try.prog 41 ⟨.slice 3, 1, 24, .slice none 0 0⟩ := .mk' (by kernel_rfl) (by kernel_rfl) (by kernel_rfl) (fun h => by cases h) (by rfl) (by rfl)
theorem te47 : TEok Try.prog 47 ⟨.struct [(0, 3, true), (1, 44, true), (2, 45, true)], 3, 56, .agg #[(.int .i64 (0)), (.slice none 0 0), (.slice none 0 0)]⟩ := .mk' (by kernel_rfl) (by kernel_rfl) (by kernel_rfl) (fun _ => by kernel_rfl) (by rfl) (by rfl)
theorem te44 : TEok Try.prog 44 ⟨.slice 53, 1, 24, .slice none 0 0⟩ := .mk' (by kernel_rfl) (by kernel_rfl) (by kernel_rfl) (fun h => by cases h) (by rfl) (by rfl)
theorem te45 : TEok Try.prog 45 ⟨.slice 147, 1, 24, .slice none 0 0⟩ := .mk' (by kernel_rfl) (by kernel_rfl) (by kernel_rfl) (fun h => by cases h) (by rfl) (by rfl)
theorem te82 : TEok Try.prog 82 ⟨.struct [(0, 3, true), (1, 41, true), (2, 73, true), (3, 80, true)], 4, 80, .agg #[(.int .i64 (0)), (.slice none 0 0), (.slice none 0 0), (.slice none 0 0)]⟩ := .mk' (by kernel_rfl) (by kernel_rfl) (by kernel_rfl) (fun _ => by kernel_rfl) (by rfl) (by rfl)
theorem te85 : TEok Try.prog 85 ⟨.struct [(0, 82, true), (4, 83, true), (5, 3, true), (6, 3, true)], 7, 120, .agg #[(.int .i64 (0)), (.slice none 0 0), (.slice none 0 0), (.slice none 0 0), (.slice none 0 0), (.int .i64 (0)), (.int .i64 (0))]⟩ := .mk' (by kernel_rfl) (by kernel_rfl) (by kernel_rfl) (fun _ => by kernel_rfl) (by rfl) (by rfl)
theorem te24 : TEok Try.prog 24 ⟨.struct [(0, 22, true), (1, 3, true), (2, 3, true)], 3, 40, .agg #[(.slice none 0 0), (.int .i64 (0)), (.int .i64 (0))]⟩ := .mk' (by kernel_rfl) (by kernel_rfl) (by kernel_rfl) (fun _ => by kernel_rfl) (by rfl) (by rfl)
theorem te127 : TEok Try.prog 127 ⟨.slice 129, 1, 24, .slice none 0 0⟩ := .mk' (by kernel_rfl) (by kernel_rfl) (by kernel_rfl) (fun h => by cases h) (by rfl) (by rfl)
theorem te87 : TEok Try.prog 87 ⟨.struct [(0, 3, true), (1, 3, true), (2, 3, true), (3, 3, true)], 4, 32, .agg #[(.int .i64 (0)), (.int .i64 (0)), (.int .i64 (0)), (.int .i64 (0))]⟩ := .mk' (by kernel_rfl) (by kernel_rfl) (by kernel_rfl) (fun _ => by kernel_rfl) (by rfl) (by rfl)
theorem te4 : TEok Try.prog 4 ⟨.bool, 1, 1, .bool false⟩ := .mk' (by kernel_rfl) (by kernel_rfl) (by kernel_rfl) (fun h => by cases h) (by rfl) (by rfl)
theorem te83 : TEok Try.prog 83 ⟨.slice 224, 1, 24, .slice none 0 0⟩ := .mk' (by kernel_rfl) (by kernel_rfl) (by kernel_rfl) (fun h => by cases h) (by rfl) (by rfl)
theorem te73 : TEok Try.prog 73 ⟨.slice 4, 1, 24, .slice none 0 0⟩ := .mk' (by kernel_rfl) (by kernel_rfl) (by kernel_rfl) (fun h => by cases h) (by rfl) (by rfl)
theorem te129 : TEok Try.prog 129 ⟨.struct [(0, 3, true), (1, 3, true)], 2, 16, .agg #[(.int .i64 (0)), (.int .i64 (0))]⟩ := .mk' (by kernel_rfl) (by kernel_rfl) (by kernel_rfl) (fun _ => by kernel_rfl) (by rfl) (by rfl)
theorem te22 : TEok Try.prog 22 ⟨.slice 186, 1, 24, .slice none 0 0⟩ := .mk' (by kernel_rfl) (by kernel_rfl) (by kernel_rfl) (fun h => by cases h) (by rfl) (by rfl)
theorem te51 : TEok Try.prog 51 ⟨.slice 55, 1, 24, .slice none 0 0⟩ := .mk' (by kernel_rfl) (by kernel_rfl) (by kernel_rfl) (fun h => by cases h) (by rfl) (by rfl)
theorem te80 : TEok Try.prog 80 ⟨.slice 120, 1, 24, .slice none 0 0⟩ := .mk' (by kernel_rfl) (by kernel_rfl) (by kernel_rfl) (fun h => by cases h) (by rfl) (by rfl)
theorem te26 : TEok Try.prog 26 ⟨.int .i64, 1, 8, .int .i64 (0)⟩ := .mk' (by kernel_rfl) (by kernel_rfl) (by kernel_rfl) (fun h => by cases h) (by rfl) (by rfl)
theorem te53 : TEok Try.prog 53 ⟨.struct [(0, 3, true), (1, 51, true)], 2, 32, .agg #[(.int .i64 (0)), (.slice none 0 0)]⟩ := .mk' (by kernel_rfl) (by kernel_rfl) (by kernel_rfl) (fun _ => by kernel_rfl) (by rfl) (by rfl)
theorem te55 : TEok Try.prog 55 ⟨.struct [(0, 3, true), (1, 3, true), (2, 4, true)], 3, 24, .agg #[(.int .i64 (0)), (.int .i64 (0)), (.bool false)]⟩ := .mk' (by kernel_rfl) (by kernel_rfl) (by kernel_rfl) (fun _ => by kernel_rfl) (by rfl) (by rfl)
theorem te9 : TEok Try.prog 9 ⟨.str, 1, 16, .string ⟨#[]⟩⟩ := .mk' (by kernel_rfl) (by kernel_rfl) (by kernel_rfl) (fun h => by cases h) (by rfl) (by rfl)
theorem te224 : TEok Try.prog 224 ⟨.struct [(0, 3, true), (1, 3, true)], 2, 16, .agg #[(.int .i64 (0)), (.int .i64 (0))]⟩ := .mk' (by kernel_rfl) (by kernel_rfl) (by kernel_rfl) (fun _ => by kernel_rfl) (by rfl) (by rfl)
theorem te68 : TEok Try.prog 68 ⟨.slice 73, 1, 24, .slice none 0 0⟩ := .mk' (by kernel_rfl) (by kernel_rfl) (by kernel_rfl) (fun h => by cases h) (by rfl) (by rfl)
theorem te61 : TEok Try.prog 61 ⟨.arr 2 3, 2, 16, .agg #[(.int .i64 (0)), (.int .i64 (0))]⟩ := .mk' (by kernel_rfl) (by kernel_rfl) (by kernel_rfl) (fun _ => by kernel_rfl) (by rfl) (by rfl)
theorem te191 : TEok Try.prog 191 ⟨.struct [(0, 3, true), (1, 3, true), (2, 3, true), (3, 4, true)], 4, 32, .agg #[(.int .i64 (0)), (.int .i64 (0)), (.int .i64 (0)), (.bool false)]⟩ := .mk' (by kernel_rfl) (by kernel_rfl) (by kernel_rfl) (fun _ => by kernel_rfl) (by rfl) (by rfl)
theorem te186 : TEok Try.prog 186 ⟨.slice 191, 1, 24, .slice none 0 0⟩ := .mk' (by kernel_rfl) (by kernel_rfl) (by kernel_rfl) (fun h => by cases h) (by rfl) (by rfl)
theorem te120 : TEok Try.prog 120 ⟨.struct [(0, 4, true), (1, 87, true), (5, 3, true)], 6, 48, .agg #[(.bool false), (.int .i64 (0)), (.int .i64 (0)), (.int .i64 (0)), (.int .i64 (0)), (.int .i64 (0))]⟩ := .mk' (by kernel_rfl) (by kernel_rfl) (by kernel_rfl) (fun _ => by kernel_rfl) (by rfl) (by rfl)
theorem te260 : TEok Try.prog 260 ⟨.struct [(0, 3, true), (1, 3, true), (2, 3, true), (3, 3, true), (4, 9, true)], 5, 48, .agg #[(.int .i64 (0)), (.int .i64 (0)), (.int .i64 (0)), (.int .i64 (0)), (.string ⟨#[]⟩)]⟩ := .mk' (by kernel_rfl) (by kernel_rfl) (by kernel_rfl) (fun _ => by kernel_rfl) (by rfl) (by rfl)
theorem te89 : TEok Try.prog 89 ⟨.struct [(0, 87, true), (4, 3, true)], 5, 40, .agg #[(.int .i64 (0)), (.int .i64 (0)), (.int .i64 (0)), (.int .i64 (0)), (.int .i64 (0))]⟩ := .mk' (by kernel_rfl) (by kernel_rfl) (by kernel_rfl) (fun _ => by kernel_rfl) (by rfl) (by rfl)
theorem te147 : TEok Try.prog 147 ⟨.struct [(0, 3, true), (1, 3, true)], 2, 16, .agg #[(.int .i64 (0)), (.int .i64 (0))]⟩ := .mk' (by kernel_rfl) (by kernel_rfl) (by kernel_rfl) (fun _ => by kernel_rfl) (by rfl) (by rfl)
theorem te334 : TEok Try.prog 334 ⟨.struct [(0, 3, true), (1, 3, true), (2, 3, true), (3, 9, true)], 4, 40, .agg #[(.int .i64 (0)), (.int .i64 (0)), (.int .i64 (0)), (.string ⟨#[]⟩)]⟩ := .mk' (by kernel_rfl) (by kernel_rfl) (by kernel_rfl) (fun _ => by kernel_rfl) (by rfl) (by rfl)
theorem te167 : TEok Try.prog 167 ⟨.slice 260, 1, 24, .slice none 0 0⟩ := .mk' (by kernel_rfl) (by kernel_rfl) (by kernel_rfl) (fun h => by cases h) (by rfl) (by rfl)
theorem te131 : TEok Try.prog 131 ⟨.int .u64, 1, 8, .int .u64 (0)⟩ := .mk' (by kernel_rfl) (by kernel_rfl) (by kernel_rfl) (fun h => by cases h) (by rfl) (by rfl)
theorem te57 : TEok Try.prog 57 ⟨.slice 41, 1, 24, .slice none 0 0⟩ := .mk' (by kernel_rfl) (by kernel_rfl) (by kernel_rfl) (fun h => by cases h) (by rfl) (by rfl)
theorem te201 : TEok Try.prog 201 ⟨.arr 2 3, 2, 16, .agg #[(.int .i64 (0)), (.int .i64 (0))]⟩ := .mk' (by kernel_rfl) (by kernel_rfl) (by kernel_rfl) (fun _ => by kernel_rfl) (by rfl) (by rfl)
theorem te42 : TEok Try.prog 42 ⟨.map 3 3, 1, 8, .map none⟩ := .mk' (by kernel_rfl) (by kernel_rfl) (by kernel_rfl) (fun h => by cases h) (by rfl) (by rfl)
theorem te75 : TEok Try.prog 75 ⟨.struct [(0, 3, true), (1, 3, true)], 2, 16, .agg #[(.int .i64 (0)), (.int .i64 (0))]⟩ := .mk' (by kernel_rfl) (by kernel_rfl) (by kernel_rfl) (fun _ => by kernel_rfl) (by rfl) (by rfl)
theorem te304 : TEok Try.prog 304 ⟨.int .u64, 1, 8, .int .u64 (0)⟩ := .mk' (by kernel_rfl) (by kernel_rfl) (by kernel_rfl) (fun h => by cases h) (by rfl) (by rfl)
theorem te64 : TEok Try.prog 64 ⟨.slice 61, 1, 24, .slice none 0 0⟩ := .mk' (by kernel_rfl) (by kernel_rfl) (by kernel_rfl) (fun h => by cases h) (by rfl) (by rfl)
theorem te76 : TEok Try.prog 76 ⟨.slice 75, 1, 24, .slice none 0 0⟩ := .mk' (by kernel_rfl) (by kernel_rfl) (by kernel_rfl) (fun h => by cases h) (by rfl) (by rfl)
theorem te292 : TEok Try.prog 292 ⟨.struct [(0, 201, true), (2, 3, true)], 3, 24, .agg #[(.int .i64 (0)), (.int .i64 (0)), (.int .i64 (0))]⟩ := .mk' (by kernel_rfl) (by kernel_rfl) (by kernel_rfl) (fun _ => by kernel_rfl) (by rfl) (by rfl)
theorem te311 : TEok Try.prog 311 ⟨.struct [(0, 87, true)], 4, 32, .agg #[(.int .i64 (0)), (.int .i64 (0)), (.int .i64 (0)), (.int .i64 (0))]⟩ := .mk' (by kernel_rfl) (by kernel_rfl) (by kernel_rfl) (fun _ => by kernel_rfl) (by rfl) (by rfl)
theorem te388 : TEok Try.prog 388 ⟨.int .u64, 1, 8, .int .u64 (0)⟩ := .mk' (by kernel_rfl) (by kernel_rfl) (by kernel_rfl) (fun h => by cases h) (by rfl) (by rfl)
theorem te339 : TEok Try.prog 339 ⟨.slice 3, 1, 24, .slice none 0 0⟩ := .mk' (by kernel_rfl) (by kernel_rfl) (by kernel_rfl) (fun h => by cases h) (by rfl) (by rfl)
theorem te5 : TEok Try.prog 5 ⟨.int .u8, 1, 1, .int .u8 (0)⟩ := .mk' (by kernel_rfl) (by kernel_rfl) (by kernel_rfl) (fun h => by cases h) (by rfl) (by rfl)
theorem te295 : TEok Try.prog 295 ⟨.slice 87, 1, 24, .slice none 0 0⟩ := .mk' (by kernel_rfl) (by kernel_rfl) (by kernel_rfl) (fun h => by cases h) (by rfl) (by rfl)
theorem te249 : TEok Try.prog 249 ⟨.func, 1, 8, .nilFunc⟩ := .mk' (by kernel_rfl) (by kernel_rfl) (by kernel_rfl) (fun h => by cases h) (by rfl) (by rfl)
theorem te343 : TEok Try.prog 343 ⟨.int .u32, 1, 4, .int .u32 (0)⟩ := .mk' (by kernel_rfl) (by kernel_rfl) (by kernel_rfl) (fun h => by cases h) (by rfl) (by rfl)
theorem te102 : TEok Try.prog 102 ⟨.slice 122, 1, 24, .slice none 0 0⟩ := .mk' (by kernel_rfl) (by kernel_rfl) (by kernel_rfl) (fun h => by cases h) (by rfl) (by rfl)
theorem te287 : TEok Try.prog 287 ⟨.slice 292, 1, 24, .slice none 0 0⟩ := .mk' (by kernel_rfl) (by kernel_rfl) (by kernel_rfl) (fun h => by cases h) (by rfl) (by rfl)
theorem te392 : TEok Try.prog 392 ⟨.ptr 3, 1, 8, .pointer none⟩ := .mk' (by kernel_rfl) (by kernel_rfl) (by kernel_rfl) (fun h => by cases h) (by rfl) (by rfl)
theorem te122 : TEok Try.prog 122 ⟨.struct [(0, 3, true), (1, 89, true)], 6, 48, .agg #[(.int .i64 (0)), (.int .i64 (0)), (.int .i64 (0)), (.int .i64 (0)), (.int .i64 (0)), (.int .i64 (0))]⟩ := .mk' (by kernel_rfl) (by kernel_rfl) (by kernel_rfl) (fun _ => by kernel_rfl) (by rfl) (by rfl)
theorem te202 : TEok Try.prog 202 ⟨.slice 201, 1, 24, .slice none 0 0⟩ := .mk' (by kernel_rfl) (by kernel_rfl) (by kernel_rfl) (fun h => by cases h) (by rfl) (by rfl)
theorem te318 : TEok Try.prog 318 ⟨.struct [(0, 3, true)], 1, 8, .agg #[(.int .i64 (0))]⟩ := .mk' (by kernel_rfl) (by kernel_rfl) (by kernel_rfl) (fun _ => by kernel_rfl) (by rfl) (by rfl)
theorem te362 : TEok Try.prog 362 ⟨.slice 5, 1, 24, .slice none 0 0⟩ := .mk' (by kernel_rfl) (by kernel_rfl) (by kernel_rfl) (fun h => by cases h) (by rfl) (by rfl)
theorem te116 : TEok Try.prog 116 ⟨.arr 4 3, 4, 32, .agg #[(.int .i64 (0)), (.int .i64 (0)), (.int .i64 (0)), (.int .i64 (0))]⟩ := .mk' (by kernel_rfl) (by kernel_rfl) (by kernel_rfl) (fun _ => by kernel_rfl) (by rfl) (by rfl)
theorem te243 : TEok Try.prog 243 ⟨.iface false, 1, 16, .nilIface⟩ := .mk' (by kernel_rfl) (by kernel_rfl) (by kernel_rfl) (fun h => by cases h) (by rfl) (by rfl)
theorem te275 : TEok Try.prog 275 ⟨.func, 1, 8, .nilFunc⟩ := .mk' (by kernel_rfl) (by kernel_rfl) (by kernel_rfl) (fun h => by cases h) (by rfl) (by rfl)
theorem te247 : TEok Try.prog 247 ⟨.map 3 4, 1, 8, .map none⟩ := .mk' (by kernel_rfl) (by kernel_rfl) (by kernel_rfl) (fun h => by cases h) (by rfl) (by rfl)
theorem te276 : TEok Try.prog 276 ⟨.map 191 4, 1, 8, .map none⟩ := .mk' (by kernel_rfl) (by kernel_rfl) (by kernel_rfl) (fun h => by cases h) (by rfl) (by rfl)
theorem te182 : TEok Try.prog 182 ⟨.arr 3 3, 3, 24, .agg #[(.int .i64 (0)), (.int .i64 (0)), (.int .i64 (0))]⟩ := .mk' (by kernel_rfl) (by kernel_rfl) (by kernel_rfl) (fun _ => by kernel_rfl) (by rfl) (by rfl)
theorem te37 : TEok Try.prog 37 ⟨.func, 1, 8, .nilFunc⟩ := .mk' (by kernel_rfl) (by kernel_rfl) (by kernel_rfl) (fun h => by cases h) (by rfl) (by rfl)
theorem te328 : TEok Try.prog 328 ⟨.slice 127, 1, 24, .slice none 0 0⟩ := .mk' (by kernel_rfl) (by kernel_rfl) (by kernel_rfl) (fun h => by cases h) (by rfl) (by rfl)
theorem te264 : TEok Try.prog 264 ⟨.map 266 3, 1, 8, .map none⟩ := .mk' (by kernel_rfl) (by kernel_rfl) (by kernel_rfl) (fun h => by cases h) (by rfl) (by rfl)
theorem te266 : TEok Try.prog 266 ⟨.struct [(0, 3, true), (1, 9, true)], 2, 24, .agg #[(.int .i64 (0)), (.string ⟨#[]⟩)]⟩ := .mk' (by kernel_rfl) (by kernel_rfl) (by kernel_rfl) (fun _ => by kernel_rfl) (by rfl) (by rfl)
theorem te289 : TEok Try.prog 289 ⟨.iface false, 1, 16, .nilIface⟩ := .mk' (by kernel_rfl) (by kernel_rfl) (by kernel_rfl) (fun h => by cases h) (by rfl) (by rfl)
theorem te326 : TEok Try.prog 326 ⟨.arr 16 127, 16, 384, .agg #[(.slice none 0 0), (.slice none 0 0), (.slice none 0 0), (.slice none 0 0), (.slice none 0 0), (.slice none 0 0), (.slice none 0 0), (.slice none 0 0), (.slice none 0 0), (.slice none 0 0), (.slice none 0 0), (.slice none 0 0), (.slice none 0 0), (.slice none 0 0), (.slice none 0 0), (.slice none 0 0)]⟩ := .mk' (by kernel_rfl) (by kernel_rfl) (by kernel_rfl) (fun _ => by kernel_rfl) (by rfl) (by rfl)
theorem te115 : TEok Try.prog 115 ⟨.slice 116, 1, 24, .slice none 0 0⟩ := .mk' (by kernel_rfl) (by kernel_rfl) (by kernel_rfl) (fun h => by cases h) (by rfl) (by rfl)
theorem te181 : TEok Try.prog 181 ⟨.slice 182, 1, 24, .slice none 0 0⟩ := .mk' (by kernel_rfl) (by kernel_rfl) (by kernel_rfl) (fun h => by cases h) (by rfl) (by rfl)
theorem te217 : TEok Try.prog 217 ⟨.func, 1, 8, .nilFunc⟩ := .mk' (by kernel_rfl) (by kernel_rfl) (by kernel_rfl) (fun h => by cases h) (by rfl) (by rfl)
theorem te372 : TEok Try.prog 372 ⟨.int .i64, 1, 8, .int .i64 (0)⟩ := .mk' (by kernel_rfl) (by kernel_rfl) (by kernel_rfl) (fun h => by cases h) (by rfl) (by rfl)
theorem te142 : TEok Try.prog 142 ⟨.func, 1, 8, .nilFunc⟩ := .mk' (by kernel_rfl) (by kernel_rfl) (by kernel_rfl) (fun h => by cases h) (by rfl) (by rfl)
theorem te262 : TEok Try.prog 262 ⟨.func, 1, 8, .nilFunc⟩ := .mk' (by kernel_rfl) (by kernel_rfl) (by kernel_rfl) (fun h => by cases h) (by rfl) (by rfl)
theorem te268 : TEok Try.prog 268 ⟨.map 9 41, 1, 8, .map none⟩ := .mk' (by kernel_rfl) (by kernel_rfl) (by kernel_rfl) (fun h => by cases h) (by rfl) (by rfl)
theorem te271 : TEok Try.prog 271 ⟨.map 266 4, 1, 8, .map none⟩ := .mk' (by kernel_rfl) (by kernel_rfl) (by kernel_rfl) (fun h => by cases h) (by rfl) (by rfl)
theorem te20 : TEok Try.prog 20 ⟨.iface true, 1, 16, .nilIface⟩ := .mk' (by kernel_rfl) (by kernel_rfl) (by kernel_rfl) (fun h => by cases h) (by rfl) (by rfl)
theorem te321 : TEok Try.prog 321 ⟨.struct [], 0, 0, .agg #[]⟩ := .mk' (by kernel_rfl) (by kernel_rfl) (by kernel_rfl) (fun _ => by kernel_rfl) (by rfl) (by rfl)
theorem te322 : TEok Try.prog 322 ⟨.func, 1, 8, .nilFunc⟩ := .mk' (by kernel_rfl) (by kernel_rfl) (by kernel_rfl) (fun h => by cases h) (by rfl) (by rfl)
theorem te368 : TEok Try.prog 368 ⟨.arr 6 5, 6, 6, .agg #[(.int .u8 (0)), (.int .u8 (0)), (.int .u8 (0)), (.int .u8 (0)), (.int .u8 (0)), (.int .u8 (0))]⟩ := .mk' (by kernel_rfl) (by kernel_rfl) (by kernel_rfl) (fun _ => by kernel_rfl) (by rfl) (by rfl)
theorem te209 : TEok Try.prog 209 ⟨.func, 1, 8, .nilFunc⟩ := .mk' (by kernel_rfl) (by kernel_rfl) (by kernel_rfl) (fun h => by cases h) (by rfl) (by rfl)
theorem te356 : TEok Try.prog 356 ⟨.iface false, 1, 16, .nilIface⟩ := .mk' (by kernel_rfl) (by kernel_rfl) (by kernel_rfl) (fun h => by cases h) (by rfl) (by rfl)
theorem te219 : TEok Try.prog 219 ⟨.func, 1, 8, .nilFunc⟩ := .mk' (by kernel_rfl) (by kernel_rfl) (by kernel_rfl) (fun h => by cases h) (by rfl) (by rfl)
theorem te285 : TEok Try.prog 285 ⟨.ptr 287, 1, 8, .pointer none⟩ := .mk' (by kernel_rfl) (by kernel_rfl) (by kernel_rfl) (fun h => by cases h) (by rfl) (by rfl)
theorem te216 : TEok Try.prog 216 ⟨.ptr 85, 1, 8, .pointer none⟩ := .mk' (by kernel_rfl) (by kernel_rfl) (by kernel_rfl) (fun h => by cases h) (by rfl) (by rfl)
set_option maxRecDepth 100000
def TT : List (Nat × TE) := [(3, ⟨.int .i64, 1, 8, .int .i64 (0)⟩),
  (41, ⟨.slice 3, 1, 24, .slice none 0 0⟩),
  (47, ⟨.struct [(0, 3, true), (1, 44, true), (2, 45, true)], 3, 56, .agg #[(.int .i64 (0)), (.slice none 0 0), (.slice none 0 0)]⟩),
  (44, ⟨.slice 53, 1, 24, .slice none 0 0⟩),
  (45, ⟨.slice 147, 1, 24, .slice none 0 0⟩),
  (82, ⟨.struct [(0, 3, true), (1, 41, true), (2, 73, true), (3, 80, true)], 4, 80, .agg #[(.int .i64 (0)), (.slice none 0 0), (.slice none 0 0), (.slice none 0 0)]⟩),
  (85, ⟨.struct [(0, 82, true), (4, 83, true), (5, 3, true), (6, 3, true)], 7, 120, .agg #[(.int .i64 (0)), (.slice none 0 0), (.slice none 0 0), (.slice none 0 0), (.slice none 0 0), (.int .i64 (0)), (.int .i64 (0))]⟩),
  (24, ⟨.struct [(0, 22, true), (1, 3, true), (2, 3, true)], 3, 40, .agg #[(.slice none 0 0), (.int .i64 (0)), (.int .i64 (0))]⟩),
  (127, ⟨.slice 129, 1, 24, .slice none 0 0⟩),
  (87, ⟨.struct [(0, 3, true), (1, 3, true), (2, 3, true), (3, 3, true)], 4, 32, .agg #[(.int .i64 (0)), (.int .i64 (0)), (.int .i64 (0)), (.int .i64 (0))]⟩),
  (4, ⟨.bool, 1, 1, .bool false⟩),
  (83, ⟨.slice 224, 1, 24, .slice none 0 0⟩),
  (73, ⟨.slice 4, 1, 24, .slice none 0 0⟩),
  (129, ⟨.struct [(0, 3, true), (1, 3, true)], 2, 16, .agg #[(.int .i64 (0)), (.int .i64 (0))]⟩),
  (22, ⟨.slice 186, 1, 24, .slice none 0 0⟩),
  (51, ⟨.slice 55, 1, 24, .slice none 0 0⟩),
  (80, ⟨.slice 120, 1, 24, .slice none 0 0⟩),
  (26, ⟨.int .i64, 1, 8, .int .i64 (0)⟩),
  (53, ⟨.struct [(0, 3, true), (1, 51, true)], 2, 32, .agg #[(.int .i64 (0)), (.slice none 0 0)]⟩),
  (55, ⟨.struct [(0, 3, true), (1, 3, true), (2, 4, true)], 3, 24, .agg #[(.int .i64 (0)), (.int .i64 (0)), (.bool false)]⟩),
  (9, ⟨.str, 1, 16, .string ⟨#[]⟩⟩),
  (224, ⟨.struct [(0, 3, true), (1, 3, true)], 2, 16, .agg #[(.int .i64 (0)), (.int .i64 (0))]⟩),
  (68, ⟨.slice 73, 1, 24, .slice none 0 0⟩),
  (61, ⟨.arr 2 3, 2, 16, .agg #[(.int .i64 (0)), (.int .i64 (0))]⟩),
  (191, ⟨.struct [(0, 3, true), (1, 3, true), (2, 3, true), (3, 4, true)], 4, 32, .agg #[(.int .i64 (0)), (.int .i64 (0)), (.int .i64 (0)), (.bool false)]⟩),
  (186, ⟨.slice 191, 1, 24, .slice none 0 0⟩),
  (120, ⟨.struct [(0, 4, true), (1, 87, true), (5, 3, true)], 6, 48, .agg #[(.bool false), (.int .i64 (0)), (.int .i64 (0)), (.int .i64 (0)), (.int .i64 (0)), (.int .i64 (0))]⟩),
  (260, ⟨.struct [(0, 3, true), (1, 3, true), (2, 3, true), (3, 3, true), (4, 9, true)], 5, 48, .agg #[(.int .i64 (0)), (.int .i64 (0)), (.int .i64 (0)), (.int .i64 (0)), (.string ⟨#[]⟩)]⟩),
  (89, ⟨.struct [(0, 87, true), (4, 3, true)], 5, 40, .agg #[(.int .i64 (0)), (.int .i64 (0)), (.int .i64 (0)), (.int .i64 (0)), (.int .i64 (0))]⟩),
  (147, ⟨.struct [(0, 3, true), (1, 3, true)], 2, 16, .agg #[(.int .i64 (0)), (.int .i64 (0))]⟩),
  (334, ⟨.struct [(0, 3, true), (1, 3, true), (2, 3, true), (3, 9, true)], 4, 40, .agg #[(.int .i64 (0)), (.int .i64 (0)), (.int .i64 (0)), (.string ⟨#[]⟩)]⟩),
  (167, ⟨.slice 260, 1, 24, .slice none 0 0⟩),
  (131, ⟨.int .u64, 1, 8, .int .u64 (0)⟩),
  (57, ⟨.slice 41, 1, 24, .slice none 0 0⟩),
  (201, ⟨.arr 2 3, 2, 16, .agg #[(.int .i64 (0)), (.int .i64 (0))]⟩),
  (42, ⟨.map 3 3, 1, 8, .map none⟩),
  (75, ⟨.struct [(0, 3, true), (1, 3, true)], 2, 16, .agg #[(.int .i64 (0)), (.int .i64 (0))]⟩),
  (304, ⟨.int .u64, 1, 8, .int .u64 (0)⟩),
  (64, ⟨.slice 61, 1, 24, .slice none 0 0⟩),
  (76, ⟨.slice 75, 1, 24, .slice none 0 0⟩),
  (292, ⟨.struct [(0, 201, true), (2, 3, true)], 3, 24, .agg #[(.int .i64 (0)), (.int .i64 (0)), (.int .i64 (0))]⟩),
  (311, ⟨.struct [(0, 87, true)], 4, 32, .agg #[(.int .i64 (0)), (.int .i64 (0)), (.int .i64 (0)), (.int .i64 (0))]⟩),
  (388, ⟨.int .u64, 1, 8, .int .u64 (0)⟩),
  (339, ⟨.slice 3, 1, 24, .slice none 0 0⟩),
  (5, ⟨.int .u8, 1, 1, .int .u8 (0)⟩),
  (295, ⟨.slice 87, 1, 24, .slice none 0 0⟩),
  (249, ⟨.func, 1, 8, .nilFunc⟩),
  (343, ⟨.int .u32, 1, 4, .int .u32 (0)⟩),
  (102, ⟨.slice 122, 1, 24, .slice none 0 0⟩),
  (287, ⟨.slice 292, 1, 24, .slice none 0 0⟩),
  (392, ⟨.ptr 3, 1, 8, .pointer none⟩),
  (122, ⟨.struct [(0, 3, true), (1, 89, true)], 6, 48, .agg #[(.int .i64 (0)), (.int .i64 (0)), (.int .i64 (0)), (.int .i64 (0)), (.int .i64 (0)), (.int .i64 (0))]⟩),
  (202, ⟨.slice 201, 1, 24, .slice none 0 0⟩),
  (318, ⟨.struct [(0, 3, true)], 1, 8, .agg #[(.int .i64 (0))]⟩),
  (362, ⟨.slice 5, 1, 24, .slice none 0 0⟩),
  (116, ⟨.arr 4 3, 4, 32, .agg #[(.int .i64 (0)), (.int .i64 (0)), (.int .i64 (0)), (.int .i64 (0))]⟩),
  (243, ⟨.iface false, 1, 16, .nilIface⟩),
  (275, ⟨.func, 1, 8, .nilFunc⟩),
  (247, ⟨.map 3 4, 1, 8, .map none⟩),
  (276, ⟨.map 191 4, 1, 8, .map none⟩),
  (182, ⟨.arr 3 3, 3, 24, .agg #[(.int .i64 (0)), (.int .i64 (0)), (.int .i64 (0))]⟩),
  (37, ⟨.func, 1, 8, .nilFunc⟩),
  (328, ⟨.slice 127, 1, 24, .slice none 0 0⟩),
  (264, ⟨.map 266 3, 1, 8, .map none⟩),
  (266, ⟨.struct [(0, 3, true), (1, 9, true)], 2, 24, .agg #[(.int .i64 (0)), (.string ⟨#[]⟩)]⟩),
  (289, ⟨.iface false, 1, 16, .nilIface⟩),
  (326, ⟨.arr 16 127, 16, 384, .agg #[(.slice none 0 0), (.slice none 0 0), (.slice none 0 0), (.slice none 0 0), (.slice none 0 0), (.slice none 0 0), (.slice none 0 0), (.slice none 0 0), (.slice none 0 0), (.slice none 0 0), (.slice none 0 0), (.slice none 0 0), (.slice none 0 0), (.slice none 0 0), (.slice none 0 0), (.slice none 0 0)]⟩),
  (115, ⟨.slice 116, 1, 24, .slice none 0 0⟩),
  (181, ⟨.slice 182, 1, 24, .slice none 0 0⟩),
  (217, ⟨.func, 1, 8, .nilFunc⟩),
  (372, ⟨.int .i64, 1, 8, .int .i64 (0)⟩),
  (142, ⟨.func, 1, 8, .nilFunc⟩),
  (262, ⟨.func, 1, 8, .nilFunc⟩),
  (268, ⟨.map 9 41, 1, 8, .map none⟩),
  (271, ⟨.map 266 4, 1, 8, .map none⟩),
  (20, ⟨.iface true, 1, 16, .nilIface⟩),
  (321, ⟨.struct [], 0, 0, .agg #[]⟩),
  (322, ⟨.func, 1, 8, .nilFunc⟩),
  (368, ⟨.arr 6 5, 6, 6, .agg #[(.int .u8 (0)), (.int .u8 (0)), (.int .u8 (0)), (.int .u8 (0)), (.int .u8 (0)), (.int .u8 (0))]⟩),
  (209, ⟨.func, 1, 8, .nilFunc⟩),
  (356, ⟨.iface false, 1, 16, .nilIface⟩),
  (219, ⟨.func, 1, 8, .nilFunc⟩),
  (285, ⟨.ptr 287, 1, 8, .pointer none⟩),
  (216, ⟨.ptr 85, 1, 8, .pointer none⟩)]
theorem TT_ok : TOk Try.prog TT := .cons te3 <| .cons te41 <| .cons te47 <| .cons te44 <| .cons te45 <| .cons te82 <| .cons te85 <| .cons te24 <| .cons te127 <| .cons te87 <| .cons te4 <| .cons te83 <| .cons te73 <| .cons te129 <| .cons te22 <| .cons te51 <| .cons te80 <| .cons te26 <| .cons te53 <| .cons te55 <| .cons te9 <| .cons te224 <| .cons te68 <| .cons te61 <| .cons te191 <| .cons te186 <| .cons te120 <| .cons te260 <| .cons te89 <| .cons te147 <| .cons te334 <| .cons te167 <| .cons te131 <| .cons te57 <| .cons te201 <| .cons te42 <| .cons te75 <| .cons te304 <| .cons te64 <| .cons te76 <| .cons te292 <| .cons te311 <| .cons te388 <| .cons te339 <| .cons te5 <| .cons te295 <| .cons te249 <| .cons te343 <| .cons te102 <| .cons te287 <| .cons te392 <| .cons te122 <| .cons te202 <| .cons te318 <| .cons te362 <| .cons te116 <| .cons te243 <| .cons te275 <| .cons te247 <| .cons te276 <| .cons te182 <| .cons te37 <| .cons te328 <| .cons te264 <| .cons te266 <| .cons te289 <| .cons te326 <| .cons te115 <| .cons te181 <| .cons te217 <| .cons te372 <| .cons te142 <| .cons te262 <| .cons te268 <| .cons te271 <| .cons te20 <| .cons te321 <| .cons te322 <| .cons te368 <| .cons te209 <| .cons te356 <| .cons te219 <| .cons te285 <| .cons te216 <| .nil _
theorem hmix1 : Try.prog.follows .mixedOrders = true := by kernel_rfl
end Go.RX
