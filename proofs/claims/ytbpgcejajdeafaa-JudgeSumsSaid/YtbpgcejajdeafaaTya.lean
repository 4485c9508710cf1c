/- The table of the program's types, checked. -/
import Derived.Test.YtbpgcejajdeafaaProg
import Derived.Test.YtbpgcejajdeafaaRXq
open Go Go.RX Go.Proofs
namespace Go.RX
theorem TEok.mk' {P : Program} {t : Nat} {e : TE} (h1 : (P.underlying t).map TI.of = some e.u) (h2 : (P.info? t).map (fun i => (i.zero, i.size, i.bytes)) = some (some e.zero, e.size, e.bytes)) (h3 : P.stoodInHeld t = false) (h4 : e.u.isAgg = true → P.eqGuardType P.depth t = false) (h5 : e.zero.cells.size = e.size) (h6 : e.zero.cells.toList.all Value.oneCell' = true) : TEok P t e := ⟨h1, h2, h3, h4, h5, fun i hi => by
  have := List.all_eq_true.1 h6 (e.zero.cells[i]) (by simp)
  simpa [Array.getD, hi] using this⟩
theorem te1 : TEok Try.prog 1 ⟨.func, 1, 8, .nilFunc⟩ := .mk' (by kernel_rfl) (by kernel_rfl) (by kernel_rfl) (fun h => by cases h) (by rfl) (by rfl)
theorem te2 : TEok Try.prog 2 ⟨.int .i64, 1, 8, .int .i64 (0)⟩ := .mk' (by kernel_rfl) (by kernel_rfl) (by kernel_rfl) (fun h => by cases h) (by rfl) (by rfl)
theorem te3 : TEok Try.prog 3 ⟨.int .i64, 1, 8, .int .i64 (0)⟩ := .mk' (by kernel_rfl) (by kernel_rfl) (by kernel_rfl) (fun h => by cases h) (by rfl) (by rfl)
theorem te4 : TEok Try.prog 4 ⟨.bool, 1, 1, .bool false⟩ := .mk' (by kernel_rfl) (by kernel_rfl) (by kernel_rfl) (fun h => by cases h) (by rfl) (by rfl)
theorem te5 : TEok Try.prog 5 ⟨.int .u8, 1, 1, .int .u8 (0)⟩ := .mk' (by kernel_rfl) (by kernel_rfl) (by kernel_rfl) (fun h => by cases h) (by rfl) (by rfl)
theorem te9 : TEok Try.prog 9 ⟨.str, 1, 16, .string ⟨#[]⟩⟩ := .mk' (by kernel_rfl) (by kernel_rfl) (by kernel_rfl) (fun h => by cases h) (by rfl) (by rfl)
theorem te12 : TEok Try.prog 12 ⟨.int .u64, 1, 8, .int .u64 (0)⟩ := .mk' (by kernel_rfl) (by kernel_rfl) (by kernel_rfl) (fun h => by cases h) (by rfl) (by rfl)
theorem te20 : TEok Try.prog 20 ⟨.iface true, 1, 16, .nilIface⟩ := .mk' (by kernel_rfl) (by kernel_rfl) (by kernel_rfl) (fun h => by cases h) (by rfl) (by rfl)
theorem te21 : TEok Try.prog 21 ⟨.int .i32, 1, 4, .int .i32 (0)⟩ := .mk' (by kernel_rfl) (by kernel_rfl) (by kernel_rfl) (fun h => by cases h) (by rfl) (by rfl)
theorem te22 : TEok Try.prog 22 ⟨.slice 26, 1, 24, .slice none 0 0⟩ := .mk' (by kernel_rfl) (by kernel_rfl) (by kernel_rfl) (fun h => by cases h) (by rfl) (by rfl)
theorem te23 : TEok Try.prog 23 ⟨.func, 1, 8, .nilFunc⟩ := .mk' (by kernel_rfl) (by kernel_rfl) (by kernel_rfl) (fun h => by cases h) (by rfl) (by rfl)
theorem te24 : TEok Try.prog 24 ⟨.func, 1, 8, .nilFunc⟩ := .mk' (by kernel_rfl) (by kernel_rfl) (by kernel_rfl) (fun h => by cases h) (by rfl) (by rfl)
theorem te25 : TEok Try.prog 25 ⟨.struct [(0, 3, true), (1, 3, true), (2, 3, true), (3, 3, true), (4, 9, true)], 5, 48, .agg #[(.int .i64 (0)), (.int .i64 (0)), (.int .i64 (0)), (.int .i64 (0)), (.string ⟨#[]⟩)]⟩ := .mk' (by kernel_rfl) (by kernel_rfl) (by kernel_rfl) (fun _ => by kernel_rfl) (by rfl) (by rfl)
theorem te26 : TEok Try.prog 26 ⟨.struct [(0, 3, true), (1, 3, true), (2, 3, true), (3, 3, true), (4, 9, true)], 5, 48, .agg #[(.int .i64 (0)), (.int .i64 (0)), (.int .i64 (0)), (.int .i64 (0)), (.string ⟨#[]⟩)]⟩ := .mk' (by kernel_rfl) (by kernel_rfl) (by kernel_rfl) (fun _ => by kernel_rfl) (by rfl) (by rfl)
theorem te27 : TEok Try.prog 27 ⟨.slice 3, 1, 24, .slice none 0 0⟩ := .mk' (by kernel_rfl) (by kernel_rfl) (by kernel_rfl) (fun h => by cases h) (by rfl) (by rfl)
theorem te28 : TEok Try.prog 28 ⟨.int .i64, 1, 8, .int .i64 (0)⟩ := .mk' (by kernel_rfl) (by kernel_rfl) (by kernel_rfl) (fun h => by cases h) (by rfl) (by rfl)
theorem te30 : TEok Try.prog 30 ⟨.func, 1, 8, .nilFunc⟩ := .mk' (by kernel_rfl) (by kernel_rfl) (by kernel_rfl) (fun h => by cases h) (by rfl) (by rfl)
theorem te31 : TEok Try.prog 31 ⟨.func, 1, 8, .nilFunc⟩ := .mk' (by kernel_rfl) (by kernel_rfl) (by kernel_rfl) (fun h => by cases h) (by rfl) (by rfl)
theorem te32 : TEok Try.prog 32 ⟨.func, 1, 8, .nilFunc⟩ := .mk' (by kernel_rfl) (by kernel_rfl) (by kernel_rfl) (fun h => by cases h) (by rfl) (by rfl)
theorem te33 : TEok Try.prog 33 ⟨.slice 41, 1, 24, .slice none 0 0⟩ := .mk' (by kernel_rfl) (by kernel_rfl) (by kernel_rfl) (fun h => by cases h) (by rfl) (by rfl)
theorem te34 : TEok Try.prog 34 ⟨.func, 1, 8, .nilFunc⟩ := .mk' (by kernel_rfl) (by kernel_rfl) (by kernel_rfl) (fun h => by cases h) (by rfl) (by rfl)
theorem te35 : TEok Try.prog 35 ⟨.int .u64, 1, 8, .int .u64 (0)⟩ := .mk' (by kernel_rfl) (by kernel_rfl) (by kernel_rfl) (fun h => by cases h) (by rfl) (by rfl)
theorem te37 : TEok Try.prog 37 ⟨.func, 1, 8, .nilFunc⟩ := .mk' (by kernel_rfl) (by kernel_rfl) (by kernel_rfl) (fun h => by cases h) (by rfl) (by rfl)
theorem te38 : TEok Try.prog 38 ⟨.func, 1, 8, .nilFunc⟩ := .mk' (by kernel_rfl) (by kernel_rfl) (by kernel_rfl) (fun h => by cases h) (by rfl) (by rfl)
theorem te39 : TEok Try.prog 39 ⟨.func, 1, 8, .nilFunc⟩ := .mk' (by kernel_rfl) (by kernel_rfl) (by kernel_rfl) (fun h => by cases h) (by rfl) (by rfl)
theorem te40 : TEok Try.prog 40 ⟨.struct [(0, 3, true), (1, 3, true)], 2, 16, .agg #[(.int .i64 (0)), (.int .i64 (0))]⟩ := .mk' (by kernel_rfl) (by kernel_rfl) (by kernel_rfl) (fun _ => by kernel_rfl) (by rfl) (by rfl)
theorem te41 : TEok Try.prog 41 ⟨.struct [(0, 3, true), (1, 3, true)], 2, 16, .agg #[(.int .i64 (0)), (.int .i64 (0))]⟩ := .mk' (by kernel_rfl) (by kernel_rfl) (by kernel_rfl) (fun _ => by kernel_rfl) (by rfl) (by rfl)
theorem te42 : TEok Try.prog 42 ⟨.func, 1, 8, .nilFunc⟩ := .mk' (by kernel_rfl) (by kernel_rfl) (by kernel_rfl) (fun h => by cases h) (by rfl) (by rfl)
theorem te44 : TEok Try.prog 44 ⟨.func, 1, 8, .nilFunc⟩ := .mk' (by kernel_rfl) (by kernel_rfl) (by kernel_rfl) (fun h => by cases h) (by rfl) (by rfl)
theorem te45 : TEok Try.prog 45 ⟨.slice 76, 1, 24, .slice none 0 0⟩ := .mk' (by kernel_rfl) (by kernel_rfl) (by kernel_rfl) (fun h => by cases h) (by rfl) (by rfl)
theorem te46 : TEok Try.prog 46 ⟨.slice 52, 1, 24, .slice none 0 0⟩ := .mk' (by kernel_rfl) (by kernel_rfl) (by kernel_rfl) (fun h => by cases h) (by rfl) (by rfl)
theorem te47 : TEok Try.prog 47 ⟨.struct [(0, 3, true), (1, 45, true), (2, 46, true)], 3, 56, .agg #[(.int .i64 (0)), (.slice none 0 0), (.slice none 0 0)]⟩ := .mk' (by kernel_rfl) (by kernel_rfl) (by kernel_rfl) (fun _ => by kernel_rfl) (by rfl) (by rfl)
theorem te48 : TEok Try.prog 48 ⟨.struct [(0, 3, true), (1, 45, true), (2, 46, true)], 3, 56, .agg #[(.int .i64 (0)), (.slice none 0 0), (.slice none 0 0)]⟩ := .mk' (by kernel_rfl) (by kernel_rfl) (by kernel_rfl) (fun _ => by kernel_rfl) (by rfl) (by rfl)
theorem te49 : TEok Try.prog 49 ⟨.func, 1, 8, .nilFunc⟩ := .mk' (by kernel_rfl) (by kernel_rfl) (by kernel_rfl) (fun h => by cases h) (by rfl) (by rfl)
theorem te50 : TEok Try.prog 50 ⟨.func, 1, 8, .nilFunc⟩ := .mk' (by kernel_rfl) (by kernel_rfl) (by kernel_rfl) (fun h => by cases h) (by rfl) (by rfl)
theorem te51 : TEok Try.prog 51 ⟨.struct [(0, 3, true), (1, 3, true)], 2, 16, .agg #[(.int .i64 (0)), (.int .i64 (0))]⟩ := .mk' (by kernel_rfl) (by kernel_rfl) (by kernel_rfl) (fun _ => by kernel_rfl) (by rfl) (by rfl)
theorem te52 : TEok Try.prog 52 ⟨.struct [(0, 3, true), (1, 3, true)], 2, 16, .agg #[(.int .i64 (0)), (.int .i64 (0))]⟩ := .mk' (by kernel_rfl) (by kernel_rfl) (by kernel_rfl) (fun _ => by kernel_rfl) (by rfl) (by rfl)
theorem te53 : TEok Try.prog 53 ⟨.func, 1, 8, .nilFunc⟩ := .mk' (by kernel_rfl) (by kernel_rfl) (by kernel_rfl) (fun h => by cases h) (by rfl) (by rfl)
theorem te55 : TEok Try.prog 55 ⟨.func, 1, 8, .nilFunc⟩ := .mk' (by kernel_rfl) (by kernel_rfl) (by kernel_rfl) (fun h => by cases h) (by rfl) (by rfl)
theorem te56 : TEok Try.prog 56 ⟨.func, 1, 8, .nilFunc⟩ := .mk' (by kernel_rfl) (by kernel_rfl) (by kernel_rfl) (fun h => by cases h) (by rfl) (by rfl)
theorem te57 : TEok Try.prog 57 ⟨.func, 1, 8, .nilFunc⟩ := .mk' (by kernel_rfl) (by kernel_rfl) (by kernel_rfl) (fun h => by cases h) (by rfl) (by rfl)
theorem te58 : TEok Try.prog 58 ⟨.func, 1, 8, .nilFunc⟩ := .mk' (by kernel_rfl) (by kernel_rfl) (by kernel_rfl) (fun h => by cases h) (by rfl) (by rfl)
theorem te59 : TEok Try.prog 59 ⟨.func, 1, 8, .nilFunc⟩ := .mk' (by kernel_rfl) (by kernel_rfl) (by kernel_rfl) (fun h => by cases h) (by rfl) (by rfl)
theorem te60 : TEok Try.prog 60 ⟨.func, 1, 8, .nilFunc⟩ := .mk' (by kernel_rfl) (by kernel_rfl) (by kernel_rfl) (fun h => by cases h) (by rfl) (by rfl)
theorem te61 : TEok Try.prog 61 ⟨.func, 1, 8, .nilFunc⟩ := .mk' (by kernel_rfl) (by kernel_rfl) (by kernel_rfl) (fun h => by cases h) (by rfl) (by rfl)
theorem te62 : TEok Try.prog 62 ⟨.func, 1, 8, .nilFunc⟩ := .mk' (by kernel_rfl) (by kernel_rfl) (by kernel_rfl) (fun h => by cases h) (by rfl) (by rfl)
theorem te63 : TEok Try.prog 63 ⟨.map 65 4, 1, 8, .map none⟩ := .mk' (by kernel_rfl) (by kernel_rfl) (by kernel_rfl) (fun h => by cases h) (by rfl) (by rfl)
theorem te64 : TEok Try.prog 64 ⟨.struct [(0, 3, true), (1, 9, true)], 2, 24, .agg #[(.int .i64 (0)), (.string ⟨#[]⟩)]⟩ := .mk' (by kernel_rfl) (by kernel_rfl) (by kernel_rfl) (fun _ => by kernel_rfl) (by rfl) (by rfl)
theorem te65 : TEok Try.prog 65 ⟨.struct [(0, 3, true), (1, 9, true)], 2, 24, .agg #[(.int .i64 (0)), (.string ⟨#[]⟩)]⟩ := .mk' (by kernel_rfl) (by kernel_rfl) (by kernel_rfl) (fun _ => by kernel_rfl) (by rfl) (by rfl)
theorem te66 : TEok Try.prog 66 ⟨.func, 1, 8, .nilFunc⟩ := .mk' (by kernel_rfl) (by kernel_rfl) (by kernel_rfl) (fun h => by cases h) (by rfl) (by rfl)
theorem te67 : TEok Try.prog 67 ⟨.func, 1, 8, .nilFunc⟩ := .mk' (by kernel_rfl) (by kernel_rfl) (by kernel_rfl) (fun h => by cases h) (by rfl) (by rfl)
theorem te68 : TEok Try.prog 68 ⟨.func, 1, 8, .nilFunc⟩ := .mk' (by kernel_rfl) (by kernel_rfl) (by kernel_rfl) (fun h => by cases h) (by rfl) (by rfl)
theorem te69 : TEok Try.prog 69 ⟨.func, 1, 8, .nilFunc⟩ := .mk' (by kernel_rfl) (by kernel_rfl) (by kernel_rfl) (fun h => by cases h) (by rfl) (by rfl)
theorem te70 : TEok Try.prog 70 ⟨.map 65 3, 1, 8, .map none⟩ := .mk' (by kernel_rfl) (by kernel_rfl) (by kernel_rfl) (fun h => by cases h) (by rfl) (by rfl)
theorem te71 : TEok Try.prog 71 ⟨.func, 1, 8, .nilFunc⟩ := .mk' (by kernel_rfl) (by kernel_rfl) (by kernel_rfl) (fun h => by cases h) (by rfl) (by rfl)
theorem te72 : TEok Try.prog 72 ⟨.map 3 3, 1, 8, .map none⟩ := .mk' (by kernel_rfl) (by kernel_rfl) (by kernel_rfl) (fun h => by cases h) (by rfl) (by rfl)
theorem te73 : TEok Try.prog 73 ⟨.func, 1, 8, .nilFunc⟩ := .mk' (by kernel_rfl) (by kernel_rfl) (by kernel_rfl) (fun h => by cases h) (by rfl) (by rfl)
theorem te74 : TEok Try.prog 74 ⟨.slice 97, 1, 24, .slice none 0 0⟩ := .mk' (by kernel_rfl) (by kernel_rfl) (by kernel_rfl) (fun h => by cases h) (by rfl) (by rfl)
theorem te75 : TEok Try.prog 75 ⟨.struct [(0, 3, true), (1, 74, true)], 2, 32, .agg #[(.int .i64 (0)), (.slice none 0 0)]⟩ := .mk' (by kernel_rfl) (by kernel_rfl) (by kernel_rfl) (fun _ => by kernel_rfl) (by rfl) (by rfl)
theorem te76 : TEok Try.prog 76 ⟨.struct [(0, 3, true), (1, 74, true)], 2, 32, .agg #[(.int .i64 (0)), (.slice none 0 0)]⟩ := .mk' (by kernel_rfl) (by kernel_rfl) (by kernel_rfl) (fun _ => by kernel_rfl) (by rfl) (by rfl)
theorem te77 : TEok Try.prog 77 ⟨.func, 1, 8, .nilFunc⟩ := .mk' (by kernel_rfl) (by kernel_rfl) (by kernel_rfl) (fun h => by cases h) (by rfl) (by rfl)
theorem te78 : TEok Try.prog 78 ⟨.func, 1, 8, .nilFunc⟩ := .mk' (by kernel_rfl) (by kernel_rfl) (by kernel_rfl) (fun h => by cases h) (by rfl) (by rfl)
theorem te79 : TEok Try.prog 79 ⟨.func, 1, 8, .nilFunc⟩ := .mk' (by kernel_rfl) (by kernel_rfl) (by kernel_rfl) (fun h => by cases h) (by rfl) (by rfl)
theorem te80 : TEok Try.prog 80 ⟨.func, 1, 8, .nilFunc⟩ := .mk' (by kernel_rfl) (by kernel_rfl) (by kernel_rfl) (fun h => by cases h) (by rfl) (by rfl)
theorem te81 : TEok Try.prog 81 ⟨.func, 1, 8, .nilFunc⟩ := .mk' (by kernel_rfl) (by kernel_rfl) (by kernel_rfl) (fun h => by cases h) (by rfl) (by rfl)
theorem te82 : TEok Try.prog 82 ⟨.func, 1, 8, .nilFunc⟩ := .mk' (by kernel_rfl) (by kernel_rfl) (by kernel_rfl) (fun h => by cases h) (by rfl) (by rfl)
theorem te83 : TEok Try.prog 83 ⟨.func, 1, 8, .nilFunc⟩ := .mk' (by kernel_rfl) (by kernel_rfl) (by kernel_rfl) (fun h => by cases h) (by rfl) (by rfl)
theorem te84 : TEok Try.prog 84 ⟨.func, 1, 8, .nilFunc⟩ := .mk' (by kernel_rfl) (by kernel_rfl) (by kernel_rfl) (fun h => by cases h) (by rfl) (by rfl)
theorem te85 : TEok Try.prog 85 ⟨.func, 1, 8, .nilFunc⟩ := .mk' (by kernel_rfl) (by kernel_rfl) (by kernel_rfl) (fun h => by cases h) (by rfl) (by rfl)
theorem te86 : TEok Try.prog 86 ⟨.struct [(0, 3, true), (1, 3, true), (2, 3, true), (3, 9, true)], 4, 40, .agg #[(.int .i64 (0)), (.int .i64 (0)), (.int .i64 (0)), (.string ⟨#[]⟩)]⟩ := .mk' (by kernel_rfl) (by kernel_rfl) (by kernel_rfl) (fun _ => by kernel_rfl) (by rfl) (by rfl)
theorem te87 : TEok Try.prog 87 ⟨.struct [(0, 3, true), (1, 3, true), (2, 3, true), (3, 9, true)], 4, 40, .agg #[(.int .i64 (0)), (.int .i64 (0)), (.int .i64 (0)), (.string ⟨#[]⟩)]⟩ := .mk' (by kernel_rfl) (by kernel_rfl) (by kernel_rfl) (fun _ => by kernel_rfl) (by rfl) (by rfl)
theorem te89 : TEok Try.prog 89 ⟨.func, 1, 8, .nilFunc⟩ := .mk' (by kernel_rfl) (by kernel_rfl) (by kernel_rfl) (fun h => by cases h) (by rfl) (by rfl)
theorem te90 : TEok Try.prog 90 ⟨.func, 1, 8, .nilFunc⟩ := .mk' (by kernel_rfl) (by kernel_rfl) (by kernel_rfl) (fun h => by cases h) (by rfl) (by rfl)
theorem te91 : TEok Try.prog 91 ⟨.func, 1, 8, .nilFunc⟩ := .mk' (by kernel_rfl) (by kernel_rfl) (by kernel_rfl) (fun h => by cases h) (by rfl) (by rfl)
theorem te92 : TEok Try.prog 92 ⟨.arr 16 33, 16, 384, .agg #[(.slice none 0 0), (.slice none 0 0), (.slice none 0 0), (.slice none 0 0), (.slice none 0 0), (.slice none 0 0), (.slice none 0 0), (.slice none 0 0), (.slice none 0 0), (.slice none 0 0), (.slice none 0 0), (.slice none 0 0), (.slice none 0 0), (.slice none 0 0), (.slice none 0 0), (.slice none 0 0)]⟩ := .mk' (by kernel_rfl) (by kernel_rfl) (by kernel_rfl) (fun _ => by kernel_rfl) (by rfl) (by rfl)
theorem te93 : TEok Try.prog 93 ⟨.func, 1, 8, .nilFunc⟩ := .mk' (by kernel_rfl) (by kernel_rfl) (by kernel_rfl) (fun h => by cases h) (by rfl) (by rfl)
theorem te94 : TEok Try.prog 94 ⟨.slice 33, 1, 24, .slice none 0 0⟩ := .mk' (by kernel_rfl) (by kernel_rfl) (by kernel_rfl) (fun h => by cases h) (by rfl) (by rfl)
theorem te95 : TEok Try.prog 95 ⟨.func, 1, 8, .nilFunc⟩ := .mk' (by kernel_rfl) (by kernel_rfl) (by kernel_rfl) (fun h => by cases h) (by rfl) (by rfl)
theorem te96 : TEok Try.prog 96 ⟨.struct [(0, 3, true), (1, 3, true), (2, 4, true)], 3, 24, .agg #[(.int .i64 (0)), (.int .i64 (0)), (.bool false)]⟩ := .mk' (by kernel_rfl) (by kernel_rfl) (by kernel_rfl) (fun _ => by kernel_rfl) (by rfl) (by rfl)
theorem te97 : TEok Try.prog 97 ⟨.struct [(0, 3, true), (1, 3, true), (2, 4, true)], 3, 24, .agg #[(.int .i64 (0)), (.int .i64 (0)), (.bool false)]⟩ := .mk' (by kernel_rfl) (by kernel_rfl) (by kernel_rfl) (fun _ => by kernel_rfl) (by rfl) (by rfl)
theorem te98 : TEok Try.prog 98 ⟨.func, 1, 8, .nilFunc⟩ := .mk' (by kernel_rfl) (by kernel_rfl) (by kernel_rfl) (fun h => by cases h) (by rfl) (by rfl)
theorem te99 : TEok Try.prog 99 ⟨.func, 1, 8, .nilFunc⟩ := .mk' (by kernel_rfl) (by kernel_rfl) (by kernel_rfl) (fun h => by cases h) (by rfl) (by rfl)
theorem te100 : TEok Try.prog 100 ⟨.int .u64, 1, 8, .int .u64 (0)⟩ := .mk' (by kernel_rfl) (by kernel_rfl) (by kernel_rfl) (fun h => by cases h) (by rfl) (by rfl)
theorem te101 : TEok Try.prog 101 ⟨.slice 5, 1, 24, .slice none 0 0⟩ := .mk' (by kernel_rfl) (by kernel_rfl) (by kernel_rfl) (fun h => by cases h) (by rfl) (by rfl)
theorem te102 : TEok Try.prog 102 ⟨.func, 1, 8, .nilFunc⟩ := .mk' (by kernel_rfl) (by kernel_rfl) (by kernel_rfl) (fun h => by cases h) (by rfl) (by rfl)
theorem te103 : TEok Try.prog 103 ⟨.func, 1, 8, .nilFunc⟩ := .mk' (by kernel_rfl) (by kernel_rfl) (by kernel_rfl) (fun h => by cases h) (by rfl) (by rfl)
theorem te104 : TEok Try.prog 104 ⟨.func, 1, 8, .nilFunc⟩ := .mk' (by kernel_rfl) (by kernel_rfl) (by kernel_rfl) (fun h => by cases h) (by rfl) (by rfl)
theorem te105 : TEok Try.prog 105 ⟨.func, 1, 8, .nilFunc⟩ := .mk' (by kernel_rfl) (by kernel_rfl) (by kernel_rfl) (fun h => by cases h) (by rfl) (by rfl)
theorem te106 : TEok Try.prog 106 ⟨.func, 1, 8, .nilFunc⟩ := .mk' (by kernel_rfl) (by kernel_rfl) (by kernel_rfl) (fun h => by cases h) (by rfl) (by rfl)
theorem te107 : TEok Try.prog 107 ⟨.func, 1, 8, .nilFunc⟩ := .mk' (by kernel_rfl) (by kernel_rfl) (by kernel_rfl) (fun h => by cases h) (by rfl) (by rfl)
theorem te108 : TEok Try.prog 108 ⟨.int .i64, 1, 8, .int .i64 (0)⟩ := .mk' (by kernel_rfl) (by kernel_rfl) (by kernel_rfl) (fun h => by cases h) (by rfl) (by rfl)
theorem te110 : TEok Try.prog 110 ⟨.func, 1, 8, .nilFunc⟩ := .mk' (by kernel_rfl) (by kernel_rfl) (by kernel_rfl) (fun h => by cases h) (by rfl) (by rfl)
theorem te111 : TEok Try.prog 111 ⟨.func, 1, 8, .nilFunc⟩ := .mk' (by kernel_rfl) (by kernel_rfl) (by kernel_rfl) (fun h => by cases h) (by rfl) (by rfl)
theorem te112 : TEok Try.prog 112 ⟨.func, 1, 8, .nilFunc⟩ := .mk' (by kernel_rfl) (by kernel_rfl) (by kernel_rfl) (fun h => by cases h) (by rfl) (by rfl)
theorem te114 : TEok Try.prog 114 ⟨.func, 1, 8, .nilFunc⟩ := .mk' (by kernel_rfl) (by kernel_rfl) (by kernel_rfl) (fun h => by cases h) (by rfl) (by rfl)
theorem te115 : TEok Try.prog 115 ⟨.func, 1, 8, .nilFunc⟩ := .mk' (by kernel_rfl) (by kernel_rfl) (by kernel_rfl) (fun h => by cases h) (by rfl) (by rfl)
theorem te116 : TEok Try.prog 116 ⟨.int .u32, 1, 4, .int .u32 (0)⟩ := .mk' (by kernel_rfl) (by kernel_rfl) (by kernel_rfl) (fun h => by cases h) (by rfl) (by rfl)
theorem te117 : TEok Try.prog 117 ⟨.func, 1, 8, .nilFunc⟩ := .mk' (by kernel_rfl) (by kernel_rfl) (by kernel_rfl) (fun h => by cases h) (by rfl) (by rfl)
theorem te118 : TEok Try.prog 118 ⟨.int .u64, 1, 8, .int .u64 (0)⟩ := .mk' (by kernel_rfl) (by kernel_rfl) (by kernel_rfl) (fun h => by cases h) (by rfl) (by rfl)
theorem te119 : TEok Try.prog 119 ⟨.func, 1, 8, .nilFunc⟩ := .mk' (by kernel_rfl) (by kernel_rfl) (by kernel_rfl) (fun h => by cases h) (by rfl) (by rfl)
theorem te120 : TEok Try.prog 120 ⟨.func, 1, 8, .nilFunc⟩ := .mk' (by kernel_rfl) (by kernel_rfl) (by kernel_rfl) (fun h => by cases h) (by rfl) (by rfl)
theorem te121 : TEok Try.prog 121 ⟨.func, 1, 8, .nilFunc⟩ := .mk' (by kernel_rfl) (by kernel_rfl) (by kernel_rfl) (fun h => by cases h) (by rfl) (by rfl)
theorem te122 : TEok Try.prog 122 ⟨.ptr 3, 1, 8, .pointer none⟩ := .mk' (by kernel_rfl) (by kernel_rfl) (by kernel_rfl) (fun h => by cases h) (by rfl) (by rfl)
theorem te123 : TEok Try.prog 123 ⟨.func, 1, 8, .nilFunc⟩ := .mk' (by kernel_rfl) (by kernel_rfl) (by kernel_rfl) (fun h => by cases h) (by rfl) (by rfl)
theorem te124 : TEok Try.prog 124 ⟨.ptr 118, 1, 8, .pointer none⟩ := .mk' (by kernel_rfl) (by kernel_rfl) (by kernel_rfl) (fun h => by cases h) (by rfl) (by rfl)
theorem te126 : TEok Try.prog 126 ⟨.func, 1, 8, .nilFunc⟩ := .mk' (by kernel_rfl) (by kernel_rfl) (by kernel_rfl) (fun h => by cases h) (by rfl) (by rfl)
theorem te127 : TEok Try.prog 127 ⟨.func, 1, 8, .nilFunc⟩ := .mk' (by kernel_rfl) (by kernel_rfl) (by kernel_rfl) (fun h => by cases h) (by rfl) (by rfl)
theorem te133 : TEok Try.prog 133 ⟨.func, 1, 8, .nilFunc⟩ := .mk' (by kernel_rfl) (by kernel_rfl) (by kernel_rfl) (fun h => by cases h) (by rfl) (by rfl)
theorem te137 : TEok Try.prog 137 ⟨.ptr 5, 1, 8, .pointer none⟩ := .mk' (by kernel_rfl) (by kernel_rfl) (by kernel_rfl) (fun h => by cases h) (by rfl) (by rfl)
def TT : List (Nat × TE) := [(1, ⟨.func, 1, 8, .nilFunc⟩),
  (2, ⟨.int .i64, 1, 8, .int .i64 (0)⟩),
  (3, ⟨.int .i64, 1, 8, .int .i64 (0)⟩),
  (4, ⟨.bool, 1, 1, .bool false⟩),
  (5, ⟨.int .u8, 1, 1, .int .u8 (0)⟩),
  (9, ⟨.str, 1, 16, .string ⟨#[]⟩⟩),
  (12, ⟨.int .u64, 1, 8, .int .u64 (0)⟩),
  (20, ⟨.iface true, 1, 16, .nilIface⟩),
  (21, ⟨.int .i32, 1, 4, .int .i32 (0)⟩),
  (22, ⟨.slice 26, 1, 24, .slice none 0 0⟩),
  (23, ⟨.func, 1, 8, .nilFunc⟩),
  (24, ⟨.func, 1, 8, .nilFunc⟩),
  (25, ⟨.struct [(0, 3, true), (1, 3, true), (2, 3, true), (3, 3, true), (4, 9, true)], 5, 48, .agg #[(.int .i64 (0)), (.int .i64 (0)), (.int .i64 (0)), (.int .i64 (0)), (.string ⟨#[]⟩)]⟩),
  (26, ⟨.struct [(0, 3, true), (1, 3, true), (2, 3, true), (3, 3, true), (4, 9, true)], 5, 48, .agg #[(.int .i64 (0)), (.int .i64 (0)), (.int .i64 (0)), (.int .i64 (0)), (.string ⟨#[]⟩)]⟩),
  (27, ⟨.slice 3, 1, 24, .slice none 0 0⟩),
  (28, ⟨.int .i64, 1, 8, .int .i64 (0)⟩),
  (30, ⟨.func, 1, 8, .nilFunc⟩),
  (31, ⟨.func, 1, 8, .nilFunc⟩),
  (32, ⟨.func, 1, 8, .nilFunc⟩),
  (33, ⟨.slice 41, 1, 24, .slice none 0 0⟩),
  (34, ⟨.func, 1, 8, .nilFunc⟩),
  (35, ⟨.int .u64, 1, 8, .int .u64 (0)⟩),
  (37, ⟨.func, 1, 8, .nilFunc⟩),
  (38, ⟨.func, 1, 8, .nilFunc⟩),
  (39, ⟨.func, 1, 8, .nilFunc⟩),
  (40, ⟨.struct [(0, 3, true), (1, 3, true)], 2, 16, .agg #[(.int .i64 (0)), (.int .i64 (0))]⟩),
  (41, ⟨.struct [(0, 3, true), (1, 3, true)], 2, 16, .agg #[(.int .i64 (0)), (.int .i64 (0))]⟩),
  (42, ⟨.func, 1, 8, .nilFunc⟩),
  (44, ⟨.func, 1, 8, .nilFunc⟩),
  (45, ⟨.slice 76, 1, 24, .slice none 0 0⟩),
  (46, ⟨.slice 52, 1, 24, .slice none 0 0⟩),
  (47, ⟨.struct [(0, 3, true), (1, 45, true), (2, 46, true)], 3, 56, .agg #[(.int .i64 (0)), (.slice none 0 0), (.slice none 0 0)]⟩),
  (48, ⟨.struct [(0, 3, true), (1, 45, true), (2, 46, true)], 3, 56, .agg #[(.int .i64 (0)), (.slice none 0 0), (.slice none 0 0)]⟩),
  (49, ⟨.func, 1, 8, .nilFunc⟩),
  (50, ⟨.func, 1, 8, .nilFunc⟩),
  (51, ⟨.struct [(0, 3, true), (1, 3, true)], 2, 16, .agg #[(.int .i64 (0)), (.int .i64 (0))]⟩),
  (52, ⟨.struct [(0, 3, true), (1, 3, true)], 2, 16, .agg #[(.int .i64 (0)), (.int .i64 (0))]⟩),
  (53, ⟨.func, 1, 8, .nilFunc⟩),
  (55, ⟨.func, 1, 8, .nilFunc⟩),
  (56, ⟨.func, 1, 8, .nilFunc⟩),
  (57, ⟨.func, 1, 8, .nilFunc⟩),
  (58, ⟨.func, 1, 8, .nilFunc⟩),
  (59, ⟨.func, 1, 8, .nilFunc⟩),
  (60, ⟨.func, 1, 8, .nilFunc⟩),
  (61, ⟨.func, 1, 8, .nilFunc⟩),
  (62, ⟨.func, 1, 8, .nilFunc⟩),
  (63, ⟨.map 65 4, 1, 8, .map none⟩),
  (64, ⟨.struct [(0, 3, true), (1, 9, true)], 2, 24, .agg #[(.int .i64 (0)), (.string ⟨#[]⟩)]⟩),
  (65, ⟨.struct [(0, 3, true), (1, 9, true)], 2, 24, .agg #[(.int .i64 (0)), (.string ⟨#[]⟩)]⟩),
  (66, ⟨.func, 1, 8, .nilFunc⟩),
  (67, ⟨.func, 1, 8, .nilFunc⟩),
  (68, ⟨.func, 1, 8, .nilFunc⟩),
  (69, ⟨.func, 1, 8, .nilFunc⟩),
  (70, ⟨.map 65 3, 1, 8, .map none⟩),
  (71, ⟨.func, 1, 8, .nilFunc⟩),
  (72, ⟨.map 3 3, 1, 8, .map none⟩),
  (73, ⟨.func, 1, 8, .nilFunc⟩),
  (74, ⟨.slice 97, 1, 24, .slice none 0 0⟩),
  (75, ⟨.struct [(0, 3, true), (1, 74, true)], 2, 32, .agg #[(.int .i64 (0)), (.slice none 0 0)]⟩),
  (76, ⟨.struct [(0, 3, true), (1, 74, true)], 2, 32, .agg #[(.int .i64 (0)), (.slice none 0 0)]⟩),
  (77, ⟨.func, 1, 8, .nilFunc⟩),
  (78, ⟨.func, 1, 8, .nilFunc⟩),
  (79, ⟨.func, 1, 8, .nilFunc⟩),
  (80, ⟨.func, 1, 8, .nilFunc⟩),
  (81, ⟨.func, 1, 8, .nilFunc⟩),
  (82, ⟨.func, 1, 8, .nilFunc⟩),
  (83, ⟨.func, 1, 8, .nilFunc⟩),
  (84, ⟨.func, 1, 8, .nilFunc⟩),
  (85, ⟨.func, 1, 8, .nilFunc⟩),
  (86, ⟨.struct [(0, 3, true), (1, 3, true), (2, 3, true), (3, 9, true)], 4, 40, .agg #[(.int .i64 (0)), (.int .i64 (0)), (.int .i64 (0)), (.string ⟨#[]⟩)]⟩),
  (87, ⟨.struct [(0, 3, true), (1, 3, true), (2, 3, true), (3, 9, true)], 4, 40, .agg #[(.int .i64 (0)), (.int .i64 (0)), (.int .i64 (0)), (.string ⟨#[]⟩)]⟩),
  (89, ⟨.func, 1, 8, .nilFunc⟩),
  (90, ⟨.func, 1, 8, .nilFunc⟩),
  (91, ⟨.func, 1, 8, .nilFunc⟩),
  (92, ⟨.arr 16 33, 16, 384, .agg #[(.slice none 0 0), (.slice none 0 0), (.slice none 0 0), (.slice none 0 0), (.slice none 0 0), (.slice none 0 0), (.slice none 0 0), (.slice none 0 0), (.slice none 0 0), (.slice none 0 0), (.slice none 0 0), (.slice none 0 0), (.slice none 0 0), (.slice none 0 0), (.slice none 0 0), (.slice none 0 0)]⟩),
  (93, ⟨.func, 1, 8, .nilFunc⟩),
  (94, ⟨.slice 33, 1, 24, .slice none 0 0⟩),
  (95, ⟨.func, 1, 8, .nilFunc⟩),
  (96, ⟨.struct [(0, 3, true), (1, 3, true), (2, 4, true)], 3, 24, .agg #[(.int .i64 (0)), (.int .i64 (0)), (.bool false)]⟩),
  (97, ⟨.struct [(0, 3, true), (1, 3, true), (2, 4, true)], 3, 24, .agg #[(.int .i64 (0)), (.int .i64 (0)), (.bool false)]⟩),
  (98, ⟨.func, 1, 8, .nilFunc⟩),
  (99, ⟨.func, 1, 8, .nilFunc⟩),
  (100, ⟨.int .u64, 1, 8, .int .u64 (0)⟩),
  (101, ⟨.slice 5, 1, 24, .slice none 0 0⟩),
  (102, ⟨.func, 1, 8, .nilFunc⟩),
  (103, ⟨.func, 1, 8, .nilFunc⟩),
  (104, ⟨.func, 1, 8, .nilFunc⟩),
  (105, ⟨.func, 1, 8, .nilFunc⟩),
  (106, ⟨.func, 1, 8, .nilFunc⟩),
  (107, ⟨.func, 1, 8, .nilFunc⟩),
  (108, ⟨.int .i64, 1, 8, .int .i64 (0)⟩),
  (110, ⟨.func, 1, 8, .nilFunc⟩),
  (111, ⟨.func, 1, 8, .nilFunc⟩),
  (112, ⟨.func, 1, 8, .nilFunc⟩),
  (114, ⟨.func, 1, 8, .nilFunc⟩),
  (115, ⟨.func, 1, 8, .nilFunc⟩),
  (116, ⟨.int .u32, 1, 4, .int .u32 (0)⟩),
  (117, ⟨.func, 1, 8, .nilFunc⟩),
  (118, ⟨.int .u64, 1, 8, .int .u64 (0)⟩),
  (119, ⟨.func, 1, 8, .nilFunc⟩),
  (120, ⟨.func, 1, 8, .nilFunc⟩),
  (121, ⟨.func, 1, 8, .nilFunc⟩),
  (122, ⟨.ptr 3, 1, 8, .pointer none⟩),
  (123, ⟨.func, 1, 8, .nilFunc⟩),
  (124, ⟨.ptr 118, 1, 8, .pointer none⟩),
  (126, ⟨.func, 1, 8, .nilFunc⟩),
  (127, ⟨.func, 1, 8, .nilFunc⟩),
  (133, ⟨.func, 1, 8, .nilFunc⟩),
  (137, ⟨.ptr 5, 1, 8, .pointer none⟩)]
theorem TT_ok : TOk Try.prog TT := .cons te1 <| .cons te2 <| .cons te3 <| .cons te4 <| .cons te5 <| .cons te9 <| .cons te12 <| .cons te20 <| .cons te21 <| .cons te22 <| .cons te23 <| .cons te24 <| .cons te25 <| .cons te26 <| .cons te27 <| .cons te28 <| .cons te30 <| .cons te31 <| .cons te32 <| .cons te33 <| .cons te34 <| .cons te35 <| .cons te37 <| .cons te38 <| .cons te39 <| .cons te40 <| .cons te41 <| .cons te42 <| .cons te44 <| .cons te45 <| .cons te46 <| .cons te47 <| .cons te48 <| .cons te49 <| .cons te50 <| .cons te51 <| .cons te52 <| .cons te53 <| .cons te55 <| .cons te56 <| .cons te57 <| .cons te58 <| .cons te59 <| .cons te60 <| .cons te61 <| .cons te62 <| .cons te63 <| .cons te64 <| .cons te65 <| .cons te66 <| .cons te67 <| .cons te68 <| .cons te69 <| .cons te70 <| .cons te71 <| .cons te72 <| .cons te73 <| .cons te74 <| .cons te75 <| .cons te76 <| .cons te77 <| .cons te78 <| .cons te79 <| .cons te80 <| .cons te81 <| .cons te82 <| .cons te83 <| .cons te84 <| .cons te85 <| .cons te86 <| .cons te87 <| .cons te89 <| .cons te90 <| .cons te91 <| .cons te92 <| .cons te93 <| .cons te94 <| .cons te95 <| .cons te96 <| .cons te97 <| .cons te98 <| .cons te99 <| .cons te100 <| .cons te101 <| .cons te102 <| .cons te103 <| .cons te104 <| .cons te105 <| .cons te106 <| .cons te107 <| .cons te108 <| .cons te110 <| .cons te111 <| .cons te112 <| .cons te114 <| .cons te115 <| .cons te116 <| .cons te117 <| .cons te118 <| .cons te119 <| .cons te120 <| .cons te121 <| .cons te122 <| .cons te123 <| .cons te124 <| .cons te126 <| .cons te127 <| .cons te133 <| .cons te137 <| .nil _
end Go.RX
