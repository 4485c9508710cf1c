/- The table of the program's types, checked. -/
import Derived.Test.YtammhcpnhejapaaProg
import Derived.Test.YtammhcpnhejapaaRXq
open Go Go.RX Go.Proofs
namespace Go.RX
theorem TEok.mk' {P : Program} {t : Nat} {e : TE} (h1 : (P.underlying t).map TI.of = some e.u) (h2 : (P.info? t).map (fun i => (i.zero, i.size, i.bytes)) = some (some e.zero, e.size, e.bytes)) (h3 : P.stoodInHeld t = false) (h4 : e.u.isAgg = true → P.eqGuardType P.depth t = false) (h5 : e.zero.cells.size = e.size) (h6 : e.zero.cells.toList.all Value.oneCell' = true) : TEok P t e := ⟨h1, h2, h3, h4, h5, fun i hi => by
  have := List.all_eq_true.1 h6 (e.zero.cells[i]) (by simp)
  simpa [Array.getD, hi] using this⟩
theorem te1 : TEok Try.prog 1 ⟨.func, 1, 8, .nilFunc⟩ := .mk' (by kernel_rfl) (by kernel_rfl) (by kernel_rfl) (fun h => by cases h) (by rfl) (by rfl)
theorem te2 : TEok Try.prog 2 ⟨.int .i64, 1, 8, .int .i64 (0)⟩ := .mk' (by kernel_rfl) (by kernel_rfl) (by kernel_rfl) (fun h => by cases h) (by rfl) (by rfl)
theorem te3 : TEok Try.prog 3 ⟨.int .i64, 1, 8, .int .i64 (0)⟩ := .mk' (by kernel_rfl) (by kernel_rfl) (by kernel_rfl) (fun h => by cases h) (by rfl) (by rfl)
theorem te4 : TEok Try.prog 4 ⟨.bool, 1, 1, .bool false⟩ := .mk' (by kernel_rfl) (by kernel_rfl) (by kernel_rfl) (fun h => by cases h) (by rfl) (by rfl)
theorem te5 : TEok Try.prog 5 ⟨.int .u8, 1, 1, .int .u8 (0)⟩ := .mk' (by kernel_rfl) (by kernel_rfl) (by kernel_rfl) (fun h => by cases h) (by rfl) (by rfl)
theorem te9 : TEok Try.prog 9 ⟨.str, 1, 16, .string ⟨#[]⟩⟩ := .mk' (by kernel_rfl) (by kernel_rfl) (by kernel_rfl) (fun h => by cases h) (by rfl) (by rfl)
theorem te12 : TEok Try.prog 12 ⟨.int .u64, 1, 8, .int .u64 (0)⟩ := .mk' (by kernel_rfl) (by kernel_rfl) (by kernel_rfl) (fun h => by cases h) (by rfl) (by rfl)
theorem te20 : TEok Try.prog 20 ⟨.iface true, 1, 16, .nilIface⟩ := .mk' (by kernel_rfl) (by kernel_rfl) (by kernel_rfl) (fun h => by cases h) (by rfl) (by rfl)
theorem te21 : TEok Try.prog 21 ⟨.int .i32, 1, 4, .int .i32 (0)⟩ := .mk' (by kernel_rfl) (by kernel_rfl) (by kernel_rfl) (fun h => by cases h) (by rfl) (by rfl)
theorem te22 : TEok Try.prog 22 ⟨.struct [(0, 3, true), (1, 3, true), (2, 3, true), (3, 3, true)], 4, 32, .agg #[(.int .i64 (0)), (.int .i64 (0)), (.int .i64 (0)), (.int .i64 (0))]⟩ := .mk' (by kernel_rfl) (by kernel_rfl) (by kernel_rfl) (fun _ => by kernel_rfl) (by rfl) (by rfl)
theorem te23 : TEok Try.prog 23 ⟨.struct [(0, 3, true), (1, 3, true), (2, 3, true), (3, 3, true)], 4, 32, .agg #[(.int .i64 (0)), (.int .i64 (0)), (.int .i64 (0)), (.int .i64 (0))]⟩ := .mk' (by kernel_rfl) (by kernel_rfl) (by kernel_rfl) (fun _ => by kernel_rfl) (by rfl) (by rfl)
theorem te24 : TEok Try.prog 24 ⟨.int .i64, 1, 8, .int .i64 (0)⟩ := .mk' (by kernel_rfl) (by kernel_rfl) (by kernel_rfl) (fun h => by cases h) (by rfl) (by rfl)
theorem te26 : TEok Try.prog 26 ⟨.func, 1, 8, .nilFunc⟩ := .mk' (by kernel_rfl) (by kernel_rfl) (by kernel_rfl) (fun h => by cases h) (by rfl) (by rfl)
theorem te27 : TEok Try.prog 27 ⟨.func, 1, 8, .nilFunc⟩ := .mk' (by kernel_rfl) (by kernel_rfl) (by kernel_rfl) (fun h => by cases h) (by rfl) (by rfl)
theorem te28 : TEok Try.prog 28 ⟨.func, 1, 8, .nilFunc⟩ := .mk' (by kernel_rfl) (by kernel_rfl) (by kernel_rfl) (fun h => by cases h) (by rfl) (by rfl)
theorem te29 : TEok Try.prog 29 ⟨.int .u64, 1, 8, .int .u64 (0)⟩ := .mk' (by kernel_rfl) (by kernel_rfl) (by kernel_rfl) (fun h => by cases h) (by rfl) (by rfl)
theorem te31 : TEok Try.prog 31 ⟨.func, 1, 8, .nilFunc⟩ := .mk' (by kernel_rfl) (by kernel_rfl) (by kernel_rfl) (fun h => by cases h) (by rfl) (by rfl)
theorem te32 : TEok Try.prog 32 ⟨.func, 1, 8, .nilFunc⟩ := .mk' (by kernel_rfl) (by kernel_rfl) (by kernel_rfl) (fun h => by cases h) (by rfl) (by rfl)
theorem te33 : TEok Try.prog 33 ⟨.struct [(0, 3, true), (1, 3, true)], 2, 16, .agg #[(.int .i64 (0)), (.int .i64 (0))]⟩ := .mk' (by kernel_rfl) (by kernel_rfl) (by kernel_rfl) (fun _ => by kernel_rfl) (by rfl) (by rfl)
theorem te34 : TEok Try.prog 34 ⟨.struct [(0, 3, true), (1, 3, true)], 2, 16, .agg #[(.int .i64 (0)), (.int .i64 (0))]⟩ := .mk' (by kernel_rfl) (by kernel_rfl) (by kernel_rfl) (fun _ => by kernel_rfl) (by rfl) (by rfl)
theorem te36 : TEok Try.prog 36 ⟨.func, 1, 8, .nilFunc⟩ := .mk' (by kernel_rfl) (by kernel_rfl) (by kernel_rfl) (fun h => by cases h) (by rfl) (by rfl)
theorem te38 : TEok Try.prog 38 ⟨.func, 1, 8, .nilFunc⟩ := .mk' (by kernel_rfl) (by kernel_rfl) (by kernel_rfl) (fun h => by cases h) (by rfl) (by rfl)
theorem te40 : TEok Try.prog 40 ⟨.func, 1, 8, .nilFunc⟩ := .mk' (by kernel_rfl) (by kernel_rfl) (by kernel_rfl) (fun h => by cases h) (by rfl) (by rfl)
theorem te41 : TEok Try.prog 41 ⟨.func, 1, 8, .nilFunc⟩ := .mk' (by kernel_rfl) (by kernel_rfl) (by kernel_rfl) (fun h => by cases h) (by rfl) (by rfl)
theorem te42 : TEok Try.prog 42 ⟨.func, 1, 8, .nilFunc⟩ := .mk' (by kernel_rfl) (by kernel_rfl) (by kernel_rfl) (fun h => by cases h) (by rfl) (by rfl)
theorem te43 : TEok Try.prog 43 ⟨.func, 1, 8, .nilFunc⟩ := .mk' (by kernel_rfl) (by kernel_rfl) (by kernel_rfl) (fun h => by cases h) (by rfl) (by rfl)
theorem te44 : TEok Try.prog 44 ⟨.func, 1, 8, .nilFunc⟩ := .mk' (by kernel_rfl) (by kernel_rfl) (by kernel_rfl) (fun h => by cases h) (by rfl) (by rfl)
theorem te45 : TEok Try.prog 45 ⟨.func, 1, 8, .nilFunc⟩ := .mk' (by kernel_rfl) (by kernel_rfl) (by kernel_rfl) (fun h => by cases h) (by rfl) (by rfl)
theorem te46 : TEok Try.prog 46 ⟨.func, 1, 8, .nilFunc⟩ := .mk' (by kernel_rfl) (by kernel_rfl) (by kernel_rfl) (fun h => by cases h) (by rfl) (by rfl)
theorem te47 : TEok Try.prog 47 ⟨.slice 4, 1, 24, .slice none 0 0⟩ := .mk' (by kernel_rfl) (by kernel_rfl) (by kernel_rfl) (fun h => by cases h) (by rfl) (by rfl)
theorem te48 : TEok Try.prog 48 ⟨.func, 1, 8, .nilFunc⟩ := .mk' (by kernel_rfl) (by kernel_rfl) (by kernel_rfl) (fun h => by cases h) (by rfl) (by rfl)
theorem te49 : TEok Try.prog 49 ⟨.slice 3, 1, 24, .slice none 0 0⟩ := .mk' (by kernel_rfl) (by kernel_rfl) (by kernel_rfl) (fun h => by cases h) (by rfl) (by rfl)
theorem te50 : TEok Try.prog 50 ⟨.slice 58, 1, 24, .slice none 0 0⟩ := .mk' (by kernel_rfl) (by kernel_rfl) (by kernel_rfl) (fun h => by cases h) (by rfl) (by rfl)
theorem te51 : TEok Try.prog 51 ⟨.struct [(0, 3, true), (1, 49, true), (2, 47, true), (3, 50, true)], 4, 80, .agg #[(.int .i64 (0)), (.slice none 0 0), (.slice none 0 0), (.slice none 0 0)]⟩ := .mk' (by kernel_rfl) (by kernel_rfl) (by kernel_rfl) (fun _ => by kernel_rfl) (by rfl) (by rfl)
theorem te52 : TEok Try.prog 52 ⟨.struct [(0, 3, true), (1, 49, true), (2, 47, true), (3, 50, true)], 4, 80, .agg #[(.int .i64 (0)), (.slice none 0 0), (.slice none 0 0), (.slice none 0 0)]⟩ := .mk' (by kernel_rfl) (by kernel_rfl) (by kernel_rfl) (fun _ => by kernel_rfl) (by rfl) (by rfl)
theorem te53 : TEok Try.prog 53 ⟨.func, 1, 8, .nilFunc⟩ := .mk' (by kernel_rfl) (by kernel_rfl) (by kernel_rfl) (fun h => by cases h) (by rfl) (by rfl)
theorem te55 : TEok Try.prog 55 ⟨.func, 1, 8, .nilFunc⟩ := .mk' (by kernel_rfl) (by kernel_rfl) (by kernel_rfl) (fun h => by cases h) (by rfl) (by rfl)
theorem te56 : TEok Try.prog 56 ⟨.func, 1, 8, .nilFunc⟩ := .mk' (by kernel_rfl) (by kernel_rfl) (by kernel_rfl) (fun h => by cases h) (by rfl) (by rfl)
theorem te57 : TEok Try.prog 57 ⟨.struct [(0, 4, true), (1, 23, true), (5, 3, true)], 6, 48, .agg #[(.bool false), (.int .i64 (0)), (.int .i64 (0)), (.int .i64 (0)), (.int .i64 (0)), (.int .i64 (0))]⟩ := .mk' (by kernel_rfl) (by kernel_rfl) (by kernel_rfl) (fun _ => by kernel_rfl) (by rfl) (by rfl)
theorem te58 : TEok Try.prog 58 ⟨.struct [(0, 4, true), (1, 23, true), (5, 3, true)], 6, 48, .agg #[(.bool false), (.int .i64 (0)), (.int .i64 (0)), (.int .i64 (0)), (.int .i64 (0)), (.int .i64 (0))]⟩ := .mk' (by kernel_rfl) (by kernel_rfl) (by kernel_rfl) (fun _ => by kernel_rfl) (by rfl) (by rfl)
theorem te59 : TEok Try.prog 59 ⟨.func, 1, 8, .nilFunc⟩ := .mk' (by kernel_rfl) (by kernel_rfl) (by kernel_rfl) (fun h => by cases h) (by rfl) (by rfl)
theorem te61 : TEok Try.prog 61 ⟨.func, 1, 8, .nilFunc⟩ := .mk' (by kernel_rfl) (by kernel_rfl) (by kernel_rfl) (fun h => by cases h) (by rfl) (by rfl)
theorem te62 : TEok Try.prog 62 ⟨.func, 1, 8, .nilFunc⟩ := .mk' (by kernel_rfl) (by kernel_rfl) (by kernel_rfl) (fun h => by cases h) (by rfl) (by rfl)
theorem te63 : TEok Try.prog 63 ⟨.struct [(0, 23, true), (4, 3, true)], 5, 40, .agg #[(.int .i64 (0)), (.int .i64 (0)), (.int .i64 (0)), (.int .i64 (0)), (.int .i64 (0))]⟩ := .mk' (by kernel_rfl) (by kernel_rfl) (by kernel_rfl) (fun _ => by kernel_rfl) (by rfl) (by rfl)
theorem te64 : TEok Try.prog 64 ⟨.struct [(0, 23, true), (4, 3, true)], 5, 40, .agg #[(.int .i64 (0)), (.int .i64 (0)), (.int .i64 (0)), (.int .i64 (0)), (.int .i64 (0))]⟩ := .mk' (by kernel_rfl) (by kernel_rfl) (by kernel_rfl) (fun _ => by kernel_rfl) (by rfl) (by rfl)
theorem te66 : TEok Try.prog 66 ⟨.func, 1, 8, .nilFunc⟩ := .mk' (by kernel_rfl) (by kernel_rfl) (by kernel_rfl) (fun h => by cases h) (by rfl) (by rfl)
theorem te67 : TEok Try.prog 67 ⟨.func, 1, 8, .nilFunc⟩ := .mk' (by kernel_rfl) (by kernel_rfl) (by kernel_rfl) (fun h => by cases h) (by rfl) (by rfl)
theorem te68 : TEok Try.prog 68 ⟨.func, 1, 8, .nilFunc⟩ := .mk' (by kernel_rfl) (by kernel_rfl) (by kernel_rfl) (fun h => by cases h) (by rfl) (by rfl)
theorem te69 : TEok Try.prog 69 ⟨.func, 1, 8, .nilFunc⟩ := .mk' (by kernel_rfl) (by kernel_rfl) (by kernel_rfl) (fun h => by cases h) (by rfl) (by rfl)
theorem te70 : TEok Try.prog 70 ⟨.func, 1, 8, .nilFunc⟩ := .mk' (by kernel_rfl) (by kernel_rfl) (by kernel_rfl) (fun h => by cases h) (by rfl) (by rfl)
theorem te71 : TEok Try.prog 71 ⟨.func, 1, 8, .nilFunc⟩ := .mk' (by kernel_rfl) (by kernel_rfl) (by kernel_rfl) (fun h => by cases h) (by rfl) (by rfl)
theorem te73 : TEok Try.prog 73 ⟨.func, 1, 8, .nilFunc⟩ := .mk' (by kernel_rfl) (by kernel_rfl) (by kernel_rfl) (fun h => by cases h) (by rfl) (by rfl)
theorem te74 : TEok Try.prog 74 ⟨.func, 1, 8, .nilFunc⟩ := .mk' (by kernel_rfl) (by kernel_rfl) (by kernel_rfl) (fun h => by cases h) (by rfl) (by rfl)
theorem te75 : TEok Try.prog 75 ⟨.slice 23, 1, 24, .slice none 0 0⟩ := .mk' (by kernel_rfl) (by kernel_rfl) (by kernel_rfl) (fun h => by cases h) (by rfl) (by rfl)
theorem te76 : TEok Try.prog 76 ⟨.func, 1, 8, .nilFunc⟩ := .mk' (by kernel_rfl) (by kernel_rfl) (by kernel_rfl) (fun h => by cases h) (by rfl) (by rfl)
theorem te77 : TEok Try.prog 77 ⟨.func, 1, 8, .nilFunc⟩ := .mk' (by kernel_rfl) (by kernel_rfl) (by kernel_rfl) (fun h => by cases h) (by rfl) (by rfl)
theorem te79 : TEok Try.prog 79 ⟨.func, 1, 8, .nilFunc⟩ := .mk' (by kernel_rfl) (by kernel_rfl) (by kernel_rfl) (fun h => by cases h) (by rfl) (by rfl)
theorem te80 : TEok Try.prog 80 ⟨.func, 1, 8, .nilFunc⟩ := .mk' (by kernel_rfl) (by kernel_rfl) (by kernel_rfl) (fun h => by cases h) (by rfl) (by rfl)
theorem te81 : TEok Try.prog 81 ⟨.func, 1, 8, .nilFunc⟩ := .mk' (by kernel_rfl) (by kernel_rfl) (by kernel_rfl) (fun h => by cases h) (by rfl) (by rfl)
theorem te82 : TEok Try.prog 82 ⟨.func, 1, 8, .nilFunc⟩ := .mk' (by kernel_rfl) (by kernel_rfl) (by kernel_rfl) (fun h => by cases h) (by rfl) (by rfl)
theorem te83 : TEok Try.prog 83 ⟨.func, 1, 8, .nilFunc⟩ := .mk' (by kernel_rfl) (by kernel_rfl) (by kernel_rfl) (fun h => by cases h) (by rfl) (by rfl)
theorem te84 : TEok Try.prog 84 ⟨.func, 1, 8, .nilFunc⟩ := .mk' (by kernel_rfl) (by kernel_rfl) (by kernel_rfl) (fun h => by cases h) (by rfl) (by rfl)
theorem te85 : TEok Try.prog 85 ⟨.func, 1, 8, .nilFunc⟩ := .mk' (by kernel_rfl) (by kernel_rfl) (by kernel_rfl) (fun h => by cases h) (by rfl) (by rfl)
theorem te86 : TEok Try.prog 86 ⟨.func, 1, 8, .nilFunc⟩ := .mk' (by kernel_rfl) (by kernel_rfl) (by kernel_rfl) (fun h => by cases h) (by rfl) (by rfl)
theorem te87 : TEok Try.prog 87 ⟨.struct [(0, 23, true)], 4, 32, .agg #[(.int .i64 (0)), (.int .i64 (0)), (.int .i64 (0)), (.int .i64 (0))]⟩ := .mk' (by kernel_rfl) (by kernel_rfl) (by kernel_rfl) (fun _ => by kernel_rfl) (by rfl) (by rfl)
theorem te88 : TEok Try.prog 88 ⟨.struct [(0, 23, true)], 4, 32, .agg #[(.int .i64 (0)), (.int .i64 (0)), (.int .i64 (0)), (.int .i64 (0))]⟩ := .mk' (by kernel_rfl) (by kernel_rfl) (by kernel_rfl) (fun _ => by kernel_rfl) (by rfl) (by rfl)
theorem te89 : TEok Try.prog 89 ⟨.func, 1, 8, .nilFunc⟩ := .mk' (by kernel_rfl) (by kernel_rfl) (by kernel_rfl) (fun h => by cases h) (by rfl) (by rfl)
theorem te90 : TEok Try.prog 90 ⟨.iface false, 1, 16, .nilIface⟩ := .mk' (by kernel_rfl) (by kernel_rfl) (by kernel_rfl) (fun h => by cases h) (by rfl) (by rfl)
theorem te91 : TEok Try.prog 91 ⟨.iface false, 1, 16, .nilIface⟩ := .mk' (by kernel_rfl) (by kernel_rfl) (by kernel_rfl) (fun h => by cases h) (by rfl) (by rfl)
theorem te92 : TEok Try.prog 92 ⟨.func, 1, 8, .nilFunc⟩ := .mk' (by kernel_rfl) (by kernel_rfl) (by kernel_rfl) (fun h => by cases h) (by rfl) (by rfl)
theorem te94 : TEok Try.prog 94 ⟨.func, 1, 8, .nilFunc⟩ := .mk' (by kernel_rfl) (by kernel_rfl) (by kernel_rfl) (fun h => by cases h) (by rfl) (by rfl)
theorem te95 : TEok Try.prog 95 ⟨.func, 1, 8, .nilFunc⟩ := .mk' (by kernel_rfl) (by kernel_rfl) (by kernel_rfl) (fun h => by cases h) (by rfl) (by rfl)
theorem te96 : TEok Try.prog 96 ⟨.func, 1, 8, .nilFunc⟩ := .mk' (by kernel_rfl) (by kernel_rfl) (by kernel_rfl) (fun h => by cases h) (by rfl) (by rfl)
theorem te97 : TEok Try.prog 97 ⟨.func, 1, 8, .nilFunc⟩ := .mk' (by kernel_rfl) (by kernel_rfl) (by kernel_rfl) (fun h => by cases h) (by rfl) (by rfl)
theorem te98 : TEok Try.prog 98 ⟨.func, 1, 8, .nilFunc⟩ := .mk' (by kernel_rfl) (by kernel_rfl) (by kernel_rfl) (fun h => by cases h) (by rfl) (by rfl)
theorem te99 : TEok Try.prog 99 ⟨.func, 1, 8, .nilFunc⟩ := .mk' (by kernel_rfl) (by kernel_rfl) (by kernel_rfl) (fun h => by cases h) (by rfl) (by rfl)
theorem te100 : TEok Try.prog 100 ⟨.func, 1, 8, .nilFunc⟩ := .mk' (by kernel_rfl) (by kernel_rfl) (by kernel_rfl) (fun h => by cases h) (by rfl) (by rfl)
theorem te101 : TEok Try.prog 101 ⟨.func, 1, 8, .nilFunc⟩ := .mk' (by kernel_rfl) (by kernel_rfl) (by kernel_rfl) (fun h => by cases h) (by rfl) (by rfl)
theorem te102 : TEok Try.prog 102 ⟨.func, 1, 8, .nilFunc⟩ := .mk' (by kernel_rfl) (by kernel_rfl) (by kernel_rfl) (fun h => by cases h) (by rfl) (by rfl)
theorem te103 : TEok Try.prog 103 ⟨.iface false, 1, 16, .nilIface⟩ := .mk' (by kernel_rfl) (by kernel_rfl) (by kernel_rfl) (fun h => by cases h) (by rfl) (by rfl)
theorem te104 : TEok Try.prog 104 ⟨.iface false, 1, 16, .nilIface⟩ := .mk' (by kernel_rfl) (by kernel_rfl) (by kernel_rfl) (fun h => by cases h) (by rfl) (by rfl)
theorem te105 : TEok Try.prog 105 ⟨.struct [(0, 3, true)], 1, 8, .agg #[(.int .i64 (0))]⟩ := .mk' (by kernel_rfl) (by kernel_rfl) (by kernel_rfl) (fun _ => by kernel_rfl) (by rfl) (by rfl)
theorem te106 : TEok Try.prog 106 ⟨.struct [(0, 3, true)], 1, 8, .agg #[(.int .i64 (0))]⟩ := .mk' (by kernel_rfl) (by kernel_rfl) (by kernel_rfl) (fun _ => by kernel_rfl) (by rfl) (by rfl)
theorem te107 : TEok Try.prog 107 ⟨.func, 1, 8, .nilFunc⟩ := .mk' (by kernel_rfl) (by kernel_rfl) (by kernel_rfl) (fun h => by cases h) (by rfl) (by rfl)
theorem te108 : TEok Try.prog 108 ⟨.struct [], 0, 0, .agg #[]⟩ := .mk' (by kernel_rfl) (by kernel_rfl) (by kernel_rfl) (fun _ => by kernel_rfl) (by rfl) (by rfl)
theorem te109 : TEok Try.prog 109 ⟨.struct [], 0, 0, .agg #[]⟩ := .mk' (by kernel_rfl) (by kernel_rfl) (by kernel_rfl) (fun _ => by kernel_rfl) (by rfl) (by rfl)
theorem te110 : TEok Try.prog 110 ⟨.func, 1, 8, .nilFunc⟩ := .mk' (by kernel_rfl) (by kernel_rfl) (by kernel_rfl) (fun h => by cases h) (by rfl) (by rfl)
theorem te111 : TEok Try.prog 111 ⟨.func, 1, 8, .nilFunc⟩ := .mk' (by kernel_rfl) (by kernel_rfl) (by kernel_rfl) (fun h => by cases h) (by rfl) (by rfl)
theorem te112 : TEok Try.prog 112 ⟨.func, 1, 8, .nilFunc⟩ := .mk' (by kernel_rfl) (by kernel_rfl) (by kernel_rfl) (fun h => by cases h) (by rfl) (by rfl)
theorem te113 : TEok Try.prog 113 ⟨.func, 1, 8, .nilFunc⟩ := .mk' (by kernel_rfl) (by kernel_rfl) (by kernel_rfl) (fun h => by cases h) (by rfl) (by rfl)
theorem te114 : TEok Try.prog 114 ⟨.func, 1, 8, .nilFunc⟩ := .mk' (by kernel_rfl) (by kernel_rfl) (by kernel_rfl) (fun h => by cases h) (by rfl) (by rfl)
theorem te115 : TEok Try.prog 115 ⟨.func, 1, 8, .nilFunc⟩ := .mk' (by kernel_rfl) (by kernel_rfl) (by kernel_rfl) (fun h => by cases h) (by rfl) (by rfl)
theorem te116 : TEok Try.prog 116 ⟨.int .u64, 1, 8, .int .u64 (0)⟩ := .mk' (by kernel_rfl) (by kernel_rfl) (by kernel_rfl) (fun h => by cases h) (by rfl) (by rfl)
theorem te117 : TEok Try.prog 117 ⟨.func, 1, 8, .nilFunc⟩ := .mk' (by kernel_rfl) (by kernel_rfl) (by kernel_rfl) (fun h => by cases h) (by rfl) (by rfl)
theorem te123 : TEok Try.prog 123 ⟨.func, 1, 8, .nilFunc⟩ := .mk' (by kernel_rfl) (by kernel_rfl) (by kernel_rfl) (fun h => by cases h) (by rfl) (by rfl)
theorem te124 : TEok Try.prog 124 ⟨.int .u32, 1, 4, .int .u32 (0)⟩ := .mk' (by kernel_rfl) (by kernel_rfl) (by kernel_rfl) (fun h => by cases h) (by rfl) (by rfl)
theorem te128 : TEok Try.prog 128 ⟨.ptr 5, 1, 8, .pointer none⟩ := .mk' (by kernel_rfl) (by kernel_rfl) (by kernel_rfl) (fun h => by cases h) (by rfl) (by rfl)
def TT : List (Nat × TE) := [(1, ⟨.func, 1, 8, .nilFunc⟩),
  (2, ⟨.int .i64, 1, 8, .int .i64 (0)⟩),
  (3, ⟨.int .i64, 1, 8, .int .i64 (0)⟩),
  (4, ⟨.bool, 1, 1, .bool false⟩),
  (5, ⟨.int .u8, 1, 1, .int .u8 (0)⟩),
  (9, ⟨.str, 1, 16, .string ⟨#[]⟩⟩),
  (12, ⟨.int .u64, 1, 8, .int .u64 (0)⟩),
  (20, ⟨.iface true, 1, 16, .nilIface⟩),
  (21, ⟨.int .i32, 1, 4, .int .i32 (0)⟩),
  (22, ⟨.struct [(0, 3, true), (1, 3, true), (2, 3, true), (3, 3, true)], 4, 32, .agg #[(.int .i64 (0)), (.int .i64 (0)), (.int .i64 (0)), (.int .i64 (0))]⟩),
  (23, ⟨.struct [(0, 3, true), (1, 3, true), (2, 3, true), (3, 3, true)], 4, 32, .agg #[(.int .i64 (0)), (.int .i64 (0)), (.int .i64 (0)), (.int .i64 (0))]⟩),
  (24, ⟨.int .i64, 1, 8, .int .i64 (0)⟩),
  (26, ⟨.func, 1, 8, .nilFunc⟩),
  (27, ⟨.func, 1, 8, .nilFunc⟩),
  (28, ⟨.func, 1, 8, .nilFunc⟩),
  (29, ⟨.int .u64, 1, 8, .int .u64 (0)⟩),
  (31, ⟨.func, 1, 8, .nilFunc⟩),
  (32, ⟨.func, 1, 8, .nilFunc⟩),
  (33, ⟨.struct [(0, 3, true), (1, 3, true)], 2, 16, .agg #[(.int .i64 (0)), (.int .i64 (0))]⟩),
  (34, ⟨.struct [(0, 3, true), (1, 3, true)], 2, 16, .agg #[(.int .i64 (0)), (.int .i64 (0))]⟩),
  (36, ⟨.func, 1, 8, .nilFunc⟩),
  (38, ⟨.func, 1, 8, .nilFunc⟩),
  (40, ⟨.func, 1, 8, .nilFunc⟩),
  (41, ⟨.func, 1, 8, .nilFunc⟩),
  (42, ⟨.func, 1, 8, .nilFunc⟩),
  (43, ⟨.func, 1, 8, .nilFunc⟩),
  (44, ⟨.func, 1, 8, .nilFunc⟩),
  (45, ⟨.func, 1, 8, .nilFunc⟩),
  (46, ⟨.func, 1, 8, .nilFunc⟩),
  (47, ⟨.slice 4, 1, 24, .slice none 0 0⟩),
  (48, ⟨.func, 1, 8, .nilFunc⟩),
  (49, ⟨.slice 3, 1, 24, .slice none 0 0⟩),
  (50, ⟨.slice 58, 1, 24, .slice none 0 0⟩),
  (51, ⟨.struct [(0, 3, true), (1, 49, true), (2, 47, true), (3, 50, true)], 4, 80, .agg #[(.int .i64 (0)), (.slice none 0 0), (.slice none 0 0), (.slice none 0 0)]⟩),
  (52, ⟨.struct [(0, 3, true), (1, 49, true), (2, 47, true), (3, 50, true)], 4, 80, .agg #[(.int .i64 (0)), (.slice none 0 0), (.slice none 0 0), (.slice none 0 0)]⟩),
  (53, ⟨.func, 1, 8, .nilFunc⟩),
  (55, ⟨.func, 1, 8, .nilFunc⟩),
  (56, ⟨.func, 1, 8, .nilFunc⟩),
  (57, ⟨.struct [(0, 4, true), (1, 23, true), (5, 3, true)], 6, 48, .agg #[(.bool false), (.int .i64 (0)), (.int .i64 (0)), (.int .i64 (0)), (.int .i64 (0)), (.int .i64 (0))]⟩),
  (58, ⟨.struct [(0, 4, true), (1, 23, true), (5, 3, true)], 6, 48, .agg #[(.bool false), (.int .i64 (0)), (.int .i64 (0)), (.int .i64 (0)), (.int .i64 (0)), (.int .i64 (0))]⟩),
  (59, ⟨.func, 1, 8, .nilFunc⟩),
  (61, ⟨.func, 1, 8, .nilFunc⟩),
  (62, ⟨.func, 1, 8, .nilFunc⟩),
  (63, ⟨.struct [(0, 23, true), (4, 3, true)], 5, 40, .agg #[(.int .i64 (0)), (.int .i64 (0)), (.int .i64 (0)), (.int .i64 (0)), (.int .i64 (0))]⟩),
  (64, ⟨.struct [(0, 23, true), (4, 3, true)], 5, 40, .agg #[(.int .i64 (0)), (.int .i64 (0)), (.int .i64 (0)), (.int .i64 (0)), (.int .i64 (0))]⟩),
  (66, ⟨.func, 1, 8, .nilFunc⟩),
  (67, ⟨.func, 1, 8, .nilFunc⟩),
  (68, ⟨.func, 1, 8, .nilFunc⟩),
  (69, ⟨.func, 1, 8, .nilFunc⟩),
  (70, ⟨.func, 1, 8, .nilFunc⟩),
  (71, ⟨.func, 1, 8, .nilFunc⟩),
  (73, ⟨.func, 1, 8, .nilFunc⟩),
  (74, ⟨.func, 1, 8, .nilFunc⟩),
  (75, ⟨.slice 23, 1, 24, .slice none 0 0⟩),
  (76, ⟨.func, 1, 8, .nilFunc⟩),
  (77, ⟨.func, 1, 8, .nilFunc⟩),
  (79, ⟨.func, 1, 8, .nilFunc⟩),
  (80, ⟨.func, 1, 8, .nilFunc⟩),
  (81, ⟨.func, 1, 8, .nilFunc⟩),
  (82, ⟨.func, 1, 8, .nilFunc⟩),
  (83, ⟨.func, 1, 8, .nilFunc⟩),
  (84, ⟨.func, 1, 8, .nilFunc⟩),
  (85, ⟨.func, 1, 8, .nilFunc⟩),
  (86, ⟨.func, 1, 8, .nilFunc⟩),
  (87, ⟨.struct [(0, 23, true)], 4, 32, .agg #[(.int .i64 (0)), (.int .i64 (0)), (.int .i64 (0)), (.int .i64 (0))]⟩),
  (88, ⟨.struct [(0, 23, true)], 4, 32, .agg #[(.int .i64 (0)), (.int .i64 (0)), (.int .i64 (0)), (.int .i64 (0))]⟩),
  (89, ⟨.func, 1, 8, .nilFunc⟩),
  (90, ⟨.iface false, 1, 16, .nilIface⟩),
  (91, ⟨.iface false, 1, 16, .nilIface⟩),
  (92, ⟨.func, 1, 8, .nilFunc⟩),
  (94, ⟨.func, 1, 8, .nilFunc⟩),
  (95, ⟨.func, 1, 8, .nilFunc⟩),
  (96, ⟨.func, 1, 8, .nilFunc⟩),
  (97, ⟨.func, 1, 8, .nilFunc⟩),
  (98, ⟨.func, 1, 8, .nilFunc⟩),
  (99, ⟨.func, 1, 8, .nilFunc⟩),
  (100, ⟨.func, 1, 8, .nilFunc⟩),
  (101, ⟨.func, 1, 8, .nilFunc⟩),
  (102, ⟨.func, 1, 8, .nilFunc⟩),
  (103, ⟨.iface false, 1, 16, .nilIface⟩),
  (104, ⟨.iface false, 1, 16, .nilIface⟩),
  (105, ⟨.struct [(0, 3, true)], 1, 8, .agg #[(.int .i64 (0))]⟩),
  (106, ⟨.struct [(0, 3, true)], 1, 8, .agg #[(.int .i64 (0))]⟩),
  (107, ⟨.func, 1, 8, .nilFunc⟩),
  (108, ⟨.struct [], 0, 0, .agg #[]⟩),
  (109, ⟨.struct [], 0, 0, .agg #[]⟩),
  (110, ⟨.func, 1, 8, .nilFunc⟩),
  (111, ⟨.func, 1, 8, .nilFunc⟩),
  (112, ⟨.func, 1, 8, .nilFunc⟩),
  (113, ⟨.func, 1, 8, .nilFunc⟩),
  (114, ⟨.func, 1, 8, .nilFunc⟩),
  (115, ⟨.func, 1, 8, .nilFunc⟩),
  (116, ⟨.int .u64, 1, 8, .int .u64 (0)⟩),
  (117, ⟨.func, 1, 8, .nilFunc⟩),
  (123, ⟨.func, 1, 8, .nilFunc⟩),
  (124, ⟨.int .u32, 1, 4, .int .u32 (0)⟩),
  (128, ⟨.ptr 5, 1, 8, .pointer none⟩)]
theorem TT_ok : TOk Try.prog TT := .cons te1 <| .cons te2 <| .cons te3 <| .cons te4 <| .cons te5 <| .cons te9 <| .cons te12 <| .cons te20 <| .cons te21 <| .cons te22 <| .cons te23 <| .cons te24 <| .cons te26 <| .cons te27 <| .cons te28 <| .cons te29 <| .cons te31 <| .cons te32 <| .cons te33 <| .cons te34 <| .cons te36 <| .cons te38 <| .cons te40 <| .cons te41 <| .cons te42 <| .cons te43 <| .cons te44 <| .cons te45 <| .cons te46 <| .cons te47 <| .cons te48 <| .cons te49 <| .cons te50 <| .cons te51 <| .cons te52 <| .cons te53 <| .cons te55 <| .cons te56 <| .cons te57 <| .cons te58 <| .cons te59 <| .cons te61 <| .cons te62 <| .cons te63 <| .cons te64 <| .cons te66 <| .cons te67 <| .cons te68 <| .cons te69 <| .cons te70 <| .cons te71 <| .cons te73 <| .cons te74 <| .cons te75 <| .cons te76 <| .cons te77 <| .cons te79 <| .cons te80 <| .cons te81 <| .cons te82 <| .cons te83 <| .cons te84 <| .cons te85 <| .cons te86 <| .cons te87 <| .cons te88 <| .cons te89 <| .cons te90 <| .cons te91 <| .cons te92 <| .cons te94 <| .cons te95 <| .cons te96 <| .cons te97 <| .cons te98 <| .cons te99 <| .cons te100 <| .cons te101 <| .cons te102 <| .cons te103 <| .cons te104 <| .cons te105 <| .cons te106 <| .cons te107 <| .cons te108 <| .cons te109 <| .cons te110 <| .cons te111 <| .cons te112 <| .cons te113 <| .cons te114 <| .cons te115 <| .cons te116 <| .cons te117 <| .cons te123 <| .cons te124 <| .cons te128 <| .nil _
end Go.RX
