/- footway law VecTells: it answers true, whatever its arguments. -/
import Derived.Test.YtogomcndhipoeaaCvf
import Derived.Test.YtogomcndhipoeaaRXr
import Derived.Test.YtogomcndhipoeaaRows
import Derived.WalkKit
import Derived.ProofKit
import Derived.OpenShut
import Derived.ShutString
import Derived.ChangeOld
import Derived.Below
import Derived.SizedLaws
set_option linter.unusedVariables false
namespace Go.Proofs.Ytogomcndhipoeaa.vecTells
open Go Go.RX Go.ChangeShapes Go.WideShapes Go.ChangeAt Go.RowKit
theorem own : ownKnob Try.prog.godebug = none := by kernel_rfl
theorem laidOut : laidOutB Try.prog = true := by kernel_rfl
set_option maxRecDepth 100000 in
theorem lifted (os : Os) (started : os.Started) (H : Type) (enc : TypeId × Value → H) :
    ReturnsInHanded {} Try.checked os 4 .any (Rows.vecTellsSpec.pre6 enc Try.prog Try.f4 Rows.vecTellsRow.domain false) (Rows.vecTellsSpec.post enc Try.prog Try.f4 false true false false) := by
  refine returnsInHanded_of_change_sized (C := Try.checked) own started (by kernel_rfl) Try.func4
    (ChangeSpec.witness6 (enc := enc) (C := Try.checked) false ⟨#[], #[.agg #[(.int .i64 0), (.int .i64 0), (.int .i64 0), (.int .i64 0)], .agg #[(.int .i64 0), (.int .i64 0), (.int .i64 0), (.int .i64 0)], .int .i64 0, .slice none 0 0], []⟩ 8 (by kernel_rfl) (by kernel_rfl) (by kernel_rfl) (by kernel_rfl)) ?_
  intro W base args ds gs before hval0 hW hcnd hsz0 _
  have hval : ∀ (j : Nat) t v, Try.f4.params[j]? = some t → args[j]? = some v → Value.okWide Try.prog W .any base t v := hval0
  have hW' := hW
  obtain ⟨p, q, hA0, hV, rfl, hfz, hnd⟩ := hW
  have hA : DataW.TrodAll enc Try.prog W 0 (fun _ => true) true Try.f4.params.toList args.toList ds p := hA0
  rw [Try.params4] at hA hval
  obtain ⟨v0, vs0, d0, ds0, p0, q0, hargs, rfl, rfl, h0, r0⟩ := trodAll_cons hA
  obtain ⟨v1, vs1, d1, ds1, p1, q1, rfl, rfl, rfl, h1, r1⟩ := trodAll_cons r0
  obtain ⟨v2, vs2, d2, ds2, p2, q2, rfl, rfl, rfl, h2, r2⟩ := trodAll_cons r1
  obtain ⟨v3, vs3, d3, ds3, p3, q3, rfl, rfl, rfl, h3, r3⟩ := trodAll_cons r2
  obtain ⟨rfl, rfl, rfl⟩ := trodAll_nil r3
  obtain rfl : args = #[v0, v1, v2, v3] := by cases args; simp_all
  obtain ⟨rfl, rfl⟩ := trodVars_none hV
  have lt0 : ∀ x ∈ p0, x.block < W.heap.size := by obtain ⟨m, hm⟩ := h0; exact DataW.trod_lt m _ _ _ hm
  have lt1 : ∀ x ∈ p1, x.block < W.heap.size := by obtain ⟨m, hm⟩ := h1; exact DataW.trod_lt m _ _ _ hm
  have lt2 : ∀ x ∈ p2, x.block < W.heap.size := by obtain ⟨m, hm⟩ := h2; exact DataW.trod_lt m _ _ _ hm
  have lt3 : ∀ x ∈ p3, x.block < W.heap.size := by obtain ⟨m, hm⟩ := h3; exact DataW.trod_lt m _ _ _ hm
  obtain ⟨l0, y0, n0, g0⟩ := argL TT_ok (fun _ => rfl) (n := 9) rfl (hval 0 31 v0 rfl rfl) h0
  obtain ⟨l1, y1, n1, g1⟩ := argL TT_ok (fun _ => rfl) (n := 9) rfl (hval 1 31 v1 rfl rfl) h1
  obtain ⟨l2, y2, n2, g2⟩ := argL TT_ok (fun _ => rfl) (n := 9) rfl (hval 2 3 v2 rfl rfl) h2
  obtain ⟨l3, y3, n3, g3⟩ := argL TT_ok (fun _ => rfl) (n := 9) rfl (hval 3 22 v3 rfl rfl) h3
  obtain ⟨_, _, rfl, ⟨a0_0, rfl, w0_0⟩, ⟨_, _, rfl, ⟨a0_1, rfl, w0_1⟩, ⟨_, _, rfl, ⟨a0_2, rfl, w0_2⟩, ⟨_, _, rfl, ⟨a0_3, rfl, w0_3⟩, rfl⟩⟩⟩⟩ := y0
  obtain ⟨_, _, rfl, ⟨a1_0, rfl, w1_0⟩, ⟨_, _, rfl, ⟨a1_1, rfl, w1_1⟩, ⟨_, _, rfl, ⟨a1_2, rfl, w1_2⟩, ⟨_, _, rfl, ⟨a1_3, rfl, w1_3⟩, rfl⟩⟩⟩⟩ := y1
  obtain ⟨a2_0, rfl, w2_0⟩ := y2
  obtain ⟨a3_0, rfl, l3_0, h3_0⟩ := y3
  clear hA0 hval0 hsz0
  refine (CallP.law (Go.RX.c4r h3_0) (.mkc g0 (.mkc g1 (.mkc g2 (.mkc g3 .mk0))))).mono fun e W' ⟨he, bel⟩ => ?_
  subst he
  exact ⟨_, rfl, _, _, _, [], _, [], hW', trodAll_mk1 (shut_bool Try.underlying4 _), (trodAll_cons_mk (Below.trod laidOut (by kernel_rfl) (of_decide_eq_true (by kernel_rfl)) h0 bel lt0) (trodAll_cons_mk (Below.trod laidOut (by kernel_rfl) (of_decide_eq_true (by kernel_rfl)) h1 bel lt1) (trodAll_cons_mk (Below.trod laidOut (by kernel_rfl) (of_decide_eq_true (by kernel_rfl)) h2 bel lt2) (trodAll_cons_mk (Below.trod laidOut (by kernel_rfl) (of_decide_eq_true (by kernel_rfl)) h3 bel lt3) trodAll_mk0)))), rfl, bel.frame _, fun h => by cases h⟩
theorem over : Rows.vecTellsRow.holds Try.pinned (OpenSpec.ofChange Rows.vecTellsSpec) :=
  OpenClaim.holds_of_wide 4 Try.f4 rfl rfl rfl rfl rfl rfl rfl ⟨rfl, rfl, rfl, rfl, rfl⟩ rfl rfl rfl rfl rfl (by kernel_rfl) Try.func4 (by kernel_rfl)
    (of_decide_eq_true (by kernel_rfl)) (by unfold Func.isWrapper; first | (rw [if_pos (by decide +kernel)]; kernel_rfl) | (rw [if_neg (by decide +kernel)]; exact ⟨rfl, rfl⟩))
    (fun os started H enc _ => lifted os started H enc)
end Go.Proofs.Ytogomcndhipoeaa.vecTells
namespace Go.Proofs.Ytogomcndhipoeaa
theorem vecTells_holds : Rows.VecTellsSaid := vecTells.over
end Go.Proofs.Ytogomcndhipoeaa
