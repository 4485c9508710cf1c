/- footway law FdbLearns: it answers true, whatever its arguments. -/
import Derived.Test.YtoahcombdhgmhaaCvFdbLearns
import Derived.Test.YtoahcombdhgmhaaRXr
import Derived.Test.YtoahcombdhgmhaaRows
import Derived.Test.YtoahcombdhgmhaaFct
import Derived.WalkKit
import Derived.ProofKit
import Derived.OpenShut
import Derived.ShutString
import Derived.ChangeOld
import Derived.Below
import Derived.SizedLaws
set_option linter.unusedVariables false
namespace Go.Proofs.Ytoahcombdhgmhaa.fdbLearns
open Go Go.RX Go.ChangeShapes Go.WideShapes Go.ChangeAt Go.RowKit
theorem own : ownKnob Try.prog.godebug = none := by kernel_rfl
theorem laidOut : laidOutB Try.prog = true := by kernel_rfl
set_option maxRecDepth 100000 in
theorem lifted (os : Os) (started : os.Started) (H : Type) (enc : TypeId × Value → H) :
    ReturnsInHanded {} Try.checked os 3 .any (Rows.fdbLearnsSpec.pre6 enc Try.prog Try.f3 Rows.fdbLearnsRow.domain false) (Rows.fdbLearnsSpec.post enc Try.prog Try.f3 false true false false) := by
  refine returnsInHanded_of_change_sized (C := Try.checked) own started (by kernel_rfl) Try.func3
    (ChangeSpec.witness6 (enc := enc) (C := Try.checked) false ⟨#[], #[.int .i64 0, .int .i64 0, .int .i64 0, .agg #[(.slice none 0 0), (.int .i64 0), (.int .i64 0)], .int .i64 0, .int .i64 0, .int .i64 0], []⟩ 8 (by kernel_rfl) (by kernel_rfl) (by kernel_rfl) (by kernel_rfl)) ?_
  intro W base args ds gs before hval0 hW hcnd hsz0 _
  have hval : ∀ (j : Nat) t v, Try.f3.params[j]? = some t → args[j]? = some v → Value.okWide Try.prog W .any base t v := hval0
  have hW' := hW
  obtain ⟨p, q, hA0, hV, rfl, hfz, hnd⟩ := hW
  have hA : DataW.TrodAll enc Try.prog W 0 (fun _ => true) true Try.f3.params.toList args.toList ds p := hA0
  rw [Try.params3] at hA hval
  obtain ⟨v0, vs0, d0, ds0, p0, q0, hargs, rfl, rfl, h0, r0⟩ := trodAll_cons hA
  obtain ⟨v1, vs1, d1, ds1, p1, q1, rfl, rfl, rfl, h1, r1⟩ := trodAll_cons r0
  obtain ⟨v2, vs2, d2, ds2, p2, q2, rfl, rfl, rfl, h2, r2⟩ := trodAll_cons r1
  obtain ⟨v3, vs3, d3, ds3, p3, q3, rfl, rfl, rfl, h3, r3⟩ := trodAll_cons r2
  obtain ⟨v4, vs4, d4, ds4, p4, q4, rfl, rfl, rfl, h4, r4⟩ := trodAll_cons r3
  obtain ⟨v5, vs5, d5, ds5, p5, q5, rfl, rfl, rfl, h5, r5⟩ := trodAll_cons r4
  obtain ⟨v6, vs6, d6, ds6, p6, q6, rfl, rfl, rfl, h6, r6⟩ := trodAll_cons r5
  obtain ⟨rfl, rfl, rfl⟩ := trodAll_nil r6
  obtain rfl : args = #[v0, v1, v2, v3, v4, v5, v6] := by cases args; simp_all
  obtain ⟨rfl, rfl⟩ := trodVars_none hV
  have lt0 : ∀ x ∈ p0, x.block < W.heap.size := by obtain ⟨m, hm⟩ := h0; exact DataW.trod_lt m _ _ _ hm
  have lt1 : ∀ x ∈ p1, x.block < W.heap.size := by obtain ⟨m, hm⟩ := h1; exact DataW.trod_lt m _ _ _ hm
  have lt2 : ∀ x ∈ p2, x.block < W.heap.size := by obtain ⟨m, hm⟩ := h2; exact DataW.trod_lt m _ _ _ hm
  have lt3 : ∀ x ∈ p3, x.block < W.heap.size := by obtain ⟨m, hm⟩ := h3; exact DataW.trod_lt m _ _ _ hm
  have lt4 : ∀ x ∈ p4, x.block < W.heap.size := by obtain ⟨m, hm⟩ := h4; exact DataW.trod_lt m _ _ _ hm
  have lt5 : ∀ x ∈ p5, x.block < W.heap.size := by obtain ⟨m, hm⟩ := h5; exact DataW.trod_lt m _ _ _ hm
  have lt6 : ∀ x ∈ p6, x.block < W.heap.size := by obtain ⟨m, hm⟩ := h6; exact DataW.trod_lt m _ _ _ hm
  obtain ⟨l0, y0, n0, g0⟩ := argL TT_ok (fun _ => rfl) (n := 9) rfl (hval 0 3 v0 rfl rfl) h0
  obtain ⟨l1, y1, n1, g1⟩ := argL TT_ok (fun _ => rfl) (n := 9) rfl (hval 1 3 v1 rfl rfl) h1
  obtain ⟨l2, y2, n2, g2⟩ := argL TT_ok (fun _ => rfl) (n := 9) rfl (hval 2 3 v2 rfl rfl) h2
  obtain ⟨l3, y3, n3, g3⟩ := argL TT_ok (fun _ => rfl) (n := 9) rfl (hval 3 24 v3 rfl rfl) h3
  obtain ⟨l4, y4, n4, g4⟩ := argL TT_ok (fun _ => rfl) (n := 9) rfl (hval 4 3 v4 rfl rfl) h4
  obtain ⟨l5, y5, n5, g5⟩ := argL TT_ok (fun _ => rfl) (n := 9) rfl (hval 5 3 v5 rfl rfl) h5
  obtain ⟨l6, y6, n6, g6⟩ := argL TT_ok (fun _ => rfl) (n := 9) rfl (hval 6 3 v6 rfl rfl) h6
  obtain ⟨a0_0, rfl, w0_0⟩ := y0
  obtain ⟨a1_0, rfl, w1_0⟩ := y1
  obtain ⟨a2_0, rfl, w2_0⟩ := y2
  obtain ⟨_, _, rfl, ⟨a3_0, rfl, l3_0, h3_0⟩, ⟨_, _, rfl, ⟨a3_1, rfl, w3_1⟩, ⟨_, _, rfl, ⟨a3_2, rfl, w3_2⟩, rfl⟩⟩⟩ := y3
  obtain ⟨a4_0, rfl, w4_0⟩ := y4
  obtain ⟨a5_0, rfl, w5_0⟩ := y5
  obtain ⟨a6_0, rfl, w6_0⟩ := y6
  clear hA0 hval0 hsz0
  refine (CallP.law (Go.RX.r_law08_FdbLearns _ _ _ h3_0 _ _ _ _ _) (.mkc g0 (.mkc g1 (.mkc g2 (.mkc g3 (.mkc g4 (.mkc g5 (.mkc g6 .mk0)))))))).mono fun e W' ⟨he, bel⟩ => ?_
  subst he
  exact ⟨_, rfl, _, _, _, [], _, [], hW', trodAll_mk1 (shut_bool Try.underlying4 _), (trodAll_cons_mk (Below.trod laidOut (by kernel_rfl) (of_decide_eq_true (by kernel_rfl)) h0 bel lt0) (trodAll_cons_mk (Below.trod laidOut (by kernel_rfl) (of_decide_eq_true (by kernel_rfl)) h1 bel lt1) (trodAll_cons_mk (Below.trod laidOut (by kernel_rfl) (of_decide_eq_true (by kernel_rfl)) h2 bel lt2) (trodAll_cons_mk (Below.trod laidOut (by kernel_rfl) (of_decide_eq_true (by kernel_rfl)) h3 bel lt3) (trodAll_cons_mk (Below.trod laidOut (by kernel_rfl) (of_decide_eq_true (by kernel_rfl)) h4 bel lt4) (trodAll_cons_mk (Below.trod laidOut (by kernel_rfl) (of_decide_eq_true (by kernel_rfl)) h5 bel lt5) (trodAll_cons_mk (Below.trod laidOut (by kernel_rfl) (of_decide_eq_true (by kernel_rfl)) h6 bel lt6) trodAll_mk0))))))), rfl, bel.frame _, fun h => by cases h⟩
theorem k0 : (Rows.fdbLearnsRow.wf (OpenSpec.ofChange Rows.fdbLearnsSpec)) = true := by kernel_rfl
theorem k3 : (Try.f3.params.all (Try.pinned.checked.prog.readableRec ·)) = true := by kernel_rfl
theorem k4 : (namedTie Try.pinned.checked.prog Rows.fdbLearnsRow.named Rows.fdbLearnsSpec.vars) = true := by kernel_rfl
theorem k5 : ((Rows.fdbLearnsRow.stops == [])) = true := by kernel_rfl
theorem k7 : ((Rows.fdbLearnsRow.knobs == [])) = true := by kernel_rfl
theorem k9 : ((Rows.fdbLearnsRow.inPlace == Try.pinned.checked.prog.inPlace 3)) = true := by kernel_rfl
theorem k10 : ((Rows.fdbLearnsRow.unfollowed == Try.pinned.checked.prog.unfollowed 3)) = true := by kernel_rfl
theorem k11 : ((Rows.fdbLearnsRow.recurses == Try.pinned.checked.prog.recurses 3)) = true := by kernel_rfl
theorem k12 : ((Rows.fdbLearnsRow.named == Try.pinned.checked.prog.varsNamed 3)) = true := by kernel_rfl
theorem k13 : ((Rows.fdbLearnsRow.maps == (Try.f3.params.toList ++ Rows.fdbLearnsSpec.plain.varTypes Try.pinned.checked.prog).any (Try.pinned.checked.prog.mapsRec ·))) = true := by kernel_rfl
theorem k14 : ((Rows.fdbLearnsRow.ifaces == (Try.f3.params.toList ++ Rows.fdbLearnsSpec.plain.varTypes Try.pinned.checked.prog).any (Try.pinned.checked.prog.ifacesRec ·))) = true := by kernel_rfl
theorem k15 : ((Rows.fdbLearnsRow.mapsOut == Try.pinned.checked.prog.mapsAmong Try.f3.resultTypes.toList)) = true := by kernel_rfl
theorem k16 : ((Rows.fdbLearnsRow.loops == (Try.f3.params.toList ++ Rows.fdbLearnsSpec.plain.varTypes Try.pinned.checked.prog).any (Try.pinned.checked.prog.loopsFrom ·))) = true := by kernel_rfl
theorem k17 : ((Rows.fdbLearnsRow.wideKeys == (Try.f3.params.toList ++ Rows.fdbLearnsSpec.plain.varTypes Try.pinned.checked.prog ++ Try.f3.resultTypes.toList).any (Try.pinned.checked.prog.wideKeysFrom ·))) = true := by kernel_rfl
theorem k18 : (Rows.fdbLearnsSpec.vars.all (Try.pinned.checked.prog.varReadable ·)) = true := by kernel_rfl
theorem k19 : (Try.f3.resultTypes.all (fun t => Try.pinned.checked.prog.readableRec t && decide (t < Try.pinned.checked.prog.types.size))) = true := by kernel_rfl
theorem k20 : ((Rows.fdbLearnsRow.ifacesOut == Try.f3.resultTypes.toList.any (Try.pinned.checked.prog.ifacesRec ·))) = true := by kernel_rfl
theorem k21 : ((Rows.fdbLearnsRow.loopsOut == Try.f3.resultTypes.toList.any (Try.pinned.checked.prog.loopsFrom ·))) = true := by kernel_rfl
theorem k22 : ((Rows.fdbLearnsRow.plainKeys == Try.pinned.checked.prog.plainKeys)) = true := by kernel_rfl
theorem k23 : (Rows.fdbLearnsRow.shortTexts.isNone) = true := by kernel_rfl
theorem k26 : ((Rows.fdbLearnsRow.lifted == Try.pinned.checked.prog.liftsFinal)) = true := by kernel_rfl
theorem k27 : ((Try.pinned.checked.prog.make == some Rows.fdbLearnsRow.make)) = true := by kernel_rfl
theorem k28 : ((Rows.fdbLearnsRow.kinds == (if Rows.fdbLearnsRow.domain.isEmpty then [] else Try.f3.params.toList.map fun t => match Try.pinned.checked.prog.underlying t with | some (.int k) => some k | _ => none))) = true := by kernel_rfl
theorem k29 : ((Rows.fdbLearnsRow.pinned == Rows.fdbLearnsRow.pinnedBy)) = true := by kernel_rfl
theorem k30 : ((Rows.fdbLearnsRow.veiled == (Try.f3.params.toList ++ Rows.fdbLearnsSpec.plain.varTypes Try.pinned.checked.prog ++ Try.f3.resultTypes.toList).any (Try.pinned.checked.prog.veiledRec ·))) = true := by kernel_rfl
theorem k31 : (Rows.fdbLearnsRow.veiledFits Try.pinned.checked.prog Try.f3.params.toList (Try.f3.params.toList ++ Rows.fdbLearnsSpec.plain.varTypes Try.pinned.checked.prog ++ Try.f3.resultTypes.toList)) = true := by kernel_rfl
theorem named : Try.pinned.checked.prog.funcNamed Rows.fdbLearnsRow.func = some 3 := by kernel_rfl
set_option maxRecDepth 100000 in
theorem closed : joinedFacts Try.pinned.checked.prog 3 Try.f3 Rows.fdbLearnsSpec Rows.fdbLearnsRow = true := (and2 (and2 (and2 (and2 (and2 (and2 (and2 (and2 (and2 (and2 (and2 (and2 (and2 (and2 (and2 (and2 (and2 (and2 (and2 (and2 (and2 (and2 (and2 (and2 (and2 (and2 (and2 (and2 (and2 (and2 (and2 k0 fk1) fk2) k3) k4) k5) fk6) k7) fk8) k9) k10) k11) k12) k13) k14) k15) k16) k17) k18) k19) k20) k21) k22) k23) fk24) fk25) k26) k27) k28) k29) k30) k31)
theorem inst : Try.f3.isInstance Try.pinned.checked.prog Rows.fdbLearnsRow.origin Rows.fdbLearnsRow.targs := (of_decide_eq_true (by kernel_rfl))
theorem wrapped : Try.f3.isWrapper Try.pinned.checked.prog Rows.fdbLearnsRow.wrapper Rows.fdbLearnsRow.mainSum := by unfold Func.isWrapper; first | (rw [if_pos (by decide +kernel)]; kernel_rfl) | (rw [if_neg (by decide +kernel)]; exact ⟨rfl, rfl⟩)
theorem over : Rows.fdbLearnsRow.holds Try.pinned (OpenSpec.ofChange Rows.fdbLearnsSpec) :=
  OpenClaim.holds_of_wide 3 Try.f3 rfl rfl rfl rfl rfl rfl rfl ⟨rfl, rfl, rfl, rfl, rfl⟩ rfl rfl rfl rfl rfl named Try.func3 closed inst wrapped
    (fun os started H enc _ => lifted os started H enc)
end Go.Proofs.Ytoahcombdhgmhaa.fdbLearns
namespace Go.Proofs.Ytoahcombdhgmhaa
theorem fdbLearns_holds : Rows.FdbLearnsSaid := fdbLearns.over
end Go.Proofs.Ytoahcombdhgmhaa
