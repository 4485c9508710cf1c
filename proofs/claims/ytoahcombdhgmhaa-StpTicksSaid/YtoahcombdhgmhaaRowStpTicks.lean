/- footway law StpTicks: it answers true, whatever its arguments. -/
import Derived.Test.YtoahcombdhgmhaaCvStpTicks
import Derived.Test.YtoahcombdhgmhaaRXr
import Derived.Test.YtoahcombdhgmhaaRows
import Derived.Test.YtoahcombdhgmhaaFct
import Derived.WalkKit
import Derived.ProofKit
import Derived.OpenShut
import Derived.ShutString
import Derived.ChangeOld
import Derived.Below
import Derived.SizedLaws
set_option linter.unusedVariables false
namespace Go.Proofs.Ytoahcombdhgmhaa.stpTicks
open Go Go.RX Go.ChangeShapes Go.WideShapes Go.ChangeAt Go.RowKit
theorem own : ownKnob Try.prog.godebug = none := by kernel_rfl
theorem laidOut : laidOutB Try.prog = true := by kernel_rfl
set_option maxRecDepth 100000 in
theorem lifted (os : Os) (started : os.Started) (H : Type) (enc : TypeId × Value → H) :
    ReturnsInHanded {} Try.checked os 9 .any (Rows.stpTicksSpec.pre6 enc Try.prog Try.f9 Rows.stpTicksRow.domain false) (Rows.stpTicksSpec.post enc Try.prog Try.f9 false true false false) := by
  refine returnsInHanded_of_change_sized (C := Try.checked) own started (by kernel_rfl) Try.func9
    (ChangeSpec.witness6 (enc := enc) (C := Try.checked) false ⟨#[], #[.agg #[(.int .i64 0), (.slice none 0 0), (.slice none 0 0), (.slice none 0 0), (.slice none 0 0), (.int .i64 0), (.int .i64 0)], .int .i64 0, .bool false], []⟩ 8 (by kernel_rfl) (by kernel_rfl) (by kernel_rfl) (by kernel_rfl)) ?_
  intro W base args ds gs before hval0 hW hcnd hsz0 _
  have hval : ∀ (j : Nat) t v, Try.f9.params[j]? = some t → args[j]? = some v → Value.okWide Try.prog W .any base t v := hval0
  have hW' := hW
  obtain ⟨p, q, hA0, hV, rfl, hfz, hnd⟩ := hW
  have hA : DataW.TrodAll enc Try.prog W 0 (fun _ => true) true Try.f9.params.toList args.toList ds p := hA0
  rw [Try.params9] at hA hval
  obtain ⟨v0, vs0, d0, ds0, p0, q0, hargs, rfl, rfl, h0, r0⟩ := trodAll_cons hA
  obtain ⟨v1, vs1, d1, ds1, p1, q1, rfl, rfl, rfl, h1, r1⟩ := trodAll_cons r0
  obtain ⟨v2, vs2, d2, ds2, p2, q2, rfl, rfl, rfl, h2, r2⟩ := trodAll_cons r1
  obtain ⟨rfl, rfl, rfl⟩ := trodAll_nil r2
  obtain rfl : args = #[v0, v1, v2] := by cases args; simp_all
  obtain ⟨rfl, rfl⟩ := trodVars_none hV
  have lt0 : ∀ x ∈ p0, x.block < W.heap.size := by obtain ⟨m, hm⟩ := h0; exact DataW.trod_lt m _ _ _ hm
  have lt1 : ∀ x ∈ p1, x.block < W.heap.size := by obtain ⟨m, hm⟩ := h1; exact DataW.trod_lt m _ _ _ hm
  have lt2 : ∀ x ∈ p2, x.block < W.heap.size := by obtain ⟨m, hm⟩ := h2; exact DataW.trod_lt m _ _ _ hm
  obtain ⟨l0, y0, n0, g0⟩ := argL TT_ok (fun _ => rfl) (n := 9) rfl (hval 0 85 v0 rfl rfl) h0
  obtain ⟨l1, y1, n1, g1⟩ := argL TT_ok (fun _ => rfl) (n := 9) rfl (hval 1 3 v1 rfl rfl) h1
  obtain ⟨l2, y2, n2, g2⟩ := argL TT_ok (fun _ => rfl) (n := 9) rfl (hval 2 4 v2 rfl rfl) h2
  obtain ⟨_, _, rfl, ⟨_, _, rfl, ⟨a0_0, rfl, w0_0⟩, ⟨_, _, rfl, ⟨a0_1, rfl, l0_1, h0_1⟩, ⟨_, _, rfl, ⟨a0_2, rfl, l0_2, h0_2⟩, ⟨_, _, rfl, ⟨a0_3, rfl, l0_3, h0_3⟩, rfl⟩⟩⟩⟩, ⟨_, _, rfl, ⟨a0_4, rfl, l0_4, h0_4⟩, ⟨_, _, rfl, ⟨a0_5, rfl, w0_5⟩, ⟨_, _, rfl, ⟨a0_6, rfl, w0_6⟩, rfl⟩⟩⟩⟩ := y0
  obtain ⟨a1_0, rfl, w1_0⟩ := y1
  obtain ⟨a2_0, rfl⟩ := y2
  clear hA0 hval0 hsz0
  refine (CallP.law (Go.RX.r_law12_StpTicks _ h0_1 h0_2 h0_3 h0_4 _ _ _ _) (.mkc g0 (.mkc g1 (.mkc g2 .mk0)))).mono fun e W' ⟨he, bel⟩ => ?_
  subst he
  exact ⟨_, rfl, _, _, _, [], _, [], hW', trodAll_mk1 (shut_bool Try.underlying4 _), (trodAll_cons_mk (Below.trod laidOut (by kernel_rfl) (of_decide_eq_true (by kernel_rfl)) h0 bel lt0) (trodAll_cons_mk (Below.trod laidOut (by kernel_rfl) (of_decide_eq_true (by kernel_rfl)) h1 bel lt1) (trodAll_cons_mk (Below.trod laidOut (by kernel_rfl) (of_decide_eq_true (by kernel_rfl)) h2 bel lt2) trodAll_mk0))), rfl, bel.frame _, fun h => by cases h⟩
theorem k0 : (Rows.stpTicksRow.wf (OpenSpec.ofChange Rows.stpTicksSpec)) = true := by kernel_rfl
theorem k3 : (Try.f9.params.all (Try.pinned.checked.prog.readableRec ·)) = true := by kernel_rfl
theorem k4 : (namedTie Try.pinned.checked.prog Rows.stpTicksRow.named Rows.stpTicksSpec.vars) = true := by kernel_rfl
theorem k5 : ((Rows.stpTicksRow.stops == [])) = true := by kernel_rfl
theorem k7 : ((Rows.stpTicksRow.knobs == [])) = true := by kernel_rfl
theorem k9 : ((Rows.stpTicksRow.inPlace == Try.pinned.checked.prog.inPlace 9)) = true := by kernel_rfl
theorem k10 : ((Rows.stpTicksRow.unfollowed == Try.pinned.checked.prog.unfollowed 9)) = true := by kernel_rfl
theorem k11 : ((Rows.stpTicksRow.recurses == Try.pinned.checked.prog.recurses 9)) = true := by kernel_rfl
theorem k12 : ((Rows.stpTicksRow.named == Try.pinned.checked.prog.varsNamed 9)) = true := by kernel_rfl
theorem k13 : ((Rows.stpTicksRow.maps == (Try.f9.params.toList ++ Rows.stpTicksSpec.plain.varTypes Try.pinned.checked.prog).any (Try.pinned.checked.prog.mapsRec ·))) = true := by kernel_rfl
theorem k14 : ((Rows.stpTicksRow.ifaces == (Try.f9.params.toList ++ Rows.stpTicksSpec.plain.varTypes Try.pinned.checked.prog).any (Try.pinned.checked.prog.ifacesRec ·))) = true := by kernel_rfl
theorem k15 : ((Rows.stpTicksRow.mapsOut == Try.pinned.checked.prog.mapsAmong Try.f9.resultTypes.toList)) = true := by kernel_rfl
theorem k16 : ((Rows.stpTicksRow.loops == (Try.f9.params.toList ++ Rows.stpTicksSpec.plain.varTypes Try.pinned.checked.prog).any (Try.pinned.checked.prog.loopsFrom ·))) = true := by kernel_rfl
theorem k17 : ((Rows.stpTicksRow.wideKeys == (Try.f9.params.toList ++ Rows.stpTicksSpec.plain.varTypes Try.pinned.checked.prog ++ Try.f9.resultTypes.toList).any (Try.pinned.checked.prog.wideKeysFrom ·))) = true := by kernel_rfl
theorem k18 : (Rows.stpTicksSpec.vars.all (Try.pinned.checked.prog.varReadable ·)) = true := by kernel_rfl
theorem k19 : (Try.f9.resultTypes.all (fun t => Try.pinned.checked.prog.readableRec t && decide (t < Try.pinned.checked.prog.types.size))) = true := by kernel_rfl
theorem k20 : ((Rows.stpTicksRow.ifacesOut == Try.f9.resultTypes.toList.any (Try.pinned.checked.prog.ifacesRec ·))) = true := by kernel_rfl
theorem k21 : ((Rows.stpTicksRow.loopsOut == Try.f9.resultTypes.toList.any (Try.pinned.checked.prog.loopsFrom ·))) = true := by kernel_rfl
theorem k22 : ((Rows.stpTicksRow.plainKeys == Try.pinned.checked.prog.plainKeys)) = true := by kernel_rfl
theorem k23 : (Rows.stpTicksRow.shortTexts.isNone) = true := by kernel_rfl
theorem k26 : ((Rows.stpTicksRow.lifted == Try.pinned.checked.prog.liftsFinal)) = true := by kernel_rfl
theorem k27 : ((Try.pinned.checked.prog.make == some Rows.stpTicksRow.make)) = true := by kernel_rfl
theorem k28 : ((Rows.stpTicksRow.kinds == (if Rows.stpTicksRow.domain.isEmpty then [] else Try.f9.params.toList.map fun t => match Try.pinned.checked.prog.underlying t with | some (.int k) => some k | _ => none))) = true := by kernel_rfl
theorem k29 : ((Rows.stpTicksRow.pinned == Rows.stpTicksRow.pinnedBy)) = true := by kernel_rfl
theorem k30 : ((Rows.stpTicksRow.veiled == (Try.f9.params.toList ++ Rows.stpTicksSpec.plain.varTypes Try.pinned.checked.prog ++ Try.f9.resultTypes.toList).any (Try.pinned.checked.prog.veiledRec ·))) = true := by kernel_rfl
theorem k31 : (Rows.stpTicksRow.veiledFits Try.pinned.checked.prog Try.f9.params.toList (Try.f9.params.toList ++ Rows.stpTicksSpec.plain.varTypes Try.pinned.checked.prog ++ Try.f9.resultTypes.toList)) = true := by kernel_rfl
theorem named : Try.pinned.checked.prog.funcNamed Rows.stpTicksRow.func = some 9 := by kernel_rfl
set_option maxRecDepth 100000 in
theorem closed : joinedFacts Try.pinned.checked.prog 9 Try.f9 Rows.stpTicksSpec Rows.stpTicksRow = true := (and2 (and2 (and2 (and2 (and2 (and2 (and2 (and2 (and2 (and2 (and2 (and2 (and2 (and2 (and2 (and2 (and2 (and2 (and2 (and2 (and2 (and2 (and2 (and2 (and2 (and2 (and2 (and2 (and2 (and2 (and2 k0 fk1) fk2) k3) k4) k5) fk6) k7) fk8) k9) k10) k11) k12) k13) k14) k15) k16) k17) k18) k19) k20) k21) k22) k23) fk24) fk25) k26) k27) k28) k29) k30) k31)
theorem inst : Try.f9.isInstance Try.pinned.checked.prog Rows.stpTicksRow.origin Rows.stpTicksRow.targs := (of_decide_eq_true (by kernel_rfl))
theorem wrapped : Try.f9.isWrapper Try.pinned.checked.prog Rows.stpTicksRow.wrapper Rows.stpTicksRow.mainSum := by unfold Func.isWrapper; first | (rw [if_pos (by decide +kernel)]; kernel_rfl) | (rw [if_neg (by decide +kernel)]; exact ⟨rfl, rfl⟩)
theorem over : Rows.stpTicksRow.holds Try.pinned (OpenSpec.ofChange Rows.stpTicksSpec) :=
  OpenClaim.holds_of_wide 9 Try.f9 rfl rfl rfl rfl rfl rfl rfl ⟨rfl, rfl, rfl, rfl, rfl⟩ rfl rfl rfl rfl rfl named Try.func9 closed inst wrapped
    (fun os started H enc _ => lifted os started H enc)
end Go.Proofs.Ytoahcombdhgmhaa.stpTicks
namespace Go.Proofs.Ytoahcombdhgmhaa
theorem stpTicks_holds : Rows.StpTicksSaid := stpTicks.over
end Go.Proofs.Ytoahcombdhgmhaa
