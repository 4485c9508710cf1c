/- footway law LanTells: it answers true, whatever its arguments. -/
import Derived.Test.YtoahcombdhgmhaaCvLanTells
import Derived.Test.YtoahcombdhgmhaaRXr
import Derived.Test.YtoahcombdhgmhaaRows
import Derived.Test.YtoahcombdhgmhaaFct
import Derived.WalkKit
import Derived.ProofKit
import Derived.OpenShut
import Derived.ShutString
import Derived.ChangeOld
import Derived.Below
import Derived.SizedLaws
set_option linter.unusedVariables false
namespace Go.Proofs.Ytoahcombdhgmhaa.lanTells
open Go Go.RX Go.ChangeShapes Go.WideShapes Go.ChangeAt Go.RowKit
theorem own : ownKnob Try.prog.godebug = none := by kernel_rfl
theorem laidOut : laidOutB Try.prog = true := by kernel_rfl
set_option maxRecDepth 100000 in
theorem lifted (os : Os) (started : os.Started) (H : Type) (enc : TypeId × Value → H) :
    ReturnsInHanded {} Try.checked os 16 .any (Rows.lanTellsSpec.pre6 enc Try.prog Try.f16 Rows.lanTellsRow.domain false) (Rows.lanTellsSpec.post enc Try.prog Try.f16 false true false false) := by
  refine returnsInHanded_of_change_sized (C := Try.checked) own started (by kernel_rfl) Try.func16
    (ChangeSpec.witness6 (enc := enc) (C := Try.checked) false ⟨#[], #[.agg #[(.int .i64 0), (.slice none 0 0), (.slice none 0 0)], .int .i64 0], []⟩ 8 (by kernel_rfl) (by kernel_rfl) (by kernel_rfl) (by kernel_rfl)) ?_
  intro W base args ds gs before hval0 hW hcnd hsz0 _
  have hval : ∀ (j : Nat) t v, Try.f16.params[j]? = some t → args[j]? = some v → Value.okWide Try.prog W .any base t v := hval0
  have hW' := hW
  obtain ⟨p, q, hA0, hV, rfl, hfz, hnd⟩ := hW
  have hA : DataW.TrodAll enc Try.prog W 0 (fun _ => true) true Try.f16.params.toList args.toList ds p := hA0
  rw [Try.params16] at hA hval
  obtain ⟨v0, vs0, d0, ds0, p0, q0, hargs, rfl, rfl, h0, r0⟩ := trodAll_cons hA
  obtain ⟨v1, vs1, d1, ds1, p1, q1, rfl, rfl, rfl, h1, r1⟩ := trodAll_cons r0
  obtain ⟨rfl, rfl, rfl⟩ := trodAll_nil r1
  obtain rfl : args = #[v0, v1] := by cases args; simp_all
  obtain ⟨rfl, rfl⟩ := trodVars_none hV
  have lt0 : ∀ x ∈ p0, x.block < W.heap.size := by obtain ⟨m, hm⟩ := h0; exact DataW.trod_lt m _ _ _ hm
  have lt1 : ∀ x ∈ p1, x.block < W.heap.size := by obtain ⟨m, hm⟩ := h1; exact DataW.trod_lt m _ _ _ hm
  obtain ⟨l0, y0, n0, g0⟩ := argL TT_ok (fun _ => rfl) (n := 9) rfl (hval 0 47 v0 rfl rfl) h0
  obtain ⟨l1, y1, n1, g1⟩ := argL TT_ok (fun _ => rfl) (n := 9) rfl (hval 1 3 v1 rfl rfl) h1
  obtain ⟨_, _, rfl, ⟨a0_0, rfl, w0_0⟩, ⟨_, _, rfl, ⟨a0_1, rfl, l0_1, h0_1⟩, ⟨_, _, rfl, ⟨a0_2, rfl, l0_2, h0_2⟩, rfl⟩⟩⟩ := y0
  obtain ⟨a1_0, rfl, w1_0⟩ := y1
  clear hA0 hval0 hsz0
  refine (CallP.law (Go.RX.r_law15_LanTells _ h0_1 h0_2 _) (.mkc g0 (.mkc g1 .mk0))).mono fun e W' ⟨he, bel⟩ => ?_
  subst he
  exact ⟨_, rfl, _, _, _, [], _, [], hW', trodAll_mk1 (shut_bool Try.underlying4 _), (trodAll_cons_mk (Below.trod laidOut (by kernel_rfl) (of_decide_eq_true (by kernel_rfl)) h0 bel lt0) (trodAll_cons_mk (Below.trod laidOut (by kernel_rfl) (of_decide_eq_true (by kernel_rfl)) h1 bel lt1) trodAll_mk0)), rfl, bel.frame _, fun h => by cases h⟩
theorem k0 : (Rows.lanTellsRow.wf (OpenSpec.ofChange Rows.lanTellsSpec)) = true := by kernel_rfl
theorem k3 : (Try.f16.params.all (Try.pinned.checked.prog.readableRec ·)) = true := by kernel_rfl
theorem k4 : (namedTie Try.pinned.checked.prog Rows.lanTellsRow.named Rows.lanTellsSpec.vars) = true := by kernel_rfl
theorem k5 : ((Rows.lanTellsRow.stops == [])) = true := by kernel_rfl
theorem k7 : ((Rows.lanTellsRow.knobs == [])) = true := by kernel_rfl
theorem k9 : ((Rows.lanTellsRow.inPlace == Try.pinned.checked.prog.inPlace 16)) = true := by kernel_rfl
theorem k10 : ((Rows.lanTellsRow.unfollowed == Try.pinned.checked.prog.unfollowed 16)) = true := by kernel_rfl
theorem k11 : ((Rows.lanTellsRow.recurses == Try.pinned.checked.prog.recurses 16)) = true := by kernel_rfl
theorem k12 : ((Rows.lanTellsRow.named == Try.pinned.checked.prog.varsNamed 16)) = true := by kernel_rfl
theorem k13 : ((Rows.lanTellsRow.maps == (Try.f16.params.toList ++ Rows.lanTellsSpec.plain.varTypes Try.pinned.checked.prog).any (Try.pinned.checked.prog.mapsRec ·))) = true := by kernel_rfl
theorem k14 : ((Rows.lanTellsRow.ifaces == (Try.f16.params.toList ++ Rows.lanTellsSpec.plain.varTypes Try.pinned.checked.prog).any (Try.pinned.checked.prog.ifacesRec ·))) = true := by kernel_rfl
theorem k15 : ((Rows.lanTellsRow.mapsOut == Try.pinned.checked.prog.mapsAmong Try.f16.resultTypes.toList)) = true := by kernel_rfl
theorem k16 : ((Rows.lanTellsRow.loops == (Try.f16.params.toList ++ Rows.lanTellsSpec.plain.varTypes Try.pinned.checked.prog).any (Try.pinned.checked.prog.loopsFrom ·))) = true := by kernel_rfl
theorem k17 : ((Rows.lanTellsRow.wideKeys == (Try.f16.params.toList ++ Rows.lanTellsSpec.plain.varTypes Try.pinned.checked.prog ++ Try.f16.resultTypes.toList).any (Try.pinned.checked.prog.wideKeysFrom ·))) = true := by kernel_rfl
theorem k18 : (Rows.lanTellsSpec.vars.all (Try.pinned.checked.prog.varReadable ·)) = true := by kernel_rfl
theorem k19 : (Try.f16.resultTypes.all (fun t => Try.pinned.checked.prog.readableRec t && decide (t < Try.pinned.checked.prog.types.size))) = true := by kernel_rfl
theorem k20 : ((Rows.lanTellsRow.ifacesOut == Try.f16.resultTypes.toList.any (Try.pinned.checked.prog.ifacesRec ·))) = true := by kernel_rfl
theorem k21 : ((Rows.lanTellsRow.loopsOut == Try.f16.resultTypes.toList.any (Try.pinned.checked.prog.loopsFrom ·))) = true := by kernel_rfl
theorem k22 : ((Rows.lanTellsRow.plainKeys == Try.pinned.checked.prog.plainKeys)) = true := by kernel_rfl
theorem k23 : (Rows.lanTellsRow.shortTexts.isNone) = true := by kernel_rfl
theorem k26 : ((Rows.lanTellsRow.lifted == Try.pinned.checked.prog.liftsFinal)) = true := by kernel_rfl
theorem k27 : ((Try.pinned.checked.prog.make == some Rows.lanTellsRow.make)) = true := by kernel_rfl
theorem k28 : ((Rows.lanTellsRow.kinds == (if Rows.lanTellsRow.domain.isEmpty then [] else Try.f16.params.toList.map fun t => match Try.pinned.checked.prog.underlying t with | some (.int k) => some k | _ => none))) = true := by kernel_rfl
theorem k29 : ((Rows.lanTellsRow.pinned == Rows.lanTellsRow.pinnedBy)) = true := by kernel_rfl
theorem k30 : ((Rows.lanTellsRow.veiled == (Try.f16.params.toList ++ Rows.lanTellsSpec.plain.varTypes Try.pinned.checked.prog ++ Try.f16.resultTypes.toList).any (Try.pinned.checked.prog.veiledRec ·))) = true := by kernel_rfl
theorem k31 : (Rows.lanTellsRow.veiledFits Try.pinned.checked.prog Try.f16.params.toList (Try.f16.params.toList ++ Rows.lanTellsSpec.plain.varTypes Try.pinned.checked.prog ++ Try.f16.resultTypes.toList)) = true := by kernel_rfl
theorem named : Try.pinned.checked.prog.funcNamed Rows.lanTellsRow.func = some 16 := by kernel_rfl
set_option maxRecDepth 100000 in
theorem closed : joinedFacts Try.pinned.checked.prog 16 Try.f16 Rows.lanTellsSpec Rows.lanTellsRow = true := (and2 (and2 (and2 (and2 (and2 (and2 (and2 (and2 (and2 (and2 (and2 (and2 (and2 (and2 (and2 (and2 (and2 (and2 (and2 (and2 (and2 (and2 (and2 (and2 (and2 (and2 (and2 (and2 (and2 (and2 (and2 k0 fk1) fk2) k3) k4) k5) fk6) k7) fk8) k9) k10) k11) k12) k13) k14) k15) k16) k17) k18) k19) k20) k21) k22) k23) fk24) fk25) k26) k27) k28) k29) k30) k31)
theorem inst : Try.f16.isInstance Try.pinned.checked.prog Rows.lanTellsRow.origin Rows.lanTellsRow.targs := (of_decide_eq_true (by kernel_rfl))
theorem wrapped : Try.f16.isWrapper Try.pinned.checked.prog Rows.lanTellsRow.wrapper Rows.lanTellsRow.mainSum := by unfold Func.isWrapper; first | (rw [if_pos (by decide +kernel)]; kernel_rfl) | (rw [if_neg (by decide +kernel)]; exact ⟨rfl, rfl⟩)
theorem over : Rows.lanTellsRow.holds Try.pinned (OpenSpec.ofChange Rows.lanTellsSpec) :=
  OpenClaim.holds_of_wide 16 Try.f16 rfl rfl rfl rfl rfl rfl rfl ⟨rfl, rfl, rfl, rfl, rfl⟩ rfl rfl rfl rfl rfl named Try.func16 closed inst wrapped
    (fun os started H enc _ => lifted os started H enc)
end Go.Proofs.Ytoahcombdhgmhaa.lanTells
namespace Go.Proofs.Ytoahcombdhgmhaa
theorem lanTells_holds : Rows.LanTellsSaid := lanTells.over
end Go.Proofs.Ytoahcombdhgmhaa
