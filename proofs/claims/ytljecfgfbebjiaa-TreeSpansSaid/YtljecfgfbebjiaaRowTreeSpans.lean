/- footway law TreeSpans: it answers true, whatever its arguments. -/
import Derived.Test.YtljecfgfbebjiaaCvTreeSpans
import Derived.Test.YtljecfgfbebjiaaRXr
import Derived.Test.YtljecfgfbebjiaaRows
import Derived.Test.YtljecfgfbebjiaaFct
import Derived.WalkKit
import Derived.ProofKit
import Derived.OpenShut
import Derived.ShutString
import Derived.ChangeOld
import Derived.Below
import Derived.SizedLaws
set_option linter.unusedVariables false
namespace Go.Proofs.Ytljecfgfbebjiaa.treeSpans
open Go Go.RX Go.ChangeShapes Go.WideShapes Go.ChangeAt Go.RowKit
theorem own : ownKnob Try.prog.godebug = none := by kernel_rfl
theorem laidOut : laidOutB Try.prog = true := by kernel_rfl
set_option maxRecDepth 100000 in
theorem lifted (os : Os) (started : os.Started) (H : Type) (enc : TypeId × Value → H) :
    ReturnsInHanded {} Try.checked os 6 .any (Rows.treeSpansSpec.pre6 enc Try.prog Try.f6 Rows.treeSpansRow.domain false) (Rows.treeSpansSpec.post enc Try.prog Try.f6 false true false false) := by
  refine returnsInHanded_of_change_sized (C := Try.checked) own started (by kernel_rfl) Try.func6
    (ChangeSpec.witness6 (enc := enc) (C := Try.checked) false ⟨#[], #[.agg #[(.int .i64 0), (.slice none 0 0), (.slice none 0 0)]], []⟩ 8 (by kernel_rfl) (by kernel_rfl) (by kernel_rfl) (by kernel_rfl)) ?_
  intro W base args ds gs before hval0 hW hcnd hsz0 _
  have hval : ∀ (j : Nat) t v, Try.f6.params[j]? = some t → args[j]? = some v → Value.okWide Try.prog W .any base t v := hval0
  have hW' := hW
  obtain ⟨p, q, hA0, hV, rfl, hfz, hnd⟩ := hW
  have hA : DataW.TrodAll enc Try.prog W 0 (fun _ => true) true Try.f6.params.toList args.toList ds p := hA0
  rw [Try.params6] at hA hval
  obtain ⟨v0, vs0, d0, ds0, p0, q0, hargs, rfl, rfl, h0, r0⟩ := trodAll_cons hA
  obtain ⟨rfl, rfl, rfl⟩ := trodAll_nil r0
  obtain rfl : args = #[v0] := by cases args; simp_all
  obtain ⟨rfl, rfl⟩ := trodVars_none hV
  have lt0 : ∀ x ∈ p0, x.block < W.heap.size := by obtain ⟨m, hm⟩ := h0; exact DataW.trod_lt m _ _ _ hm
  obtain ⟨l0, y0, n0, g0⟩ := argL TT_ok (fun _ => rfl) (n := 9) rfl (hval 0 25 v0 rfl rfl) h0
  obtain ⟨_, _, rfl, ⟨a0_0, rfl, w0_0⟩, ⟨_, _, rfl, ⟨a0_1, rfl, l0_1, h0_1⟩, ⟨_, _, rfl, ⟨a0_2, rfl, l0_2, h0_2⟩, rfl⟩⟩⟩ := y0
  clear hA0 hval0 hsz0
  refine (CallP.law (Go.RX.r_law16_TreeSpans _ h0_1 h0_2) (.mkc g0 .mk0)).mono fun e W' ⟨he, bel⟩ => ?_
  subst he
  exact ⟨_, rfl, _, _, _, [], _, [], hW', trodAll_mk1 (shut_bool Try.underlying4 _), (trodAll_cons_mk (Below.trod laidOut (by kernel_rfl) (of_decide_eq_true (by kernel_rfl)) h0 bel lt0) trodAll_mk0), rfl, bel.frame _, fun h => by cases h⟩
theorem k0 : (Rows.treeSpansRow.wf (OpenSpec.ofChange Rows.treeSpansSpec)) = true := by kernel_rfl
theorem k3 : (Try.f6.params.all (Try.pinned.checked.prog.readableRec ·)) = true := by kernel_rfl
theorem k4 : (namedTie Try.pinned.checked.prog Rows.treeSpansRow.named Rows.treeSpansSpec.vars) = true := by kernel_rfl
theorem k5 : ((Rows.treeSpansRow.stops == [])) = true := by kernel_rfl
theorem k7 : ((Rows.treeSpansRow.knobs == [])) = true := by kernel_rfl
theorem k9 : ((Rows.treeSpansRow.inPlace == Try.pinned.checked.prog.inPlace 6)) = true := by kernel_rfl
theorem k10 : ((Rows.treeSpansRow.unfollowed == Try.pinned.checked.prog.unfollowed 6)) = true := by kernel_rfl
theorem k11 : ((Rows.treeSpansRow.recurses == Try.pinned.checked.prog.recurses 6)) = true := by kernel_rfl
theorem k12 : ((Rows.treeSpansRow.named == Try.pinned.checked.prog.varsNamed 6)) = true := by kernel_rfl
theorem k13 : ((Rows.treeSpansRow.maps == (Try.f6.params.toList ++ Rows.treeSpansSpec.plain.varTypes Try.pinned.checked.prog).any (Try.pinned.checked.prog.mapsRec ·))) = true := by kernel_rfl
theorem k14 : ((Rows.treeSpansRow.ifaces == (Try.f6.params.toList ++ Rows.treeSpansSpec.plain.varTypes Try.pinned.checked.prog).any (Try.pinned.checked.prog.ifacesRec ·))) = true := by kernel_rfl
theorem k15 : ((Rows.treeSpansRow.mapsOut == Try.pinned.checked.prog.mapsAmong Try.f6.resultTypes.toList)) = true := by kernel_rfl
theorem k16 : ((Rows.treeSpansRow.loops == (Try.f6.params.toList ++ Rows.treeSpansSpec.plain.varTypes Try.pinned.checked.prog).any (Try.pinned.checked.prog.loopsFrom ·))) = true := by kernel_rfl
theorem k17 : ((Rows.treeSpansRow.wideKeys == (Try.f6.params.toList ++ Rows.treeSpansSpec.plain.varTypes Try.pinned.checked.prog ++ Try.f6.resultTypes.toList).any (Try.pinned.checked.prog.wideKeysFrom ·))) = true := by kernel_rfl
theorem k18 : (Rows.treeSpansSpec.vars.all (Try.pinned.checked.prog.varReadable ·)) = true := by kernel_rfl
theorem k19 : (Try.f6.resultTypes.all (fun t => Try.pinned.checked.prog.readableRec t && decide (t < Try.pinned.checked.prog.types.size))) = true := by kernel_rfl
theorem k20 : ((Rows.treeSpansRow.ifacesOut == Try.f6.resultTypes.toList.any (Try.pinned.checked.prog.ifacesRec ·))) = true := by kernel_rfl
theorem k21 : ((Rows.treeSpansRow.loopsOut == Try.f6.resultTypes.toList.any (Try.pinned.checked.prog.loopsFrom ·))) = true := by kernel_rfl
theorem k22 : ((Rows.treeSpansRow.plainKeys == Try.pinned.checked.prog.plainKeys)) = true := by kernel_rfl
theorem k23 : (Rows.treeSpansRow.shortTexts.isNone) = true := by kernel_rfl
theorem k26 : ((Rows.treeSpansRow.lifted == Try.pinned.checked.prog.liftsFinal)) = true := by kernel_rfl
theorem k27 : ((Try.pinned.checked.prog.make == some Rows.treeSpansRow.make)) = true := by kernel_rfl
theorem k28 : ((Rows.treeSpansRow.kinds == (if Rows.treeSpansRow.domain.isEmpty then [] else Try.f6.params.toList.map fun t => match Try.pinned.checked.prog.underlying t with | some (.int k) => some k | _ => none))) = true := by kernel_rfl
theorem k29 : ((Rows.treeSpansRow.pinned == Rows.treeSpansRow.pinnedBy)) = true := by kernel_rfl
theorem k30 : ((Rows.treeSpansRow.veiled == (Try.f6.params.toList ++ Rows.treeSpansSpec.plain.varTypes Try.pinned.checked.prog ++ Try.f6.resultTypes.toList).any (Try.pinned.checked.prog.veiledRec ·))) = true := by kernel_rfl
theorem k31 : (Rows.treeSpansRow.veiledFits Try.pinned.checked.prog Try.f6.params.toList (Try.f6.params.toList ++ Rows.treeSpansSpec.plain.varTypes Try.pinned.checked.prog ++ Try.f6.resultTypes.toList)) = true := by kernel_rfl
theorem named : Try.pinned.checked.prog.funcNamed Rows.treeSpansRow.func = some 6 := by kernel_rfl
set_option maxRecDepth 100000 in
theorem closed : joinedFacts Try.pinned.checked.prog 6 Try.f6 Rows.treeSpansSpec Rows.treeSpansRow = true := (and2 (and2 (and2 (and2 (and2 (and2 (and2 (and2 (and2 (and2 (and2 (and2 (and2 (and2 (and2 (and2 (and2 (and2 (and2 (and2 (and2 (and2 (and2 (and2 (and2 (and2 (and2 (and2 (and2 (and2 (and2 k0 fk1) fk2) k3) k4) k5) fk6) k7) fk8) k9) k10) k11) k12) k13) k14) k15) k16) k17) k18) k19) k20) k21) k22) k23) fk24) fk25) k26) k27) k28) k29) k30) k31)
theorem inst : Try.f6.isInstance Try.pinned.checked.prog Rows.treeSpansRow.origin Rows.treeSpansRow.targs := (of_decide_eq_true (by kernel_rfl))
theorem wrapped : Try.f6.isWrapper Try.pinned.checked.prog Rows.treeSpansRow.wrapper Rows.treeSpansRow.mainSum := by unfold Func.isWrapper; first | (rw [if_pos (by decide +kernel)]; kernel_rfl) | (rw [if_neg (by decide +kernel)]; exact ⟨rfl, rfl⟩)
theorem over : Rows.treeSpansRow.holds Try.pinned (OpenSpec.ofChange Rows.treeSpansSpec) :=
  OpenClaim.holds_of_wide 6 Try.f6 rfl rfl rfl rfl rfl rfl rfl ⟨rfl, rfl, rfl, rfl, rfl⟩ rfl rfl rfl rfl rfl named Try.func6 closed inst wrapped
    (fun os started H enc _ => lifted os started H enc)
end Go.Proofs.Ytljecfgfbebjiaa.treeSpans
namespace Go.Proofs.Ytljecfgfbebjiaa
theorem treeSpans_holds : Rows.TreeSpansSaid := treeSpans.over
end Go.Proofs.Ytljecfgfbebjiaa
