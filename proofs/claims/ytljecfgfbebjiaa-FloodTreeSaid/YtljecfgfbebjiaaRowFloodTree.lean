/- footway law FloodTree: it answers true, whatever its arguments. -/
import Derived.Test.YtljecfgfbebjiaaCvFloodTree
import Derived.Test.YtljecfgfbebjiaaRXr
import Derived.Test.YtljecfgfbebjiaaRows
import Derived.Test.YtljecfgfbebjiaaFct
import Derived.WalkKit
import Derived.ProofKit
import Derived.OpenShut
import Derived.ShutString
import Derived.ChangeOld
import Derived.Below
import Derived.SizedLaws
set_option linter.unusedVariables false
namespace Go.Proofs.Ytljecfgfbebjiaa.floodTree
open Go Go.RX Go.ChangeShapes Go.WideShapes Go.ChangeAt Go.RowKit
theorem own : ownKnob Try.prog.godebug = none := by kernel_rfl
theorem laidOut : laidOutB Try.prog = true := by kernel_rfl
set_option maxRecDepth 100000 in
theorem lifted (os : Os) (started : os.Started) (H : Type) (enc : TypeId × Value → H) :
    ReturnsInHanded {} Try.checked os 7 .any (Rows.floodTreeSpec.pre6 enc Try.prog Try.f7 Rows.floodTreeRow.domain false) (Rows.floodTreeSpec.post enc Try.prog Try.f7 false true false false) := by
  refine returnsInHanded_of_change_sized (C := Try.checked) own started (by kernel_rfl) Try.func7
    (ChangeSpec.witness6 (enc := enc) (C := Try.checked) false ⟨#[], #[.agg #[(.int .i64 0), (.slice none 0 0), (.slice none 0 0)], .int .i64 0, .int .i64 0, .int .i64 0], []⟩ 8 (by kernel_rfl) (by kernel_rfl) (by kernel_rfl) (by kernel_rfl)) ?_
  intro W base args ds gs before hval0 hW hcnd hsz0 _
  have hval : ∀ (j : Nat) t v, Try.f7.params[j]? = some t → args[j]? = some v → Value.okWide Try.prog W .any base t v := hval0
  have hW' := hW
  obtain ⟨p, q, hA0, hV, rfl, hfz, hnd⟩ := hW
  have hA : DataW.TrodAll enc Try.prog W 0 (fun _ => true) true Try.f7.params.toList args.toList ds p := hA0
  rw [Try.params7] at hA hval
  obtain ⟨v0, vs0, d0, ds0, p0, q0, hargs, rfl, rfl, h0, r0⟩ := trodAll_cons hA
  obtain ⟨v1, vs1, d1, ds1, p1, q1, rfl, rfl, rfl, h1, r1⟩ := trodAll_cons r0
  obtain ⟨v2, vs2, d2, ds2, p2, q2, rfl, rfl, rfl, h2, r2⟩ := trodAll_cons r1
  obtain ⟨v3, vs3, d3, ds3, p3, q3, rfl, rfl, rfl, h3, r3⟩ := trodAll_cons r2
  obtain ⟨rfl, rfl, rfl⟩ := trodAll_nil r3
  obtain rfl : args = #[v0, v1, v2, v3] := by cases args; simp_all
  obtain ⟨rfl, rfl⟩ := trodVars_none hV
  have lt0 : ∀ x ∈ p0, x.block < W.heap.size := by obtain ⟨m, hm⟩ := h0; exact DataW.trod_lt m _ _ _ hm
  have lt1 : ∀ x ∈ p1, x.block < W.heap.size := by obtain ⟨m, hm⟩ := h1; exact DataW.trod_lt m _ _ _ hm
  have lt2 : ∀ x ∈ p2, x.block < W.heap.size := by obtain ⟨m, hm⟩ := h2; exact DataW.trod_lt m _ _ _ hm
  have lt3 : ∀ x ∈ p3, x.block < W.heap.size := by obtain ⟨m, hm⟩ := h3; exact DataW.trod_lt m _ _ _ hm
  obtain ⟨l0, y0, n0, g0⟩ := argL TT_ok (fun _ => rfl) (n := 9) rfl (hval 0 25 v0 rfl rfl) h0
  obtain ⟨l1, y1, n1, g1⟩ := argL TT_ok (fun _ => rfl) (n := 9) rfl (hval 1 3 v1 rfl rfl) h1
  obtain ⟨l2, y2, n2, g2⟩ := argL TT_ok (fun _ => rfl) (n := 9) rfl (hval 2 3 v2 rfl rfl) h2
  obtain ⟨l3, y3, n3, g3⟩ := argL TT_ok (fun _ => rfl) (n := 9) rfl (hval 3 3 v3 rfl rfl) h3
  obtain ⟨_, _, rfl, ⟨a0_0, rfl, w0_0⟩, ⟨_, _, rfl, ⟨a0_1, rfl, l0_1, h0_1⟩, ⟨_, _, rfl, ⟨a0_2, rfl, l0_2, h0_2⟩, rfl⟩⟩⟩ := y0
  obtain ⟨a1_0, rfl, w1_0⟩ := y1
  obtain ⟨a2_0, rfl, w2_0⟩ := y2
  obtain ⟨a3_0, rfl, w3_0⟩ := y3
  clear hA0 hval0 hsz0
  refine (CallP.law (Go.RX.r_law17_FloodTree _ h0_1 h0_2 _ _ _) (.mkc g0 (.mkc g1 (.mkc g2 (.mkc g3 .mk0))))).mono fun e W' ⟨he, bel⟩ => ?_
  subst he
  exact ⟨_, rfl, _, _, _, [], _, [], hW', trodAll_mk1 (shut_bool Try.underlying4 _), (trodAll_cons_mk (Below.trod laidOut (by kernel_rfl) (of_decide_eq_true (by kernel_rfl)) h0 bel lt0) (trodAll_cons_mk (Below.trod laidOut (by kernel_rfl) (of_decide_eq_true (by kernel_rfl)) h1 bel lt1) (trodAll_cons_mk (Below.trod laidOut (by kernel_rfl) (of_decide_eq_true (by kernel_rfl)) h2 bel lt2) (trodAll_cons_mk (Below.trod laidOut (by kernel_rfl) (of_decide_eq_true (by kernel_rfl)) h3 bel lt3) trodAll_mk0)))), rfl, bel.frame _, fun h => by cases h⟩
theorem k0 : (Rows.floodTreeRow.wf (OpenSpec.ofChange Rows.floodTreeSpec)) = true := by kernel_rfl
theorem k3 : (Try.f7.params.all (Try.pinned.checked.prog.readableRec ·)) = true := by kernel_rfl
theorem k4 : (namedTie Try.pinned.checked.prog Rows.floodTreeRow.named Rows.floodTreeSpec.vars) = true := by kernel_rfl
theorem k5 : ((Rows.floodTreeRow.stops == [])) = true := by kernel_rfl
theorem k7 : ((Rows.floodTreeRow.knobs == [])) = true := by kernel_rfl
theorem k9 : ((Rows.floodTreeRow.inPlace == Try.pinned.checked.prog.inPlace 7)) = true := by kernel_rfl
theorem k10 : ((Rows.floodTreeRow.unfollowed == Try.pinned.checked.prog.unfollowed 7)) = true := by kernel_rfl
theorem k11 : ((Rows.floodTreeRow.recurses == Try.pinned.checked.prog.recurses 7)) = true := by kernel_rfl
theorem k12 : ((Rows.floodTreeRow.named == Try.pinned.checked.prog.varsNamed 7)) = true := by kernel_rfl
theorem k13 : ((Rows.floodTreeRow.maps == (Try.f7.params.toList ++ Rows.floodTreeSpec.plain.varTypes Try.pinned.checked.prog).any (Try.pinned.checked.prog.mapsRec ·))) = true := by kernel_rfl
theorem k14 : ((Rows.floodTreeRow.ifaces == (Try.f7.params.toList ++ Rows.floodTreeSpec.plain.varTypes Try.pinned.checked.prog).any (Try.pinned.checked.prog.ifacesRec ·))) = true := by kernel_rfl
theorem k15 : ((Rows.floodTreeRow.mapsOut == Try.pinned.checked.prog.mapsAmong Try.f7.resultTypes.toList)) = true := by kernel_rfl
theorem k16 : ((Rows.floodTreeRow.loops == (Try.f7.params.toList ++ Rows.floodTreeSpec.plain.varTypes Try.pinned.checked.prog).any (Try.pinned.checked.prog.loopsFrom ·))) = true := by kernel_rfl
theorem k17 : ((Rows.floodTreeRow.wideKeys == (Try.f7.params.toList ++ Rows.floodTreeSpec.plain.varTypes Try.pinned.checked.prog ++ Try.f7.resultTypes.toList).any (Try.pinned.checked.prog.wideKeysFrom ·))) = true := by kernel_rfl
theorem k18 : (Rows.floodTreeSpec.vars.all (Try.pinned.checked.prog.varReadable ·)) = true := by kernel_rfl
theorem k19 : (Try.f7.resultTypes.all (fun t => Try.pinned.checked.prog.readableRec t && decide (t < Try.pinned.checked.prog.types.size))) = true := by kernel_rfl
theorem k20 : ((Rows.floodTreeRow.ifacesOut == Try.f7.resultTypes.toList.any (Try.pinned.checked.prog.ifacesRec ·))) = true := by kernel_rfl
theorem k21 : ((Rows.floodTreeRow.loopsOut == Try.f7.resultTypes.toList.any (Try.pinned.checked.prog.loopsFrom ·))) = true := by kernel_rfl
theorem k22 : ((Rows.floodTreeRow.plainKeys == Try.pinned.checked.prog.plainKeys)) = true := by kernel_rfl
theorem k23 : (Rows.floodTreeRow.shortTexts.isNone) = true := by kernel_rfl
theorem k26 : ((Rows.floodTreeRow.lifted == Try.pinned.checked.prog.liftsFinal)) = true := by kernel_rfl
theorem k27 : ((Try.pinned.checked.prog.make == some Rows.floodTreeRow.make)) = true := by kernel_rfl
theorem k28 : ((Rows.floodTreeRow.kinds == (if Rows.floodTreeRow.domain.isEmpty then [] else Try.f7.params.toList.map fun t => match Try.pinned.checked.prog.underlying t with | some (.int k) => some k | _ => none))) = true := by kernel_rfl
theorem k29 : ((Rows.floodTreeRow.pinned == Rows.floodTreeRow.pinnedBy)) = true := by kernel_rfl
theorem k30 : ((Rows.floodTreeRow.veiled == (Try.f7.params.toList ++ Rows.floodTreeSpec.plain.varTypes Try.pinned.checked.prog ++ Try.f7.resultTypes.toList).any (Try.pinned.checked.prog.veiledRec ·))) = true := by kernel_rfl
theorem k31 : (Rows.floodTreeRow.veiledFits Try.pinned.checked.prog Try.f7.params.toList (Try.f7.params.toList ++ Rows.floodTreeSpec.plain.varTypes Try.pinned.checked.prog ++ Try.f7.resultTypes.toList)) = true := by kernel_rfl
theorem named : Try.pinned.checked.prog.funcNamed Rows.floodTreeRow.func = some 7 := by kernel_rfl
set_option maxRecDepth 100000 in
theorem closed : joinedFacts Try.pinned.checked.prog 7 Try.f7 Rows.floodTreeSpec Rows.floodTreeRow = true := (and2 (and2 (and2 (and2 (and2 (and2 (and2 (and2 (and2 (and2 (and2 (and2 (and2 (and2 (and2 (and2 (and2 (and2 (and2 (and2 (and2 (and2 (and2 (and2 (and2 (and2 (and2 (and2 (and2 (and2 (and2 k0 fk1) fk2) k3) k4) k5) fk6) k7) fk8) k9) k10) k11) k12) k13) k14) k15) k16) k17) k18) k19) k20) k21) k22) k23) fk24) fk25) k26) k27) k28) k29) k30) k31)
theorem inst : Try.f7.isInstance Try.pinned.checked.prog Rows.floodTreeRow.origin Rows.floodTreeRow.targs := (of_decide_eq_true (by kernel_rfl))
theorem wrapped : Try.f7.isWrapper Try.pinned.checked.prog Rows.floodTreeRow.wrapper Rows.floodTreeRow.mainSum := by unfold Func.isWrapper; first | (rw [if_pos (by decide +kernel)]; kernel_rfl) | (rw [if_neg (by decide +kernel)]; exact ⟨rfl, rfl⟩)
theorem over : Rows.floodTreeRow.holds Try.pinned (OpenSpec.ofChange Rows.floodTreeSpec) :=
  OpenClaim.holds_of_wide 7 Try.f7 rfl rfl rfl rfl rfl rfl rfl ⟨rfl, rfl, rfl, rfl, rfl⟩ rfl rfl rfl rfl rfl named Try.func7 closed inst wrapped
    (fun os started H enc _ => lifted os started H enc)
end Go.Proofs.Ytljecfgfbebjiaa.floodTree
namespace Go.Proofs.Ytljecfgfbebjiaa
theorem floodTree_holds : Rows.FloodTreeSaid := floodTree.over
end Go.Proofs.Ytljecfgfbebjiaa
