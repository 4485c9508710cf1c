/- A row turned round, plainly. -/
import Derived.Test.YtoahcombdhgmhaaMp
import Derived.Test.YtoahcombdhgmhaaLr
set_option linter.unusedVariables false
open Go Go.RX
namespace Go.RX
theorem slices_Reverse_int_len {a0 r : List Int} (h : slices_Reverse_int a0 = some r) : r.length = a0.length := by
  unfold slices_Reverse_int at h
  obtain ⟨o, h1, h2⟩ := aftS h
  have key : ∀ (fuel : Nat) (s : Int × Int × List Int) (o : Step (List Int) (Int × Int × List Int)), loopF fuel slices_Reverse_int_b21 s = some o → ∃ t, o = .nxt t ∧ t.2.2.length = s.2.2.length := by
    intro fuel
    induction fuel with
    | zero => intro s o h; cases h
    | succ n ih =>
      intro s o h
      simp only [loopF] at h
      obtain ⟨p, h3, h4⟩ := bindS h
      unfold slices_Reverse_int_b21 at h3
      cases hd : decide (s.1 < s.2.1) with
      | true =>
        rw [hd, cond_true] at h3
        obtain ⟨_, h3⟩ := grdS h3
        obtain ⟨_, _, h3⟩ := bindS h3
        obtain ⟨_, h3⟩ := grdS h3
        obtain ⟨_, _, h3⟩ := bindS h3
        obtain ⟨_, h3⟩ := grdS h3
        obtain ⟨_, h3⟩ := grdS h3
        obtain ⟨_, _, h3⟩ := bindS h3
        obtain rfl := Option.some.inj h3
        obtain ⟨t, t1, t2⟩ := ih _ _ h4
        exact ⟨t, t1, by rw [t2]; simp⟩
      | false =>
        rw [hd, cond_false] at h3
        obtain rfl := Option.some.inj h3
        exact ⟨_, (Option.some.inj h4).symm, rfl⟩
  obtain ⟨t, rfl, t2⟩ := key _ _ _ h1
  obtain rfl := Option.some.inj h2
  exact t2
end Go.RX
