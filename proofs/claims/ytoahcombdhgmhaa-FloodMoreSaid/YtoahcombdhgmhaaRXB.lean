/- RX, part B: a nil slice in a box is a row that is still empty. -/
import Derived.Test.YtoahcombdhgmhaaRXA
import Derived.Test.YtoahcombdhgmhaaSeq
set_option linter.unusedVariables false
namespace Go.RX
variable {P : Program}
theorem LoopW.virtB {n n0 : Nat} {c : Code} {Q : Exit → Slots → Heap → Prop} {s : Slots} {H : Heap} (b t e sz : Nat) (hs : look H.live b = some (.row t 1 [[.nils]])) (hb : Nat.ble (b + 1) H.nx = true)
    (h : LoopW P n n0 c Q s ⟨H.nx + 1, upd b (.row t 1 [[.sl H.nx 0 0]]) ((H.nx, .row e sz []) :: H.live)⟩) : LoopW P n n0 c Q s H := by
  have hb := Nat.le_of_ble_eq_true hb
  intro E0 w0 hn E w a hsr hr hx
  obtain ⟨E', hr', hx', hφ⟩ := relH_virt hr none e sz
  have hs' := hsr.ext hr hx'
  have hne : Nat.beq b H.nx = false := by
    cases hq : Nat.beq b H.nx with
    | false => rfl
    | true => have := Nat.eq_of_beq_eq_true hq; omega
  have hl : look ((H.nx, .row e sz []) :: H.live) b = some (.row t 1 [[.nils]]) := by
    simp only [look, hne]; exact hs
  have hr2 := relH_box hr' (cs' := [.sl H.nx 0 0]) hl rfl (fun k arr h1 h2 j y hj => by
    match j, hj with
    | 0, hj =>
      simp at hj; subst hj
      have hold : E.φ b = some (some k, 1) := by
        rcases hx'.old b (by rw [hr.nx]; exact hb) with h3 | h3
        · rw [h3] at h1; cases h1
        · rw [← h3]; exact h1
      rcases hr.row b t 1 _ hs with ⟨h4, _⟩ | ⟨k', arr', h4, h5, _, _, h8⟩
      · rw [hold] at h4; cases h4
      · rw [hold] at h4
        have hk : k = k' := by injection h4 with h4; injection h4 with h4 _; injection h4
        subst hk
        rw [h2] at h5
        have ha : arr = arr' := by injection h5 with h5; injection h5
        subst ha
        have h9 : G E w .nils (arr.getD 0 undef) := (h8 0 [.nils] rfl).2 0 .nils rfl
        generalize arr.getD 0 undef = v at h9
        cases h9
        exact .slV _ _ hφ)
  exact h E0 w0 hn E' w a hs' hr2 (hx.trans hx')
end Go.RX
