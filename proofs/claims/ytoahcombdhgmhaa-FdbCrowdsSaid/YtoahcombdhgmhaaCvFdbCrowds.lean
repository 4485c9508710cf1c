/- FdbCrowds, for any cells. -/
import Derived.Test.YtoahcombdhgmhaaUd
import Derived.Test.YtoahcombdhgmhaaVe
import Derived.Test.YtoahcombdhgmhaaRXr
set_option linter.unusedVariables false
set_option linter.unusedSimpArgs false
open Go Go.RX Go.Proofs
namespace Go.RX
set_option maxRecDepth 100000
theorem listT {α : Type} {C : α → List LV} {p : List LV → Prop} (h : ∀ x, p x → ∃ y, x = C y) : ∀ {xs : List (List LV)}, (∀ r ∈ xs, p r) → ∃ L : List α, xs = L.map C
  | [], _ => ⟨[], rfl⟩
  | x :: r, hx => by
    obtain ⟨b, hb⟩ := h x (hx x List.mem_cons_self)
    obtain ⟨L, hL⟩ := listT h (xs := r) fun y hy => hx y (List.mem_cons_of_mem _ hy)
    exact ⟨b :: L, by rw [hb, hL]; rfl⟩
theorem oc_3 {n : Nat} (x : List LV) (h : tyC TT (n + 1) 3 x) : ∃ y : Int, x = iC y := by
  obtain ⟨v, rfl, _⟩ := h
  exact ⟨v, rfl⟩
theorem r_law08_FdbCrowds (a0_0 : Int) (a1_0 : Int) (a2_0 : Int) {a3_0 : List (List LV)} (h3_0 : ∀ r ∈ a3_0, tyC TT 8 3 r) (a4_0 : Int) (a5_0 : Int) : CallP Try.prog 4 [(I a0_0), (I a1_0), (I a2_0), (LV.ro 1 a3_0), (I a4_0), (I a5_0)] (.bool true) := by
  obtain ⟨z3_0, rfl⟩ := listT (C := iC) (oc_3 (n := 7)) h3_0
  exact c_law08_FdbCrowds a0_0 a1_0 a2_0 z3_0 a4_0 a5_0 true (FdbCrowds_true a0_0 a1_0 a2_0 z3_0 a4_0 a5_0)
end Go.RX
