/- StpAges, for any cells. -/
import Derived.Test.YtoahcombdhgmhaaTg
import Derived.Test.YtoahcombdhgmhaaSg
import Derived.Test.YtoahcombdhgmhaaRXr
set_option linter.unusedVariables false
set_option linter.unusedSimpArgs false
open Go Go.RX Go.Proofs
namespace Go.RX
set_option maxRecDepth 100000
theorem listT {α : Type} {C : α → List LV} {p : List LV → Prop} (h : ∀ x, p x → ∃ y, x = C y) : ∀ {xs : List (List LV)}, (∀ r ∈ xs, p r) → ∃ L : List α, xs = L.map C
  | [], _ => ⟨[], rfl⟩
  | x :: r, hx => by
    obtain ⟨b, hb⟩ := h x (hx x List.mem_cons_self)
    obtain ⟨L, hL⟩ := listT h (xs := r) fun y hy => hx y (List.mem_cons_of_mem _ hy)
    exact ⟨b :: L, by rw [hb, hL]; rfl⟩
theorem oc_3 {n : Nat} (x : List LV) (h : tyC TT (n + 1) 3 x) : ∃ y : Int, x = iC y := by
  obtain ⟨v, rfl, _⟩ := h
  exact ⟨v, rfl⟩
theorem oc_116 {n : Nat} (x : List LV) (h : tyC TT (n + 2) 116 x) : ∃ y : A4_Int, x = A4_Int.cells y := by
  have h' : tyA (tyC TT (n + 1) 3) 4 x := h
  obtain ⟨d0, s0, e0, h0, d1, s1, e1, h1, d2, s2, e2, h2, d3, s3, e3, h3, hs⟩ := h'
  have hs : s3 = [] := hs
  subst hs
  obtain ⟨y3, rfl⟩ := oc_3 (n := n + 0) _ h3
  obtain ⟨y2, rfl⟩ := oc_3 (n := n + 0) _ h2
  obtain ⟨y1, rfl⟩ := oc_3 (n := n + 0) _ h1
  obtain ⟨y0, rfl⟩ := oc_3 (n := n + 0) _ h0
  subst e3
  subst e2
  subst e1
  subst e0
  exact ⟨⟨y0, y1, y2, y3⟩, by simp⟩
theorem r_law12_StpAges (a0_0 : Int) {a1_0 : List (List LV)} (h1_0 : ∀ r ∈ a1_0, tyC TT 8 3 r) (a2_0 : Int) (a3_0 : Int) {a4_0 : List (List LV)} (h4_0 : ∀ r ∈ a4_0, tyC TT 8 116 r) : CallP Try.prog 10 [(I a0_0), (LV.ro 1 a1_0), (I a2_0), (I a3_0), (LV.ro 4 a4_0)] (.bool true) := by
  obtain ⟨z1_0, rfl⟩ := listT (C := iC) (oc_3 (n := 7)) h1_0
  obtain ⟨z4_0, rfl⟩ := listT (C := A4_Int.cells) (oc_116 (n := 6)) h4_0
  exact c_law12_StpAges a0_0 z1_0 a2_0 a3_0 z4_0 true (StpAges_true a0_0 z1_0 a2_0 a3_0 z4_0)
end Go.RX
