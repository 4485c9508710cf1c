/- FdbForgets, for any cells. -/
import Derived.Test.YtknjenjjhdhemaaFl
import Derived.Test.YtknjenjjhdhemaaXF
import Derived.Test.YtknjenjjhdhemaaRXr
set_option linter.unusedVariables false
set_option linter.unusedSimpArgs false
open Go Go.RX Go.Proofs
namespace Go.RX
set_option maxRecDepth 100000
theorem listT {α : Type} {C : α → List LV} {p : List LV → Prop} (h : ∀ x, p x → ∃ y, x = C y) : ∀ {xs : List (List LV)}, (∀ r ∈ xs, p r) → ∃ L : List α, xs = L.map C
  | [], _ => ⟨[], rfl⟩
  | x :: r, hx => by
    obtain ⟨b, hb⟩ := h x (hx x List.mem_cons_self)
    obtain ⟨L, hL⟩ := listT h (xs := r) fun y hy => hx y (List.mem_cons_of_mem _ hy)
    exact ⟨b :: L, by rw [hb, hL]; rfl⟩
theorem oc_3 {n : Nat} (x : List LV) (h : tyC TT (n + 1) 3 x) : ∃ y : Int, x = iC y := by
  obtain ⟨v, rfl, _⟩ := h
  exact ⟨v, rfl⟩
theorem oc_78 {n : Nat} (x : List LV) (h : tyC TT (n + 2) 78 x) : ∃ y : A3_Int, x = A3_Int.cells y := by
  have h' : tyA (tyC TT (n + 1) 3) 3 x := h
  obtain ⟨d0, s0, e0, h0, d1, s1, e1, h1, d2, s2, e2, h2, hs⟩ := h'
  have hs : s2 = [] := hs
  subst hs
  obtain ⟨y2, rfl⟩ := oc_3 (n := n + 0) _ h2
  obtain ⟨y1, rfl⟩ := oc_3 (n := n + 0) _ h1
  obtain ⟨y0, rfl⟩ := oc_3 (n := n + 0) _ h0
  subst e2
  subst e1
  subst e0
  exact ⟨⟨y0, y1, y2⟩, by simp⟩
theorem r_law08_FdbForgets (a0_0 : Int) (a1_0 : Int) (a2_0 : Int) {a3_0 : List (List LV)} (h3_0 : ∀ r ∈ a3_0, tyC TT 8 78 r) : CallP Try.prog 7 [(I a0_0), (I a1_0), (I a2_0), (LV.ro 3 a3_0)] (.bool true) := by
  obtain ⟨z3_0, rfl⟩ := listT (C := A3_Int.cells) (oc_78 (n := 6)) h3_0
  exact c_law08_FdbForgets a0_0 a1_0 a2_0 z3_0 true (FdbForgets_true a0_0 a1_0 a2_0 z3_0)
end Go.RX
