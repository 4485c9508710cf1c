/- VecBest, for any cells. -/
import Derived.Test.YtogomcndhipoeaaTym
import Derived.Test.YtogomcndhipoeaaRXr
set_option linter.unusedVariables false
open Go Go.RX Go.Proofs
namespace Go.RX
theorem vcT {n : Nat} {x : List LV} (h : tyC TT (n + 2) 31 x) : ∃ y : Vc, x = y.cells := by
  have h' : tyF (tyC TT (n + 1)) [(0, 3, true), (1, 3, true), (2, 3, true), (3, 3, true)] x := h
  obtain ⟨d1, s1, rfl, ⟨v1, rfl, _⟩, d2, s2, rfl, ⟨v2, rfl, _⟩, d3, s3, rfl, ⟨v3, rfl, _⟩, d4, s4, rfl, ⟨v4, rfl, _⟩, hs⟩ := h'
  have e1 : s4 = [] := hs
  subst e1
  exact ⟨⟨v1, v2, v3, v4⟩, rfl⟩
theorem vcsT {n : Nat} : ∀ {xs : List (List LV)}, (∀ r ∈ xs, tyC TT (n + 2) 31 r) → ∃ L : List Vc, xs = L.map Vc.cells
  | [], _ => ⟨[], rfl⟩
  | x :: r, h => by
    obtain ⟨b, hb⟩ := vcT (h x List.mem_cons_self)
    obtain ⟨L, hL⟩ := vcsT (xs := r) fun y hy => h y (List.mem_cons_of_mem _ hy)
    exact ⟨b :: L, by rw [hb, hL]; rfl⟩
theorem c3r {xs : List (List LV)} (h : ∀ r ∈ xs, tyC TT 8 31 r) : CallP Try.prog 3 [.ro 4 xs] (.bool true) := by
  obtain ⟨l, rfl⟩ := vcsT h
  exact c3 l
end Go.RX
