/- The laws of the judge, for any cells. -/
import Derived.Test.YtbpgcejajdeafaaTyk
import Derived.Test.YtbpgcejajdeafaaRXr
set_option linter.unusedVariables false
open Go Go.RX Go.Proofs
namespace Go.RX
theorem cpT {n : Nat} {x : List LV} (h : tyC TT (n + 2) 26 x) : ∃ y : Cp, x = y.cells := by
  have h' : tyF (tyC TT (n + 1)) [(0, 3, true), (1, 3, true), (2, 3, true), (3, 3, true), (4, 9, true)] x := h
  obtain ⟨d1, s1, rfl, ⟨v1, rfl, _⟩, d2, s2, rfl, ⟨v2, rfl, _⟩, d3, s3, rfl, ⟨v3, rfl, _⟩, d4, s4, rfl, ⟨v4, rfl, _⟩, d5, s5, rfl, ⟨v5, rfl, _⟩, hs⟩ := h'
  have e1 : s5 = [] := hs
  subst e1
  exact ⟨⟨v1, v2, v3, v4, v5⟩, rfl⟩
theorem cpsT {n : Nat} : ∀ {xs : List (List LV)}, (∀ r ∈ xs, tyC TT (n + 2) 26 r) → ∃ L : List Cp, xs = L.map Cp.cells
  | [], _ => ⟨[], rfl⟩
  | x :: r, h => by
    obtain ⟨b, hb⟩ := cpT (h x List.mem_cons_self)
    obtain ⟨L, hL⟩ := cpsT (xs := r) fun y hy => h y (List.mem_cons_of_mem _ hy)
    exact ⟨b :: L, by rw [hb, hL]; rfl⟩
theorem c3r {xs : List (List LV)} (h : ∀ r ∈ xs, tyC TT 5 26 r) (k : Int) : CallP Try.prog 3 [.ro 5 xs, I k] (.bool true) := by
  obtain ⟨l, rfl⟩ := cpsT h
  exact c3 l k
end Go.RX
