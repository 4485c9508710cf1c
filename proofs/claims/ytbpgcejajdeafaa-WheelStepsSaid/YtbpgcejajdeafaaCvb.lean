/- The laws of the wheel, for any cells. -/
import Derived.Test.YtbpgcejajdeafaaTyf
import Derived.Test.YtbpgcejajdeafaaRXr
set_option linter.unusedVariables false
open Go Go.RX Go.Proofs
namespace Go.RX
theorem tmT {n : Nat} {x : List LV} (h : tyC TT (n + 2) 41 x) : ∃ y : Tm, x = y.cells := by
  have h' : tyF (tyC TT (n + 1)) [(0, 3, true), (1, 3, true)] x := h
  obtain ⟨d1, s1, rfl, ⟨v1, rfl, _⟩, d2, s2, rfl, ⟨v2, rfl, _⟩, hs⟩ := h'
  have e1 : s2 = [] := hs
  subst e1
  exact ⟨⟨v1, v2⟩, rfl⟩
theorem tmsT {n : Nat} : ∀ {xs : List (List LV)}, (∀ r ∈ xs, tyC TT (n + 2) 41 r) → ∃ L : List Tm, xs = L.map Tm.cells
  | [], _ => ⟨[], rfl⟩
  | x :: r, h => by
    obtain ⟨b, hb⟩ := tmT (h x List.mem_cons_self)
    obtain ⟨L, hL⟩ := tmsT (xs := r) fun y hy => h y (List.mem_cons_of_mem _ hy)
    exact ⟨b :: L, by rw [hb, hL]; rfl⟩
theorem c5r {xs : List (List LV)} (h : ∀ r ∈ xs, tyC TT 5 41 r) : CallP Try.prog 5 [.ro 2 xs] (.bool true) := by
  obtain ⟨l, rfl⟩ := tmsT h
  exact c5 l
theorem c4r {xs : List (List LV)} (h : ∀ r ∈ xs, tyC TT 5 41 r) (a b : Int) : CallP Try.prog 4 [.ro 2 xs, I a, I b] (.bool true) := by
  obtain ⟨l, rfl⟩ := tmsT h
  exact c4 l a b
end Go.RX
