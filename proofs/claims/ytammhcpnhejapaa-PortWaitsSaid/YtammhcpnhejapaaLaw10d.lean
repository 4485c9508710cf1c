/- The contract of footwaylaw10.PortWaits, for the cells of a slice of bools. -/
import Derived.Test.YtammhcpnhejapaaLaw10c
import Derived.Test.YtammhcpnhejapaaRXr
set_option linter.unusedVariables false
open Go Go.RX Go.Proofs
namespace Go.RX
theorem boolsOf : ∀ {xs : List (List LV)}, (∀ r ∈ xs, tyC TT 5 4 r) → ∃ L : List Bool, xs = L.map fun b => [LV.bool b]
  | [], _ => ⟨[], rfl⟩
  | x :: r, h => by
    obtain ⟨b, hb⟩ : ∃ b, x = [LV.bool b] := h x List.mem_cons_self
    obtain ⟨L, hL⟩ := boolsOf (xs := r) fun y hy => h y (List.mem_cons_of_mem _ hy)
    exact ⟨b :: L, by rw [hb, hL]; rfl⟩
theorem c7b (d : Int) (xs : List (List LV)) (h : ∀ r ∈ xs, tyC TT 5 4 r) : CallP Try.prog 7 [I d, .ro 1 xs] (.bool true) := by
  obtain ⟨L, rfl⟩ := boolsOf h
  exact c7 d L
end Go.RX
