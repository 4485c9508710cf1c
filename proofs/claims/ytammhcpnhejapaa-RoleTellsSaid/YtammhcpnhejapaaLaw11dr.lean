/- The contract of footwaylaw11.RoleTells, for any cells. -/
import Derived.Test.YtammhcpnhejapaaLaw11d
import Derived.Test.YtammhcpnhejapaaCv11
set_option linter.unusedVariables false
open Go Go.RX Go.Proofs
namespace Go.RX
theorem c11r {i : Int} {cs us fs : List (List LV)} (h1 : ∀ r ∈ cs, tyC TT 4 3 r) (h2 : ∀ r ∈ us, tyC TT 4 4 r) (h3 : ∀ r ∈ fs, tyC TT 4 58 r) (p m : Int) :
    CallP Try.prog 11 [.agg [I i, .ro 1 cs, .ro 1 us, .ro 6 fs], I p, I m] (.bool true) := by
  obtain ⟨x, rfl⟩ := intsT h1
  obtain ⟨y, rfl⟩ := boolsT h2
  obtain ⟨z, rfl⟩ := infsT h3
  exact c11 ⟨i, x, y, z⟩ p m
end Go.RX
