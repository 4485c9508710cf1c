/- VecTells, for any cells. -/
import Derived.Test.YtogomcndhipoeaaTyr
import Derived.Test.YtogomcndhipoeaaCve
set_option linter.unusedVariables false
open Go Go.RX Go.Proofs
namespace Go.RX
theorem c4r {r c b p r' c' b' p' n : Int} {xs : List (List LV)} (h : ∀ r ∈ xs, tyC TT 8 31 r) : CallP Try.prog 4 [.agg [I r, I c, I b, I p], .agg [I r', I c', I b', I p'], .int .i64 n, .ro 4 xs] (.bool true) := by
  obtain ⟨l, rfl⟩ := vcsT h
  exact c4 ⟨r, c, b, p⟩ ⟨r', c', b', p'⟩ n l
end Go.RX
