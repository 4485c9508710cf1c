/- RX, part u: a loop by a measure. -/
import Derived.Test.YtljecfgfbebjiaaRXs
set_option linter.unusedVariables false
namespace Go.RX
theorem LoopW.ind {P : Program} {n n0 : Nat} {c : Code} {Q : Exit → Slots → Heap → Prop} {α : Type} (μ : α → Nat) (J : α → Slots → Heap → Prop)
  (step : ∀ a s H, J a s H → (∀ b s' H', J b s' H' → μ b < μ a → LoopW P n n0 c Q s' H') → LoopW P n n0 c Q s H) {a : α} {s : Slots} {H : Heap} (h : J a s H) : LoopW P n n0 c Q s H := by
 have key : ∀ (k : Nat) (a : α) (s : Slots) (H : Heap), μ a < k → J a s H → LoopW P n n0 c Q s H := by
  intro k
  induction k with
  | zero => intro a s H hk; omega
  | succ k ih => exact fun a s H hk hJ => step a s H hJ fun b s' H' hb hlt => ih b s' H' (by omega) hb
 exact key _ a s H (Nat.lt_succ_self _) h
end Go.RX
