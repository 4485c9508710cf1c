/- Plain laws of the order of vecs. -/
import Derived.Test.YtogomcndhipoeaaTyb
set_option linter.unusedVariables false
open Go Go.RX Go.Proofs
namespace Go.RX
def Rt (r c b p : Int) : Prop := (0 ≤ r ∧ r ≤ 65535) ∧ (0 ≤ b ∧ b ≤ 65535) ∧ (0 ≤ c ∧ c ≤ 2147483647) ∧ 0 ≤ p ∧ p ≤ 7
theorem vRight_iff (r c b p : Int) : vRight r c b p = true ↔ Rt r c b p := by
  simp only [vRight, Rt, Bool.and_eq_true, decide_eq_true_eq, and_assoc]
theorem w64_small {x : Int} (h : -9223372036854775808 ≤ x) (h' : x ≤ 9223372036854775807) : w64 x = x := by
  have hm : x % 18446744073709551616 = if 0 ≤ x then x else x + 18446744073709551616 := by split <;> omega
  unfold w64 IntKind.wrap
  simp only [IntKind.bits, IntKind.signed, Bool.true_and, ge_iff_le, decide_eq_true_eq, Int.reducePow, hm, Nat.reduceSub]
  split <;> split <;> omega
def Lt4 (r c b p r' c' b' p' : Int) : Prop := r < r' ∨ r = r' ∧ (c < c' ∨ c = c' ∧ (b < b' ∨ b = b' ∧ p < p'))
theorem rank_iff {r c b p r' c' b' p' : Int} (h : Rt r c b p) (h' : Rt r' c' b' p') : rankL r c b p r' c' b' p' < 0 ↔ Lt4 r c b p r' c' b' p' := by
  unfold Rt at h h'
  unfold rankL Lt4
  rw [w64_small (by omega) (by omega), w64_small (by omega) (by omega), w64_small (by omega) (by omega), w64_small (by omega) (by omega)]
  simp only [orL]
  split
  · split
    · split
      · split <;> omega
      · omega
    · omega
  · omega
theorem vBet_iff (r c b p r' c' b' p' : Int) : vBet r c b p r' c' b' p' = true ↔ Rt r c b p ∧ Rt r' c' b' p' ∧ Lt4 r c b p r' c' b' p' := by
  simp only [vBet, Bool.and_eq_true, vRight_iff, decide_eq_true_eq, and_assoc]
  constructor
  · rintro ⟨h1, h2, h3⟩; exact ⟨h1, h2, (rank_iff h1 h2).1 h3⟩
  · rintro ⟨h1, h2, h3⟩; exact ⟨h1, h2, (rank_iff h1 h2).2 h3⟩
theorem vErr_iff (r c b p r' c' b' p' : Int) : vErr r c b p r' c' b' p' = 0 ↔ Rt r c b p ∧ Rt r' c' b' p' := by
  simp only [vErr, ← vRight_iff]
  cases vRight r c b p <;> cases vRight r' c' b' p' <;> simp
theorem vErr_comm (r c b p r' c' b' p' : Int) : vErr r' c' b' p' r c b p = vErr r c b p r' c' b' p' := by
  simp only [vErr, Bool.and_comm]
theorem vBet_off {r c b p r' c' b' p' : Int} (h : ¬ vErr r c b p r' c' b' p' = 0) : vBet r c b p r' c' b' p' = false := by
  rw [vErr_iff] at h
  rw [← Bool.not_eq_true, vBet_iff]
  exact fun h' => h ⟨h'.1, h'.2.1⟩
theorem vBet_asym {r c b p r' c' b' p' : Int} (h : vBet r c b p r' c' b' p' = true) : vBet r' c' b' p' r c b p = false := by
  rw [← Bool.not_eq_true, vBet_iff]
  rw [vBet_iff] at h
  unfold Lt4 at *
  omega
theorem vBet_total {r c b p r' c' b' p' : Int} (h : vErr r c b p r' c' b' p' = 0) (h1 : vBet r c b p r' c' b' p' = false) (h2 : vBet r' c' b' p' r c b p = false) : r = r' ∧ c = c' ∧ b = b' ∧ p = p' := by
  rw [vErr_iff] at h
  rw [← Bool.not_eq_true, vBet_iff] at h1 h2
  simp only [h, true_and, Lt4] at h1 h2
  omega
theorem vBet_irrefl (r c b p : Int) : vBet r c b p r c b p = false := by
  rw [← Bool.not_eq_true, vBet_iff]
  unfold Lt4
  omega
theorem vBet_trans {r c b p r' c' b' p' r2 c2 b2 p2 : Int} (h : vBet r c b p r' c' b' p' = true) (h' : vBet r' c' b' p' r2 c2 b2 p2 = true) : vBet r c b p r2 c2 b2 p2 = true := by
  rw [vBet_iff] at *
  unfold Lt4 at *
  refine ⟨h.1, h'.2.1, ?_⟩
  omega
theorem vErr_trans {r c b p r' c' b' p' r2 c2 b2 p2 : Int} (h : vErr r c b p r' c' b' p' = 0) (h' : vErr r' c' b' p' r2 c2 b2 p2 = 0) : vErr r c b p r2 c2 b2 p2 = 0 := by
  rw [vErr_iff] at *
  exact ⟨h.1, h'.2⟩
end Go.RX
