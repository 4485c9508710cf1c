/- Plain laws of going farther. -/
import Derived.Test.YtammhcpnhejapaaPl04
set_option linter.unusedVariables false
open Go Go.RX Go.Proofs
namespace Go.RX
theorem near_bound (m : Int) : 0 ≤ IntKind.i64.wrap ((IntKind.u64.wrap m).tmod 1073741824) ∧ IntKind.i64.wrap ((IntKind.u64.wrap m).tmod 1073741824) < 1073741824 := by
  have h0 : 0 ≤ IntKind.u64.wrap m := by
    unfold IntKind.wrap
    simp only [IntKind.bits, IntKind.signed, Bool.false_and, Bool.false_eq_true, if_false]
    omega
  have h1 : 0 ≤ (IntKind.u64.wrap m).tmod 1073741824 := Int.tmod_nonneg _ h0
  have h2 : (IntKind.u64.wrap m).tmod 1073741824 < 1073741824 := Int.tmod_lt_of_pos _ (by decide)
  have := w64_small (x := (IntKind.u64.wrap m).tmod 1073741824) (by omega) (by omega)
  unfold w64 at this
  omega
theorem fErr_iff (r c b p k : Int) : fErr r c b p k = 0 ↔ Rt r c b p ∧ 0 ≤ k ∧ k ≤ 2147483647 := by
  simp only [fErr, fRight, ← vRight_iff]
  have hi : inB k 2147483647 = true ↔ 0 ≤ k ∧ k ≤ 2147483647 := by simp [inB]
  rw [← hi]
  cases vRight r c b p <;> cases inB k 2147483647 <;> decide
theorem fErr_one {r c b p k : Int} (h : ¬ fErr r c b p k = 0) : fErr r c b p k = 1 := by
  simp only [fErr] at *
  revert h
  cases fRight r c b p k
  · exact fun _ => rfl
  · exact fun h => (h rfl).elim
theorem vErr_one {r c b p r' c' b' p' : Int} (h : ¬ vErr r c b p r' c' b' p' = 0) : vErr r c b p r' c' b' p' = 1 := by
  simp only [vErr] at *
  revert h
  cases vRight r c b p <;> cases vRight r' c' b' p' <;> first | exact fun _ => rfl | exact fun h => (h rfl).elim
theorem fRight_of {r c b p k : Int} (h : fErr r c b p k = 0) : fRight r c b p k = true := by
  simp only [fErr] at h
  cases h2 : fRight r c b p k <;> simp_all
theorem fK_eq {r c b p k : Int} (h : fErr r c b p k = 0) (x : Int) : fK r c b p k x = x := by
  simp [fK, fRight_of h]
theorem fCost_eq {r c b p k : Int} (h : fErr r c b p k = 0) : fCost r c b p k = if 2147483647 < c + k then 2147483647 else c + k := by
  have h' := (fErr_iff ..).1 h
  unfold Rt at h'
  have := w64_small (x := c + k) (by omega) (by omega)
  simp only [fCost, fRight_of h, cond_true, this, mn]
theorem far_main {r c b p k n : Int} (h : fErr r c b p k = 0) (hk : 0 ≤ k ∧ k < 1073741824) (hn : 0 ≤ n ∧ n < 1073741824) :
    Rt r c b p ∧ c ≤ fCost r c b p k ∧ fErr r (fCost r c b p k) b p n = 0 ∧ fErr r c b p (IntKind.i64.wrap (k + n)) = 0 ∧
    fCost r (fCost r c b p k) b p n = fCost r c b p (IntKind.i64.wrap (k + n)) ∧ vErr r (fCost r c b p k) b p r c b p = 0 ∧ vBet r (fCost r c b p k) b p r c b p = false := by
  have h1 := (fErr_iff ..).1 h
  have e : IntKind.i64.wrap (k + n) = k + n := w64_small (by omega) (by omega)
  rw [e]
  have hc := fCost_eq h
  have h2 : Rt r (fCost r c b p k) b p := by
    unfold Rt at *
    split at hc <;> omega
  have h3 : fErr r (fCost r c b p k) b p n = 0 := (fErr_iff ..).2 ⟨h2, by omega, by omega⟩
  have h4 : fErr r c b p (k + n) = 0 := (fErr_iff ..).2 ⟨h1.1, by omega, by omega⟩
  have hc3 := fCost_eq h3
  have hc4 := fCost_eq h4
  have h1' := h1
  have h2' := h2
  unfold Rt at h1' h2'
  refine ⟨h1.1, by split at hc <;> omega, h3, h4, ?_, (vErr_iff ..).2 ⟨h2, h1.1⟩, ?_⟩
  · rw [hc3, hc4]
    split at hc <;> split <;> split <;> omega
  · rw [← Bool.not_eq_true, vBet_iff]
    unfold Lt4
    split at hc <;> omega
theorem far_b {r c b p k r' c' b' p' : Int} (h : fErr r c b p k = 0) (hk : 0 ≤ k ∧ k < 1073741824) :
    (vErr r c b p r' c' b' p' = 0 ↔ fErr r' c' b' p' k = 0) ∧ (vErr r c b p r' c' b' p' = 0 → vErr r' (fCost r' c' b' p' k) b' p' r (fCost r c b p k) b p = 0 ∧
      (vBet r c b p r' c' b' p' = true → vBet r' (fCost r' c' b' p' k) b' p' r (fCost r c b p k) b p = true → fCost r' c' b' p' k = 2147483647)) := by
  have h1 := (fErr_iff ..).1 h
  have hi : vErr r c b p r' c' b' p' = 0 ↔ fErr r' c' b' p' k = 0 := by
    rw [vErr_iff, fErr_iff]
    exact ⟨fun h => ⟨h.2, by omega, by omega⟩, fun h => ⟨h1.1, h.1⟩⟩
  refine ⟨hi, fun h2 => ?_⟩
  have h3 := hi.1 h2
  have h4 := (fErr_iff ..).1 h3
  have hc := fCost_eq h
  have hc' := fCost_eq h3
  have h1' := h1.1
  have h4' := h4.1
  unfold Rt at h1' h4'
  refine ⟨(vErr_iff ..).2 ⟨?_, ?_⟩, fun h5 h6 => ?_⟩
  · unfold Rt; split at hc' <;> omega
  · unfold Rt; split at hc <;> omega
  · rw [vBet_iff] at h5 h6
    have := h5.2.2
    have := h6.2.2
    unfold Lt4 at *
    split at hc <;> split at hc' <;> omega
end Go.RX
