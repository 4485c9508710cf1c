/- Plain laws of the document's own root port. -/
import Derived.Test.YtammhcpnhejapaaPl11c
set_option linter.unusedVariables false
open Go Go.RX Go.Proofs
namespace Go.RX
theorem ltB_iff (v w : Vc) : ltB v w = true ↔ LtV v w := by
  unfold ltB LtV Lt4
  split
  · split
    · split
      · rw [decide_eq_true_eq]; omega
      · rw [decide_eq_true_eq]; omega
    · rw [decide_eq_true_eq]; omega
  · rw [decide_eq_true_eq]; omega
theorem farR_eq {v : Vc} {n : Int} (h : rgt v = true) (h1 : 1 ≤ n) (h2 : n ≤ 1000) : farR v n = far v n := by
  rw [(far_ok h h1 h2).1]
  have hr := (vRight_iff ..).1 h
  unfold Rt at hr
  have : w64 (v.c + n) = v.c + n := w64_small (by omega) (by omega)
  simp only [farR, this, mn]
/-- The best way, of the first ones. -/
def bestR (s : Slf) : Nat → Option Nat
  | 0 => none
  | k + 1 => match s.fs[k]? with
    | some x => if x.h = true then (match bestR s k with
        | none => some k
        | some q => if ltB (wy s k) (wy s q) = true then some k else some q) else bestR s k
    | none => bestR s k
theorem bestR_spec (s : Slf) : ∀ k, (bestR s k = none ∧ ∀ p, p < k → ¬ Told s p) ∨ ∃ q, bestR s k = some q ∧ q < k ∧ Told s q ∧ ∀ p, p < k → Told s p → ¬ LtV (wy s p) (wy s q) ∧ (p < q → LtV (wy s q) (wy s p))
  | 0 => .inl ⟨rfl, fun p h => absurd h (Nat.not_lt_zero _)⟩
  | k + 1 => by
    have ih := bestR_spec s k
    have keep : ¬ Told s k → bestR s (k + 1) = bestR s k → (bestR s (k + 1) = none ∧ ∀ p, p < k + 1 → ¬ Told s p) ∨ ∃ q, bestR s (k + 1) = some q ∧ q < k + 1 ∧ Told s q ∧ ∀ p, p < k + 1 → Told s p → ¬ LtV (wy s p) (wy s q) ∧ (p < q → LtV (wy s q) (wy s p)) := by
      intro hn e
      rw [e]
      rcases ih with ⟨h1, h2⟩ | ⟨q, h1, h2, h3, h4⟩
      · refine .inl ⟨h1, fun p hp hT => ?_⟩
        by_cases hpk : p = k
        · subst hpk; exact hn hT
        · exact h2 p (by omega) hT
      · refine .inr ⟨q, h1, by omega, h3, fun p hp hT => ?_⟩
        by_cases hpk : p = k
        · subst hpk; exact absurd hT hn
        · exact h4 p (by omega) hT
    cases hf : s.fs[k]? with
    | none => exact keep (fun ⟨x, h1, _⟩ => by rw [hf] at h1; cases h1) (by rw [bestR, hf])
    | some y =>
      cases hy : y.h with
      | false => exact keep (fun ⟨x, h1, h2⟩ => by rw [hf] at h1; cases h1; rw [hy] at h2; cases h2) (by rw [bestR, hf]; simp [hy])
      | true =>
        have hT : Told s k := ⟨y, hf, hy⟩
        right
        rcases ih with ⟨h1, h2⟩ | ⟨q, h1, h2, h3, h4⟩
        · have e : bestR s (k + 1) = some k := by rw [bestR, hf]; simp [hy, h1]
          refine ⟨k, e, by omega, hT, fun p hp hTp => ?_⟩
          by_cases hpk : p = k
          · subst hpk
            refine ⟨?_, fun h => absurd h (Nat.lt_irrefl _)⟩
            unfold LtV Lt4; omega
          · exact absurd hTp (h2 p (by omega))
        · by_cases hlt : ltB (wy s k) (wy s q) = true
          · have e : bestR s (k + 1) = some k := by rw [bestR, hf]; simp [hy, h1, hlt]
            rw [ltB_iff] at hlt
            refine ⟨k, e, by omega, hT, fun p hp hTp => ?_⟩
            by_cases hpk : p = k
            · subst hpk
              refine ⟨?_, fun h => absurd h (Nat.lt_irrefl _)⟩
              unfold LtV Lt4; omega
            · have := (h4 p (by omega) hTp).1
              unfold LtV Lt4 at *
              omega
          · have e : bestR s (k + 1) = some q := by rw [bestR, hf]; simp [hy, h1, hlt]
            rw [ltB_iff] at hlt
            refine ⟨q, e, by omega, h3, fun p hp hTp => ?_⟩
            by_cases hpk : p = k
            · subst hpk
              exact ⟨hlt, fun h => by omega⟩
            · exact h4 p (by omega) hTp
def rpR (s : Slf) : Option Nat := match bestR s s.fs.length with
  | none => none
  | some p => if (wy s p).r < s.i then some p else none
theorem rpR_eq {s : Slf} (hs : sOk s = true) : rpR s = rp s := by
  have hlen : ∀ p, Told s p → p < s.fs.length := fun p ⟨x, h1, _⟩ => (List.getElem?_eq_some_iff.1 h1).1
  unfold rpR
  rcases bestR_spec s s.fs.length with ⟨h1, h2⟩ | ⟨q, h1, h2, h3, h4⟩
  · rw [h1]
    rcases rp_spec hs with ⟨g1, _⟩ | ⟨p, g1, g2, _⟩
    · rw [g1]
    · exact absurd g2 (h2 p (hlen p g2))
  · rw [h1]
    simp only
    rcases rp_spec hs with ⟨g1, g2⟩ | ⟨p, g1, g2, g3, g4, g5⟩
    · rw [g1, if_neg]
      have := g2 q h3
      omega
    · rw [g1]
      have a1 := h4 p (hlen p g2) g2
      have a2 := g4 q h3
      have a3 := g5 q h3
      have hpq : p = q := by
        rcases Nat.lt_trichotomy p q with hlt | heq | hgt
        · exact absurd (a1.2 hlt) a2
        · exact heq
        · exact absurd (a3 hgt) a1.1
      subst hpq
      rw [if_pos g3]
end Go.RX
