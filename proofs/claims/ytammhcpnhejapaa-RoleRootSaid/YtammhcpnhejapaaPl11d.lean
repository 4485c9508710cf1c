/- Plain laws for RoleRoot. -/
import Derived.Test.YtammhcpnhejapaaPl11c
set_option linter.unusedVariables false
open Go Go.RX Go.Proofs
namespace Go.RX
def leastN (s : Slf) : Nat → Int
  | 0 => s.i
  | k + 1 => match s.fs[k]? with
    | some x => if x.h = true then mn (leastN s k) x.r else leastN s k
    | none => leastN s k
def rootsN (s : Slf) : Nat → Nat
  | 0 => 0
  | k + 1 => if rlAt s k = 0 then rootsN s k + 1 else rootsN s k
theorem rootsN_le (s : Slf) : ∀ k, rootsN s k ≤ k
  | 0 => Nat.le_refl _
  | k + 1 => by have := rootsN_le s k; rw [rootsN]; split <;> omega
theorem leastN_spec (s : Slf) : ∀ k, leastN s k ≤ s.i ∧ (∀ p x, p < k → s.fs[p]? = some x → x.h = true → leastN s k ≤ x.r) ∧ (leastN s k = s.i ∨ ∃ p x, p < k ∧ s.fs[p]? = some x ∧ x.h = true ∧ leastN s k = x.r)
  | 0 => ⟨Int.le_refl _, fun p x h => absurd h (Nat.not_lt_zero _), .inl rfl⟩
  | k + 1 => by
    obtain ⟨h1, h2, h3⟩ := leastN_spec s k
    have keep : (∀ x, s.fs[k]? = some x → x.h = false) → leastN s (k + 1) = leastN s k → leastN s (k + 1) ≤ s.i ∧ (∀ p x, p < k + 1 → s.fs[p]? = some x → x.h = true → leastN s (k + 1) ≤ x.r) ∧ (leastN s (k + 1) = s.i ∨ ∃ p x, p < k + 1 ∧ s.fs[p]? = some x ∧ x.h = true ∧ leastN s (k + 1) = x.r) := by
      intro hn e
      rw [e]
      refine ⟨h1, fun p x hp hx hh => ?_, ?_⟩
      · by_cases hpk : p = k
        · subst hpk; rw [hn x hx] at hh; cases hh
        · exact h2 p x (by omega) hx hh
      · rcases h3 with h3 | ⟨p, x, h4, h5, h6, h7⟩
        · exact .inl h3
        · exact .inr ⟨p, x, by omega, h5, h6, h7⟩
    cases hf : s.fs[k]? with
    | none => exact keep (fun x hx => by rw [hf] at hx; cases hx) (by rw [leastN, hf])
    | some y =>
      cases hy : y.h with
      | false => exact keep (fun x hx => by rw [hf] at hx; cases hx; exact hy) (by rw [leastN, hf]; simp [hy])
      | true =>
        have e : leastN s (k + 1) = mn (leastN s k) y.r := by rw [leastN, hf]; simp [hy]
        rw [e]
        unfold mn
        split
        · rename_i hlt
          refine ⟨by omega, fun p x hp hx hh => ?_, .inr ⟨k, y, by omega, hf, hy, rfl⟩⟩
          by_cases hpk : p = k
          · subst hpk; rw [hf] at hx; cases hx; exact Int.le_refl _
          · have := h2 p x (by omega) hx hh; omega
        · rename_i hlt
          refine ⟨h1, fun p x hp hx hh => ?_, ?_⟩
          · by_cases hpk : p = k
            · subst hpk; rw [hf] at hx; cases hx; omega
            · exact h2 p x (by omega) hx hh
          · rcases h3 with h3 | ⟨p, x, h4, h5, h6, h7⟩
            · exact .inl h3
            · exact .inr ⟨p, x, by omega, h5, h6, h7⟩
theorem wy_r {s : Slf} (hs : sOk s = true) {p : Nat} (h : Told s p) : ∃ x, s.fs[p]? = some x ∧ x.h = true ∧ (wy s p).r = x.r := by
  obtain ⟨n, x, u, hP, hx, _⟩ := h.port hs
  exact ⟨x, hP.fs, hx, by rw [hP.wy, (far_ok (hP.told hx).2.1 hP.n1 hP.n2).1]⟩
theorem least_root {s : Slf} (hs : sOk s = true) : (wv s (rp s)).r = leastN s s.fs.length := by
  obtain ⟨h1, h2, h3⟩ := leastN_spec s s.fs.length
  rcases rp_spec hs with ⟨e, g⟩ | ⟨q, e, hT, hr, g, _⟩
  · rw [e]
    simp only [wv]
    rcases h3 with h3 | ⟨p, x, h4, h5, h6, h7⟩
    · exact h3.symm
    · have hTp : Told s p := ⟨x, h5, h6⟩
      have := g p hTp
      obtain ⟨y, hy1, _, hy2⟩ := wy_r hs hTp
      rw [h5] at hy1; cases hy1
      omega
  · rw [e]
    simp only [wv]
    obtain ⟨y, hy1, hy3, hy2⟩ := wy_r hs hT
    have hle := h2 q y (List.getElem?_eq_some_iff.1 hy1).1 hy1 hy3
    rcases h3 with h3 | ⟨p, x, h4, h5, h6, h7⟩
    · omega
    · have hTp : Told s p := ⟨x, h5, h6⟩
      have := g p hTp
      obtain ⟨z, hz1, _, hz2⟩ := wy_r hs hTp
      rw [h5] at hz1; cases hz1
      unfold LtV Lt4 at this
      omega
theorem least_at {s : Slf} (hs : sOk s = true) : (0 ≤ atI (rp s)) ↔ leastN s s.fs.length < s.i := by
  rw [← least_root hs]
  rcases rp_spec hs with ⟨e, g⟩ | ⟨q, e, hT, hr, g, _⟩
  · rw [e]; simp only [atI, wv]; omega
  · rw [e]; simp only [atI, wv]; omega
theorem rlI_zero {s : Slf} {w : Option Nat} {p : Nat} {x : Inf} {u : Bool} : rlI s w p x u = 0 ↔ u = true ∧ (p : Int) = atI w := by
  unfold rlI
  split
  · rename_i h; subst h
    exact ⟨fun h => absurd h (by decide), fun h => Bool.noConfusion h.1⟩
  · rename_i h
    split
    · rename_i h2; exact ⟨fun _ => ⟨by simpa using h, h2⟩, fun _ => rfl⟩
    · rename_i h2
      refine ⟨fun h3 => ?_, fun h3 => absurd h3.2 h2⟩
      split at h3 <;> exact absurd h3 (by decide)
theorem role_root {s : Slf} (hs : sOk s = true) {p : Nat} (hp : p < s.cs.length) : rlAt s p = 0 ↔ (p : Int) = atI (rp s) := by
  obtain ⟨n, x, u, hP⟩ := sOk_port hs hp
  simp only [rlAt, hP.fs, hP.us]
  rw [rlI_zero]
  refine ⟨fun h => h.2, fun h => ⟨?_, h⟩⟩
  rcases rp_spec hs with ⟨e, g⟩ | ⟨q, e, hT, hr, g, _⟩
  · rw [e] at h; simp only [atI] at h; omega
  · rw [e] at h
    simp only [atI] at h
    have hpq : p = q := by omega
    subst hpq
    obtain ⟨n', x', u', hP', hx', _⟩ := hT.port hs
    have := hP'.us
    rw [hP.us] at this; cases this
    exact (hP'.told hx').1
theorem roots_one {s : Slf} (hs : sOk s = true) : ∀ k, k ≤ s.cs.length → (rootsN s k : Int) = if 0 ≤ atI (rp s) ∧ atI (rp s) < k then 1 else 0
  | 0, _ => by
    rw [if_neg (by omega)]; rfl
  | k + 1, hk => by
    have ih := roots_one hs k (by omega)
    have hr := role_root hs (p := k) (by omega)
    rw [rootsN]
    by_cases h0 : rlAt s k = 0
    · rw [if_pos h0]
      rw [hr] at h0
      rw [if_neg (by omega)] at ih
      rw [if_pos (by omega)]
      omega
    · rw [if_neg h0, ih]
      rw [hr] at h0
      by_cases h1 : 0 ≤ atI (rp s) ∧ atI (rp s) < k
      · rw [if_pos h1, if_pos (by omega)]
      · rw [if_neg h1, if_neg (by omega)]
end Go.RX
