/- Plain laws of a bridge's root port. -/
import Derived.Test.YtammhcpnhejapaaTym
set_option linter.unusedVariables false
open Go Go.RX Go.Proofs
namespace Go.RX
def LtV (v w : Vc) : Prop := Lt4 v.r v.c v.b v.p w.r w.c w.b w.p
theorem bet_iff (v w : Vc) : bet v w = true ↔ rgt v = true ∧ rgt w = true ∧ LtV v w := by
  rw [bet, vBet_iff, rgt, rgt, vRight_iff, vRight_iff]; rfl
theorem bet_of {v w : Vc} (hv : rgt v = true) (hw : rgt w = true) : bet v w = true ↔ LtV v w := by
  rw [bet_iff]; exact ⟨fun h => h.2.2, fun h => ⟨hv, hw, h⟩⟩
theorem berr_of {v w : Vc} (hv : rgt v = true) (hw : rgt w = true) : berr v w = 0 := (vErr_iff ..).2 ⟨(vRight_iff ..).1 hv, (vRight_iff ..).1 hw⟩
theorem bestN_le (l : List Vc) : ∀ k, bestN l k ≤ k
  | 0 => Nat.le_refl _
  | k + 1 => by
    have := bestN_le l k
    simp only [bestN]
    split
    · split <;> omega
    · omega
theorem bestN_spec {l : List Vc} (hr : ∀ v ∈ l, rgt v = true) (h0 : 0 < l.length) : ∀ (k : Nat) (hk : k ≤ l.length) (j : Nat) (hj : j < k),
    ¬ LtV (l[j]'(by omega)) (l[bestN l k]'(bestN_lt h0 hk)) ∧ (j < bestN l k → LtV (l[bestN l k]'(bestN_lt h0 hk)) (l[j]'(by omega)))
  | 0, _, j, hj => absurd hj (Nat.not_lt_zero _)
  | k + 1, hk, j, hj => by
    have ih := bestN_spec hr h0 k (by omega)
    have hbl := bestN_lt h0 (k := k) (by omega)
    have hkl : k < l.length := by omega
    have hle := bestN_le l k
    have hst : bestN l (k + 1) = if bet l[k] l[bestN l k] = true then k else bestN l k := by
      simp only [bestN, List.getElem?_eq_getElem hkl, List.getElem?_eq_getElem hbl]
    have hb := bet_of (hr l[k] (List.getElem_mem hkl)) (hr l[bestN l k] (List.getElem_mem hbl))
    by_cases hc : bet l[k] l[bestN l k] = true
    · have e : bestN l (k + 1) = k := by rw [hst, if_pos hc]
      have hlt := hb.1 hc
      simp only [e]
      by_cases hjk : j = k
      · subst hjk
        refine ⟨?_, fun h => absurd h (Nat.lt_irrefl _)⟩
        unfold LtV Lt4; omega
      · have := ih j (by omega)
        unfold LtV Lt4 at *
        omega
    · have e : bestN l (k + 1) = bestN l k := by rw [hst, if_neg hc]
      rw [hb] at hc
      simp only [e]
      by_cases hjk : j = k
      · subst hjk
        exact ⟨hc, fun h => by omega⟩
      · exact ih j (by omega)
theorem hps_sorted (fs : List Inf) : ∀ k, (hps fs k).Pairwise (· < ·)
  | 0 => List.Pairwise.nil
  | k + 1 => by
    have ih := hps_sorted fs k
    simp only [hps]
    split
    · split
      · rw [List.pairwise_append]
        refine ⟨ih, List.pairwise_singleton _ _, fun a ha b hb => ?_⟩
        rw [List.mem_singleton] at hb
        have := (mem_hps.1 ha).1
        omega
      · exact ih
    · exact ih
def Told (s : Slf) (p : Nat) : Prop := ∃ x, s.fs[p]? = some x ∧ x.h = true
theorem rp_spec {s : Slf} (hs : sOk s = true) : (rp s = none ∧ ∀ p, Told s p → s.i ≤ (wy s p).r) ∨
    ∃ p, rp s = some p ∧ Told s p ∧ (wy s p).r < s.i ∧ (∀ q, Told s q → ¬ LtV (wy s q) (wy s p)) ∧ ∀ q, Told s q → q < p → LtV (wy s p) (wy s q) := by
  obtain ⟨hl1, hl2, hl3, hl4, hl5, hl6⟩ := hd_len (sOk_hd hs)
  have hmem : ∀ p, Told s p → p ∈ hps s.fs s.fs.length := fun p ⟨x, h1, h2⟩ => mem_hps.2 ⟨(List.getElem?_eq_some_iff.1 h1).1, x, h1, h2⟩
  have hR : ∀ v ∈ wys s s.fs.length, rgt v = true := List.all_eq_true.1 (wys_right hs (by omega))
  have hwl : (wys s s.fs.length).length = (hps s.fs s.fs.length).length := by simp [wys]
  by_cases h0 : 0 < (wys s s.fs.length).length
  · obtain ⟨b, hb⟩ : ∃ b, b = bestN (wys s s.fs.length) (wys s s.fs.length).length := ⟨_, rfl⟩
    have hbl : b < (wys s s.fs.length).length := by rw [hb]; exact bestN_lt h0 (Nat.le_refl _)
    have hsp : ∀ (j : Nat) (hj : j < (wys s s.fs.length).length), ¬ LtV ((wys s s.fs.length)[j]) ((wys s s.fs.length)[b]) ∧ (j < b → LtV ((wys s s.fs.length)[b]) ((wys s s.fs.length)[j])) := by
      subst hb; exact bestN_spec hR h0 _ (Nat.le_refl _)
    have hrp : rp s = match (hps s.fs s.fs.length)[bestN (wys s s.fs.length) (wys s s.fs.length).length]? with
      | some p => if (wy s p).r < s.i then some p else none
      | none => none := rfl
    rw [← hb] at hrp
    have hbp : b < (hps s.fs s.fs.length).length := by omega
    rw [List.getElem?_eq_getElem hbp] at hrp
    simp only at hrp
    have hat : ∀ (j : Nat) (hj : j < (hps s.fs s.fs.length).length), (wys s s.fs.length)[j]'(by omega) = wy s (hps s.fs s.fs.length)[j] := fun j hj => by simp [wys]
    have hT : Told s (hps s.fs s.fs.length)[b] := (mem_hps.1 (List.getElem_mem hbp)).2
    have hbest : ∀ q, Told s q → ¬ LtV (wy s q) (wy s (hps s.fs s.fs.length)[b]) ∧ (q < (hps s.fs s.fs.length)[b] → LtV (wy s (hps s.fs s.fs.length)[b]) (wy s q)) := by
      intro q hq
      obtain ⟨j, hj, hjq⟩ := List.getElem_of_mem (hmem q hq)
      have h1 := hsp j (by omega)
      rw [hat j hj, hat b hbp, hjq] at h1
      refine ⟨h1.1, fun hlt => h1.2 ?_⟩
      by_cases hjb : j < b
      · exact hjb
      · exfalso
        by_cases hjb' : j = b
        · subst hjb'; omega
        · have := List.pairwise_iff_getElem.1 (hps_sorted s.fs s.fs.length) b j hbp hj (by omega)
          omega
    by_cases hr : (wy s (hps s.fs s.fs.length)[b]).r < s.i
    · right
      exact ⟨_, by rw [hrp, if_pos hr], hT, hr, fun q hq => (hbest q hq).1, fun q hq => (hbest q hq).2⟩
    · left
      refine ⟨by rw [hrp, if_neg hr], fun q hq => ?_⟩
      have := (hbest q hq).1
      unfold LtV Lt4 at this
      omega
  · left
    have hnil : hps s.fs s.fs.length = [] := List.eq_nil_of_length_eq_zero (by omega)
    refine ⟨by rw [rp, hnil]; rfl, fun p hp => ?_⟩
    have := hmem p hp
    rw [hnil] at this; cases this
theorem Told.port {s : Slf} (hs : sOk s = true) {p : Nat} (h : Told s p) : ∃ n x u, Port s p n x u ∧ x.h = true ∧ p < s.cs.length := by
  obtain ⟨hl1, hl2, hl3, hl4, hl5, hl6⟩ := hd_len (sOk_hd hs)
  obtain ⟨x, h1, h2⟩ := h
  have hlt := (List.getElem?_eq_some_iff.1 h1).1
  obtain ⟨n, y, u, hP⟩ := sOk_port hs (p := p) (by omega)
  have := hP.fs
  rw [h1] at this; cases this
  exact ⟨n, x, u, hP, h2, by omega⟩
theorem Told.right {s : Slf} (hs : sOk s = true) {p : Nat} (h : Told s p) : rgt (wy s p) = true := by
  obtain ⟨n, x, u, hP, hx, _⟩ := h.port hs
  rw [hP.wy]
  exact (far_ok (hP.told hx).2.1 hP.n1 hP.n2).2.2
theorem tl_right {s : Slf} (hs : sOk s = true) {p : Int} (hp : 0 ≤ p ∧ p ≤ 7) : rgt (tlV s (rp s) p) = true := by
  obtain ⟨hl1, hl2, hl3, hl4, hl5, hl6⟩ := hd_len (sOk_hd hs)
  refine (vRight_iff ..).2 ?_
  simp only [tlV]
  rcases rp_spec hs with ⟨h1, _⟩ | ⟨q, h1, h2, _⟩
  · rw [h1]; unfold Rt; simp only [wv]; omega
  · rw [h1]
    have := (vRight_iff ..).1 (h2.right hs)
    simp only [wv]
    unfold Rt at *
    omega
end Go.RX
