/- Plain laws of bridges that may be, and of their ways. -/
import Derived.Test.YtammhcpnhejapaaTyi
set_option linter.unusedVariables false
open Go Go.RX Go.Proofs
namespace Go.RX
theorem far_ok {v : Vc} {n : Int} (h : rgt v = true) (h1 : 1 ≤ n) (h2 : n ≤ 1000) :
    far v n = ⟨v.r, if 2147483647 < v.c + n then 2147483647 else v.c + n, v.b, v.p⟩ ∧ ferr v n = 0 ∧ rgt (far v n) = true := by
  have hr := (vRight_iff ..).1 h
  have he : ferr v n = 0 := (fErr_iff ..).2 ⟨hr, by omega, by omega⟩
  have hc := fCost_eq he
  have hf : far v n = ⟨v.r, if 2147483647 < v.c + n then 2147483647 else v.c + n, v.b, v.p⟩ := by
    simp only [far, fK_eq he, hc]
  refine ⟨hf, he, ?_⟩
  rw [hf]
  refine (vRight_iff ..).2 ?_
  unfold Rt at *
  refine ⟨hr.1, hr.2.1, ?_, hr.2.2.2⟩
  show 0 ≤ (if 2147483647 < v.c + n then 2147483647 else v.c + n) ∧ (if 2147483647 < v.c + n then 2147483647 else v.c + n) ≤ 2147483647
  split <;> omega
theorem ptsOk_at {s : Slf} : ∀ {n : Nat}, ptsOk s n = true → ∀ k, k < n → ptOk s k = true
  | 0, _, k, hk => absurd hk (Nat.not_lt_zero _)
  | n + 1, h, k, hk => by
    rw [ptsOk, Bool.and_eq_true] at h
    by_cases hkn : k = n
    · subst hkn; exact h.2
    · exact ptsOk_at h.1 k (by omega)
structure Port (s : Slf) (p : Nat) (n : Int) (x : Inf) (u : Bool) : Prop where
  cs : s.cs[p]? = some n
  fs : s.fs[p]? = some x
  us : s.us[p]? = some u
  n1 : 1 ≤ n
  n2 : n ≤ 1000
  ok : infOk x u = true
theorem sOk_hd {s : Slf} (h : sOk s = true) : hdOk s = true := by
  rw [sOk, Bool.and_eq_true] at h; exact h.1
theorem sOk_port {s : Slf} (h : sOk s = true) {p : Nat} (hp : p < s.cs.length) : ∃ n x u, Port s p n x u := by
  rw [sOk, Bool.and_eq_true] at h
  have := ptsOk_at h.2 p hp
  unfold ptOk at this
  split at this
  · rename_i n x u h1 h2 h3
    simp only [Bool.and_eq_true, decide_eq_true_eq] at this
    exact ⟨n, x, u, h1, h2, h3, this.1.1, this.1.2, this.2⟩
  · cases this
/-- A port that was told. -/
theorem Port.told {s : Slf} {p : Nat} {n : Int} {x : Inf} {u : Bool} (h : Port s p n x u) (hx : x.h = true) : u = true ∧ rgt x.v = true ∧ 0 ≤ x.a ∧ x.a ≤ 255 := by
  have := h.ok
  rw [infOk, iRight] at this
  split at this
  · rename_i h1
    simp only [Bool.and_eq_true, decide_eq_true_eq] at this
    exact ⟨h1.2, this.1, this.2.1, this.2.2⟩
  · simp only [decide_eq_true_eq] at this
    rw [this.1] at hx; cases hx
/-- The ports that were told, of the first ones. -/
def hps (fs : List Inf) : Nat → List Nat
  | 0 => []
  | k + 1 => match fs[k]? with
    | some x => if x.h = true then hps fs k ++ [k] else hps fs k
    | none => hps fs k
theorem hps_len (fs : List Inf) : ∀ k, (hps fs k).length ≤ k
  | 0 => Nat.le_refl _
  | k + 1 => by
    have := hps_len fs k
    simp only [hps]
    split
    · split
      · simp; omega
      · omega
    · omega
theorem mem_hps {fs : List Inf} {p : Nat} : ∀ {k : Nat}, p ∈ hps fs k ↔ p < k ∧ ∃ x, fs[p]? = some x ∧ x.h = true
  | 0 => by simp [hps]
  | k + 1 => by
    have ih := mem_hps (fs := fs) (p := p) (k := k)
    simp only [hps]
    split
    · rename_i x hx
      split
      · rename_i hh
        rw [List.mem_append, ih, List.mem_singleton]
        constructor
        · rintro (⟨h1, h2⟩ | rfl)
          · exact ⟨by omega, h2⟩
          · exact ⟨by omega, x, hx, hh⟩
        · rintro ⟨h1, h2⟩
          by_cases hpk : p = k
          · exact .inr hpk
          · exact .inl ⟨by omega, h2⟩
      · rename_i hh
        rw [ih]
        constructor
        · rintro ⟨h1, h2⟩; exact ⟨by omega, h2⟩
        · rintro ⟨h1, y, h2, h3⟩
          refine ⟨?_, y, h2, h3⟩
          by_cases hpk : p = k
          · subst hpk; rw [hx] at h2; cases h2; exact absurd h3 hh
          · omega
    · rename_i hx
      rw [ih]
      constructor
      · rintro ⟨h1, h2⟩; exact ⟨by omega, h2⟩
      · rintro ⟨h1, y, h2, h3⟩
        refine ⟨?_, y, h2, h3⟩
        by_cases hpk : p = k
        · subst hpk; rw [hx] at h2; cases h2
        · omega
def wy (s : Slf) (p : Nat) : Vc := match s.fs[p]?, s.cs[p]? with
  | some x, some n => far x.v n
  | _, _ => ⟨0, 0, 0, 0⟩
theorem Port.wy {s : Slf} {p : Nat} {n : Int} {x : Inf} {u : Bool} (h : Port s p n x u) : wy s p = far x.v n := by
  simp only [RX.wy, h.fs, h.cs]
abbrev wys (s : Slf) (k : Nat) : List Vc := (hps s.fs k).map (wy s)
theorem wys_right {s : Slf} (h : sOk s = true) {k : Nat} (hk : k ≤ s.cs.length) : (wys s k).all rgt = true := by
  rw [List.all_eq_true]
  intro v hv
  obtain ⟨p, hp, rfl⟩ := List.mem_map.1 hv
  obtain ⟨h1, x, h2, h3⟩ := mem_hps.1 hp
  obtain ⟨n, y, u, hq⟩ := sOk_port h (p := p) (by omega)
  have := hq.fs
  rw [h2] at this; cases this
  rw [hq.wy]
  exact (far_ok (hq.told h3).2.1 hq.n1 hq.n2).2.2
/-- The root port. -/
def rp (s : Slf) : Option Nat := match (hps s.fs s.fs.length)[bestN (wys s s.fs.length) (wys s s.fs.length).length]? with
  | some p => if (wy s p).r < s.i then some p else none
  | none => none
end Go.RX
