/- The judge's plain law. -/
import Derived.Test.YtbpgcejajdeafaaTyj
set_option linter.unusedVariables false
set_option linter.unusedSimpArgs false
open Go Go.RX Go.Proofs
namespace Go.RX
theorem twN_spec (l : List Cp) : ∀ (n k : Nat), k + n = l.length → (twN l n k = -1 ∧ ∀ j, k ≤ j → j < l.length → dupAt l j = false) ∨
    (∃ j, k ≤ j ∧ j < l.length ∧ dupAt l j = true ∧ (∀ i, k ≤ i → i < j → dupAt l i = false) ∧ twN l n k = (j : Int))
  | 0, k, h => .inl ⟨rfl, fun j h1 h2 => by omega⟩
  | n + 1, k, h => by
    rw [twN]
    by_cases hd : dupAt l k = true
    · rw [if_pos hd]
      exact .inr ⟨k, Nat.le_refl _, by omega, hd, fun i h1 h2 => by omega, rfl⟩
    · rw [if_neg hd]
      rw [Bool.not_eq_true] at hd
      rcases twN_spec l n (k + 1) (by omega) with ⟨h1, h2⟩ | ⟨j, h1, h2, h3, h4, h5⟩
      · exact .inl ⟨h1, fun j h3 h4 => by
          by_cases hj : j = k
          · subst hj; exact hd
          · exact h2 j (by omega) h4⟩
      · exact .inr ⟨j, by omega, h2, h3, fun i h6 h7 => by
          by_cases hi : i = k
          · subst hi; exact hd
          · exact h4 i (by omega) h7, h5⟩
theorem tw_spec (l : List Cp) : (tw l = -1 ∧ ∀ j, j < l.length → dupAt l j = false) ∨
    (∃ j, j < l.length ∧ dupAt l j = true ∧ (∀ i, i < j → dupAt l i = false) ∧ tw l = (j : Int)) := by
  rcases twN_spec l l.length 0 (by omega) with ⟨h1, h2⟩ | ⟨j, h1, h2, h3, h4, h5⟩
  · exact .inl ⟨h1, fun j hj => h2 j (Nat.zero_le _) hj⟩
  · exact .inr ⟨j, h2, h3, fun i hi => h4 i (Nat.zero_le _) hi, h5⟩
theorem tw_unique {l : List Cp} {j : Nat} (hj : j < l.length) (h1 : dupAt l j = true) (h2 : ∀ i, i < j → dupAt l i = false) : tw l = (j : Int) := by
  rcases tw_spec l with ⟨_, h3⟩ | ⟨i, h3, h4, h5, h6⟩
  · rw [h3 j hj] at h1; cases h1
  · rw [h6]
    rcases Nat.lt_trichotomy i j with h | h | h
    · rw [h2 i h] at h4; cases h4
    · rw [h]
    · rw [h5 j h] at h1; cases h1
theorem dupAt_zero (l : List Cp) : dupAt l 0 = false := by unfold dupAt; split <;> simp
theorem tw_range (l : List Cp) : -1 ≤ tw l ∧ tw l < l.length ∧ tw l ≠ 0 := by
  rcases tw_spec l with ⟨h, _⟩ | ⟨i, h3, h4, h5, h6⟩
  · rw [h]; omega
  · rw [h6]
    refine ⟨by omega, by omega, fun h => ?_⟩
    have : i = 0 := by omega
    subst this
    rw [dupAt_zero] at h4; cases h4
theorem dupAt_iff {l : List Cp} {k : Nat} {c : Cp} (h : l[k]? = some c) : dupAt l k = true ↔ 1 ≤ cn (l.take k) c.key := by
  simp only [dupAt, h, List.any_eq_true, decide_eq_true_eq, cn]
  rw [Nat.one_le_iff_ne_zero, Ne, List.countP_eq_zero]
  constructor
  · rintro ⟨d, h1, h2⟩ h3
    exact h3 d h1 (decide_eq_true h2)
  · intro h3
    rcases Classical.em (∃ x ∈ l.take k, x.key = c.key) with h4 | h4
    · exact h4
    · exact absurd (fun d h1 h2 => h4 ⟨d, h1, of_decide_eq_true h2⟩) h3
theorem cn_one {l : List Cp} (h : ∀ j, j < l.length → dupAt l j = false) (x : Ky) : ∀ k, k ≤ l.length → cn (l.take k) x ≤ 1
  | 0, _ => by simp [cn]
  | k + 1, hk => by
    have ih := cn_one h x k (by omega)
    have hx := List.getElem?_eq_getElem (show k < l.length by omega)
    rw [cn_succ hx]
    split
    · rename_i he
      have h1 := h k (by omega)
      have h2 : ¬ 1 ≤ cn (l.take k) x := fun h3 => by
        rw [← he] at h3
        rw [(dupAt_iff hx).2 h3] at h1; cases h1
      omega
    · omega
theorem cn_mono {l : List Cp} {x : Ky} (k : Nat) : cn (l.take k) x ≤ cn l x := by
  unfold cn
  conv => rhs; rw [← List.take_append_drop k l, List.countP_append]
  omega
theorem cn_mem {l : List Cp} {c : Cp} (h : c ∈ l) : 1 ≤ cn l c.key := by
  rw [Nat.one_le_iff_ne_zero, Ne, cn, List.countP_eq_zero]
  exact fun h1 => h1 c h (decide_eq_true rfl)
/-- Some are twice just if something is. -/
theorem many_iff (l : List Cp) : (∃ c ∈ l, 1 < cn l c.key) ↔ 0 ≤ tw l := by
  rcases tw_spec l with ⟨h1, h2⟩ | ⟨j, h3, h4, h5, h6⟩
  · rw [h1]
    constructor
    · rintro ⟨c, _, h⟩
      have := cn_one h2 c.key l.length (Nat.le_refl _)
      rw [List.take_length] at this
      omega
    · intro h; omega
  · rw [h6]
    refine ⟨fun _ => by omega, fun _ => ⟨l[j], List.getElem_mem _, ?_⟩⟩
    have hx := List.getElem?_eq_getElem h3
    have h7 := (dupAt_iff hx).1 h4
    have h8 := cn_mono (l := l) (x := l[j].key) (j + 1)
    rw [cn_succ hx, if_pos rfl] at h8
    omega
theorem dupAt_app {l : List Cp} {c : Cp} {j : Nat} (hj : j < l.length) : dupAt (l ++ [c]) j = dupAt l j := by
  unfold dupAt
  rw [List.getElem?_append_left hj, List.take_append_of_le_length (by omega)]
/-- One copy more is found. -/
theorem tw_app {l : List Cp} {c : Cp} (h : c ∈ l) : tw (l ++ [c]) = if 0 ≤ tw l then tw l else l.length := by
  rcases tw_spec l with ⟨h1, h2⟩ | ⟨j, h3, h4, h5, h6⟩
  · rw [h1, if_neg (by omega)]
    refine tw_unique (by simp) ?_ (fun i hi => by rw [dupAt_app hi]; exact h2 i hi)
    rw [dupAt_iff (c := c) (by simp), List.take_left]
    exact cn_mem h
  · rw [h6, if_pos (by omega)]
    exact tw_unique (by simp; omega) (by rw [dupAt_app h3]; exact h4) (fun i hi => by rw [dupAt_app (by omega)]; exact h5 i hi)
/-- The rest of a division, made positive. -/
theorem rem_pos {a n : Int} (hn : 0 < n) (hn' : n ≤ 1000) : 0 ≤ Int.tmod (IntKind.i64.wrap (Int.tmod a n + n)) n ∧ Int.tmod (IntKind.i64.wrap (Int.tmod a n + n)) n < n := by
  have h1 := Int.lt_tmod_of_pos a hn
  have h2 := Int.tmod_lt_of_pos a hn
  have h3 : IntKind.i64.wrap (Int.tmod a n + n) = Int.tmod a n + n := w64_small (by omega) (by omega)
  rw [h3]
  exact ⟨Int.tmod_nonneg _ (by omega), Int.tmod_lt_of_pos _ hn⟩
end Go.RX
