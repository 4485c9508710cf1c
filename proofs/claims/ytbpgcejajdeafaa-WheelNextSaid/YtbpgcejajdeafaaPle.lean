/- The wheel's plain law. -/
import Derived.Test.YtbpgcejajdeafaaTyd
set_option linter.unusedVariables false
set_option linter.unusedSimpArgs false
open Go Go.RX Go.Proofs
namespace Go.RX
theorem stsOk_iff {l : List Tm} : ∀ {n : Nat}, stsOk l n = true ↔ ∀ k, k < n → stOk l k = true
  | 0 => ⟨fun _ k h => absurd h (Nat.not_lt_zero _), fun _ => rfl⟩
  | n + 1 => by
    rw [stsOk, Bool.and_eq_true, stsOk_iff (n := n)]
    constructor
    · rintro ⟨h1, h2⟩ k hk
      by_cases h : k = n
      · subst h; exact h2
      · exact h1 k (by omega)
    · exact fun h => ⟨fun k hk => h k (by omega), h n (by omega)⟩
theorem rOk_st {l : List Tm} (h : rOk l = true) {k : Nat} (hk : k < l.length) : stOk l k = true :=
  stsOk_iff.1 (Bool.and_eq_true_iff.1 h).1 k hk
theorem rOk_t {l : List Tm} (h : rOk l = true) {k : Nat} (hk : k < l.length) : tOk l[k] = true ∧ newId l k l[k].id = true := by
  have := rOk_st h hk
  rw [stOk, List.getElem?_eq_getElem hk] at this
  simp only [Bool.and_eq_true] at this
  exact this.1
theorem tOk_iff {t : Tm} : tOk t = true ↔ 0 ≤ t.id ∧ 0 ≤ t.at_ ∧ t.at_ ≤ 1099511627776 := by
  unfold tOk
  by_cases h1 : 0 ≤ t.id <;> by_cases h2 : 0 ≤ t.at_ <;> by_cases h3 : t.at_ ≤ 1099511627776 <;> simp [h1, h2, h3]
theorem rOk_ord {l : List Tm} (h : rOk l = true) {k : Nat} (hk : k + 1 < l.length) : ordI l[k] l[k + 1] < 0 := by
  have := rOk_st h hk
  rw [stOk, List.getElem?_eq_getElem hk] at this
  simp only [List.getElem?_eq_getElem (show k < l.length by omega), Bool.and_eq_true, decide_eq_true_eq] at this
  exact this.2
theorem ordI_at {a b : Tm} (h : ordI a b < 0) : a.at_ ≤ b.at_ := by
  unfold ordI cmpI' at h
  split at h
  · split at h <;> omega
  · revert h; split <;> (try split) <;> intro h <;> omega
theorem rOk_sort {l : List Tm} (h : rOk l = true) {j : Nat} : ∀ {k : Nat} (hjk : j ≤ k) (hk : k < l.length), l[j].at_ ≤ l[k].at_
  | 0, hjk, hk => by have : j = 0 := by omega
                     subst this; exact Int.le_refl _
  | k + 1, hjk, hk => by
    by_cases hj : j = k + 1
    · subst hj; exact Int.le_refl _
    · have := rOk_sort h (j := j) (k := k) (by omega) (by omega)
      have := ordI_at (rOk_ord h hk)
      omega
theorem rOk_drop {l : List Tm} (h : rOk l = true) (n : Nat) : rOk (l.drop n) = true := by
  have hl := rOk_len h
  rw [rOk, Bool.and_eq_true, decide_eq_true_eq]
  refine ⟨stsOk_iff.2 fun k hk => ?_, by rw [List.length_drop]; omega⟩
  rw [List.length_drop] at hk
  have h1 := rOk_t h (k := n + k) (by omega)
  have e : (l.drop n)[k]? = some l[n + k] := by rw [List.getElem?_drop, List.getElem?_eq_getElem (by omega)]
  rw [stOk, e]
  simp only [Bool.and_eq_true]
  refine ⟨⟨h1.1, newId_iff.2 fun j t hj ht => newId_iff.1 h1.2 (n + j) t (by omega) (by rw [← List.getElem?_drop]; exact ht)⟩, ?_⟩
  cases k with
  | zero => rfl
  | succ j =>
    have e2 : (l.drop n)[j]? = some l[n + j] := by rw [List.getElem?_drop, List.getElem?_eq_getElem (by omega)]
    simp only [e2, decide_eq_true_eq]
    exact rOk_ord h (k := n + j) (by omega)
theorem kD_due {l : List Tm} {now : Int} {k : Nat} (hk : k < l.length) (h : k < kD l now) : l[k].at_ ≤ now := by
  have := List.not_of_lt_findIdx h
  simp only [decide_eq_false_iff_not] at this
  omega
theorem kD_late {l : List Tm} {now : Int} (h : kD l now < l.length) : now < l[kD l now].at_ := by
  have h1 : (decide (now < l[kD l now].at_)) = true := List.findIdx_getElem (w := by show kD l now < _; omega)
  simpa using h1
theorem kD_rest {l : List Tm} (h : rOk l = true) {now : Int} {k : Nat} (hk : k < l.length) (hd : kD l now ≤ k) : now < l[k].at_ := by
  have h1 := kD_late (l := l) (now := now) (by omega)
  have := rOk_sort h hd hk
  omega
theorem kD_unique {l : List Tm} {now : Int} {n : Nat} (hn : n ≤ l.length) (h1 : ∀ k (hk : k < l.length), k < n → l[k].at_ ≤ now) (h2 : ∀ hk : n < l.length, now < l[n].at_) : kD l now = n := by
  rcases Nat.lt_trichotomy (kD l now) n with h | h | h
  · have := h1 (kD l now) (by omega) h
    have := kD_late (l := l) (now := now) (by omega)
    omega
  · exact h
  · have hl := kD_le l now
    have := h2 (by omega)
    have := kD_due (l := l) (now := now) (k := n) (by omega) h
    omega
theorem kD_mono {l : List Tm} {a b : Int} (h : a ≤ b) : kD l a ≤ kD l b := by
  rcases Nat.lt_or_ge (kD l b) (kD l a) with h1 | h1
  · have hl := kD_le l a
    have := kD_due (l := l) (now := a) (k := kD l b) (by omega) h1
    have := kD_late (l := l) (now := b) (by omega)
    omega
  · exact h1
theorem kD_drop {l : List Tm} {a b : Int} (h : a ≤ b) : kD (l.drop (kD l a)) b = kD l b - kD l a := by
  have hm := kD_mono (l := l) h
  have hl := kD_le l b
  refine kD_unique (by rw [List.length_drop]; omega) (fun k hk hkn => ?_) (fun hk => ?_)
  · rw [List.length_drop] at hk
    rw [List.getElem_drop]
    exact kD_due (by omega) (by omega)
  · rw [List.length_drop] at hk
    rw [List.getElem_drop]
    have := kD_late (l := l) (now := b) (by omega)
    simpa only [show kD l a + (kD l b - kD l a) = kD l b by omega] using this
/-- To go on in two steps leaves what one step leaves. -/
theorem two_rest {l : List Tm} {a b : Int} (h : a ≤ b) : (l.drop (kD l a)).drop (kD (l.drop (kD l a)) b) = l.drop (kD l b) := by
  have hm := kD_mono (l := l) h
  rw [kD_drop h, List.drop_drop]
  congr 1; omega
theorem two_due {l : List Tm} {a b : Int} (h : a ≤ b) : l.take (kD l a) ++ (l.drop (kD l a)).take (kD (l.drop (kD l a)) b) = l.take (kD l b) := by
  have hm := kD_mono (l := l) h
  have e : kD l b = kD l a + (kD l b - kD l a) := by omega
  rw [kD_drop h]
  conv => rhs; rw [e, List.take_add]
theorem next_ge {t : Tm} {l : List Tm} : 1 ≤ kD (t :: l) t.at_ := by
  rcases Nat.eq_zero_or_pos (kD (t :: l) t.at_) with h | h
  · exfalso
    have h1 := kD_late (l := t :: l) (now := t.at_) (by rw [h]; exact Nat.succ_pos _)
    simp only [h, List.getElem_cons_zero] at h1
    omega
  · exact h
theorem next_zero {t : Tm} {l : List Tm} : kD (t :: l) (t.at_ - 1) = 0 :=
  kD_unique (Nat.zero_le _) (fun k _ h => absurd h (Nat.not_lt_zero _)) (fun _ => by simp only [List.getElem_cons_zero]; omega)
theorem next_due {t : Tm} {l : List Tm} (h : rOk (t :: l) = true) {k : Nat} (hk : k < ((t :: l).take (kD (t :: l) t.at_)).length) : ((t :: l).take (kD (t :: l) t.at_))[k].at_ = t.at_ := by
  rw [List.length_take] at hk
  rw [List.getElem_take]
  have h1 := kD_due (l := t :: l) (now := t.at_) (k := k) (by omega) (by omega)
  have h2 := rOk_sort h (j := 0) (k := k) (Nat.zero_le _) (by omega)
  simp only [List.getElem_cons_zero] at h2
  omega
end Go.RX
