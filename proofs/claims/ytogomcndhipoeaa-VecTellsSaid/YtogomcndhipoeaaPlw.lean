/- Sorting, plainly: rows that change places. -/
import Derived.Test.YtogomcndhipoeaaPlv
namespace Go.RX
variable {α : Type}
/-- Two ranges change places. -/
def SW (l : List α) (a b k : Nat) (l' : List α) : Prop := l'.length = l.length ∧ ∀ q : Nat, l'[q]? = if a ≤ q ∧ q < a + k then l[b + (q - a)]? else if b ≤ q ∧ q < b + k then l[a + (q - b)]? else l[q]?
/-- Two neighbours change places. -/
def ROT (l : List α) (a m b : Nat) (l' : List α) : Prop := l'.length = l.length ∧ ∀ q : Nat, l'[q]? = if a ≤ q ∧ q < a + (b - m) then l[m + (q - a)]? else if a + (b - m) ≤ q ∧ q < b then l[a + (q - (a + (b - m)))]? else l[q]?
theorem SW.zero (l : List α) (a b : Nat) : SW l a b 0 l := ⟨rfl, fun q => by
  rw [if_neg (by omega), if_neg (by omega)]⟩
theorem SW.succ {l c : List α} {a b k : Nat} (h : SW l a b k c) {u v : α} (hab : a + k < b) (hu : c[a + k]? = some u) (hv : c[b + k]? = some v) :
    SW l a b (k + 1) ((c.set (a + k) v).set (b + k) u) ∧ l[a + k]? = some u ∧ l[b + k]? = some v := by
  have h1 := h.2 (a + k)
  rw [if_neg (by omega), if_neg (by omega), hu] at h1
  have h2 := h.2 (b + k)
  rw [if_neg (by omega), if_neg (by omega), hv] at h2
  have hlu := (List.getElem?_eq_some_iff.1 hu).1
  have hlv := (List.getElem?_eq_some_iff.1 hv).1
  refine ⟨⟨by simp [h.1], fun q => ?_⟩, h1.symm, h2.symm⟩
  rw [List.getElem?_set, List.getElem?_set, List.length_set]
  by_cases h3 : b + k = q
  · subst h3
    rw [if_pos rfl, if_pos hlv, if_neg (by omega), if_pos (by omega), show a + (b + k - b) = a + k by omega, ← h1]
  · rw [if_neg h3]
    by_cases h4 : a + k = q
    · subst h4
      rw [if_pos rfl, if_pos hlu, if_pos (by omega), show b + (a + k - a) = b + k by omega, ← h2]
    · rw [if_neg h4, h.2 q]
      by_cases h5 : a ≤ q ∧ q < a + k
      · rw [if_pos h5, if_pos (by omega)]
      · rw [if_neg h5]
        by_cases h6 : b ≤ q ∧ q < b + k
        · rw [if_pos h6, if_neg (by omega), if_pos (by omega)]
        · rw [if_neg h6, if_neg (by omega), if_neg (by omega)]
/-- Of a longer row in front its first part goes over. -/
theorem ROT.left {c c' t : List α} {m i j : Nat} (hi : i ≤ m) (hij : j < i) (h : ROT c (m - i) m (m + j) t) (hs : SW c (m - i) m j c') : ROT c' (m - (i - j)) m (m + j) t := by
  refine ⟨h.1.trans hs.1.symm, fun q => ?_⟩
  rw [h.2 q]
  have e1 : m + j - m = j := by omega
  simp only [e1]
  by_cases h1 : m - i ≤ q ∧ q < m - i + j
  · rw [if_pos h1, if_neg (by omega), if_neg (by omega), hs.2 q, if_pos h1]
  · rw [if_neg h1]
    by_cases h2 : m - i + j ≤ q ∧ q < m + j
    · rw [if_pos h2]
      by_cases h3 : q < m - i + j + j
      · rw [if_pos (by omega), hs.2, if_neg (by omega), if_pos (by omega)]
        congr 1; omega
      · rw [if_neg (by omega), if_pos (by omega), hs.2]
        by_cases h4 : m - (i - j) + (q - (m - (i - j) + j)) < m
        · rw [if_neg (by omega), if_neg (by omega)]
          congr 1; omega
        · rw [if_neg (by omega), if_pos (by omega)]
          congr 1; omega
    · rw [if_neg h2, if_neg (by omega), if_neg (by omega), hs.2 q, if_neg h1, if_neg (by omega)]
/-- Of a longer row behind its last part goes over. -/
theorem ROT.right {c c' t : List α} {m i j : Nat} (hi : i ≤ m) (hij : i < j) (h : ROT c (m - i) m (m + j) t) (hs : SW c (m - i) (m + j - i) i c') : ROT c' (m - i) m (m + (j - i)) t := by
  refine ⟨h.1.trans hs.1.symm, fun q => ?_⟩
  rw [h.2 q]
  have e1 : m + j - m = j := by omega
  have e2 : m + (j - i) - m = j - i := by omega
  simp only [e1, e2]
  by_cases h1 : m - i ≤ q ∧ q < m - i + j
  · rw [if_pos h1]
    by_cases h2 : q < m - i + (j - i)
    · rw [if_pos (by omega), hs.2, if_neg (by omega), if_neg (by omega)]
    · rw [if_neg (by omega), if_pos (by omega), hs.2, if_pos (by omega)]
      congr 1; omega
  · rw [if_neg h1]
    by_cases h2 : m - i + j ≤ q ∧ q < m + j
    · rw [if_pos h2, if_neg (by omega), if_neg (by omega), hs.2, if_neg (by omega), if_pos (by omega)]
      congr 1; omega
    · rw [if_neg h2, if_neg (by omega), if_neg (by omega), hs.2, if_neg (by omega), if_neg (by omega)]
theorem ROT.last {c c' t : List α} {m i : Nat} (hi : i ≤ m) (h : ROT c (m - i) m (m + i) t) (hs : SW c (m - i) m i c') : c' = t := by
  apply List.ext_getElem?
  intro q
  rw [h.2 q, hs.2 q]
  have e1 : m + i - m = i := by omega
  simp only [e1]
  by_cases h1 : m - i ≤ q ∧ q < m - i + i
  · rw [if_pos h1, if_pos h1]
  · rw [if_neg h1, if_neg h1]
    by_cases h2 : m ≤ q ∧ q < m + i
    · rw [if_pos h2, if_pos (by omega)]
      congr 1; omega
    · rw [if_neg h2, if_neg (by omega)]
theorem ROT.of (X A B Y : List α) : ROT (X ++ (A ++ (B ++ Y))) X.length (X.length + A.length) (X.length + A.length + B.length) (X ++ (B ++ (A ++ Y))) := by
  refine ⟨by simp only [List.length_append]; omega, fun q => ?_⟩
  have e1 : X.length + A.length + B.length - (X.length + A.length) = B.length := by omega
  simp only [e1]
  by_cases h0 : q < X.length
  · rw [if_neg (by omega), if_neg (by omega), List.getElem?_append_left h0, List.getElem?_append_left h0]
  · rw [List.getElem?_append_right (by omega)]
    by_cases h1 : q - X.length < B.length
    · rw [List.getElem?_append_left h1, if_pos (by omega), List.getElem?_append_right (by omega), List.getElem?_append_right (by omega), List.getElem?_append_left (by omega)]
      congr 1; omega
    · rw [List.getElem?_append_right (by omega), if_neg (by omega)]
      by_cases h2 : q - X.length - B.length < A.length
      · rw [List.getElem?_append_left h2, if_pos (by omega), List.getElem?_append_right (by omega), List.getElem?_append_left (by omega)]
        congr 1; omega
      · rw [List.getElem?_append_right (by omega), if_neg (by omega), List.getElem?_append_right (by omega), List.getElem?_append_right (by omega), List.getElem?_append_right (by omega)]
        congr 1; omega
theorem ROT.unique {l a b : List α} {x m y : Nat} (h : ROT l x m y a) (h' : ROT l x m y b) : a = b := List.ext_getElem? fun q => by rw [h.2, h'.2]
end Go.RX
