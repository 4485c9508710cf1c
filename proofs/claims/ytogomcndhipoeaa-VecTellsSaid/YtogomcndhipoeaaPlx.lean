/- Sorting, plainly: two rows in order, side by side. -/
import Derived.Test.YtogomcndhipoeaaPlw
namespace Go.RX
variable {α : Type} {le : α → α → Prop}
theorem srt_last (refl : ∀ a, le a a) {A : List α} (h : Srt le A) {x z : α} (hx : x ∈ A) (hz : A.getLast? = some z) : le x z := by
  obtain ⟨i, hi, rfl⟩ := List.getElem_of_mem hx
  rw [List.getLast?_eq_getElem?] at hz
  obtain ⟨hl, rfl⟩ := List.getElem?_eq_some_iff.1 hz
  rcases Nat.lt_or_ge i (A.length - 1) with h1 | h1
  · exact List.pairwise_iff_getElem.1 h i (A.length - 1) hi hl h1
  · have : i = A.length - 1 := by omega
    subst this; exact refl _
theorem srt_head (refl : ∀ a, le a a) {B : List α} (h : Srt le B) {y w : α} (hy : y ∈ B) (hw : B.head? = some w) : le w y := by
  cases B with
  | nil => cases hy
  | cons b r =>
    cases hw
    rcases List.mem_cons.1 hy with rfl | h1
    · exact refl _
    · exact (List.pairwise_cons.1 h).1 y h1
theorem cross (refl : ∀ a, le a a) (trans : ∀ a b c, le a b → le b c → le a c) {A B : List α} (hA : Srt le A) (hB : Srt le B) (h : ∀ x y, A.getLast? = some x → B.head? = some y → le x y) : ∀ x ∈ A, ∀ y ∈ B, le x y := by
  intro x hx y hy
  cases hz : A.getLast? with
  | none => rw [List.getLast?_eq_none_iff] at hz; subst hz; cases hx
  | some z =>
    cases hw : B.head? with
    | none => rw [List.head?_eq_none_iff] at hw; subst hw; cases hy
    | some w => exact trans x z y (srt_last refl hA hx hz) (trans z w y (h z w hz hw) (srt_head refl hB hy hw))
theorem Mrg.two' (refl : ∀ a, le a a) (trans : ∀ a b c, le a b → le b c → le a c) {A1 A2 B1 B2 S1 S2 : List α} (h1 : Mrg le A1 B1 S1) (h2 : Mrg le A2 B2 S2)
    (c1 : ∀ x y, A1.getLast? = some x → B2.head? = some y → le x y) (c2 : ∀ x y, B1.getLast? = some x → A2.head? = some y → le x y) : Mrg le (A1 ++ A2) (B1 ++ B2) (S1 ++ S2) :=
  h1.two h2 fun hA hB => by
    obtain ⟨a1, a2, _⟩ := List.pairwise_append.1 hA
    obtain ⟨b1, b2, _⟩ := List.pairwise_append.1 hB
    exact ⟨cross refl trans a1 b2 c1, cross refl trans b1 a2 c2⟩
theorem Mrg.insL' (refl : ∀ a, le a a) (trans : ∀ a b c, le a b → le b c → le a c) {x : α} {B1 B2 : List α} (h1 : ∀ y, B1.getLast? = some y → le y x) (h2 : ∀ y, B2.head? = some y → le x y) : Mrg le [x] (B1 ++ B2) (B1 ++ x :: B2) :=
  .insL (fun hB y hy => by
      obtain ⟨b1, b2, _⟩ := List.pairwise_append.1 hB
      exact cross refl trans b1 (List.pairwise_singleton le x) (fun u v hu hv => by cases hv; exact h1 u hu) y hy x (List.mem_singleton_self x))
    (fun hB y hy => by
      obtain ⟨b1, b2, _⟩ := List.pairwise_append.1 hB
      exact cross refl trans (List.pairwise_singleton le x) b2 (fun u v hu hv => by cases hu; exact h2 v hv) x (List.mem_singleton_self x) y hy)
theorem Mrg.insR' (refl : ∀ a, le a a) (trans : ∀ a b c, le a b → le b c → le a c) {x : α} {A1 A2 : List α} (h1 : ∀ y, A1.getLast? = some y → le y x) (h2 : ∀ y, A2.head? = some y → le x y) : Mrg le (A1 ++ A2) [x] (A1 ++ x :: A2) :=
  .insR (fun hA y hy => by
      obtain ⟨b1, b2, _⟩ := List.pairwise_append.1 hA
      exact cross refl trans b1 (List.pairwise_singleton le x) (fun u v hu hv => by cases hv; exact h1 u hu) y hy x (List.mem_singleton_self x))
    (fun hA y hy => by
      obtain ⟨b1, b2, _⟩ := List.pairwise_append.1 hA
      exact cross refl trans (List.pairwise_singleton le x) b2 (fun u v hu hv => by cases hu; exact h2 v hv) x (List.mem_singleton_self x) y hy)
/-- A row's last, and its first, in a row that it is part of. -/
theorem last_at {X A Y : List α} {x : α} (h : A.getLast? = some x) : 1 ≤ A.length ∧ (X ++ (A ++ Y))[X.length + A.length - 1]? = some x := by
  rw [List.getLast?_eq_getElem?] at h
  have hl := (List.getElem?_eq_some_iff.1 h).1
  refine ⟨by omega, ?_⟩
  rw [List.getElem?_append_right (by omega), List.getElem?_append_left (by omega), ← h]
  congr 1; omega
theorem head_at {X B Y : List α} {y : α} (h : B.head? = some y) : 1 ≤ B.length ∧ (X ++ (B ++ Y))[X.length]? = some y := by
  cases B with
  | nil => cases h
  | cons b r =>
    cases h
    refine ⟨by simp, ?_⟩
    rw [List.getElem?_append_right (Nat.le_refl _), Nat.sub_self]
    rfl
end Go.RX
