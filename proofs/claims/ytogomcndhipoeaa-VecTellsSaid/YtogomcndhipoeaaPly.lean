/- Sorting, plainly: one by one. -/
import Derived.Test.YtogomcndhipoeaaPlx
namespace Go.RX
variable {α : Type} {le : α → α → Prop}
theorem at_left {X A Y : List α} {i : Nat} {u : α} (h : A[i]? = some u) : (X ++ (A ++ Y))[X.length + i]? = some u := by
  have hi := (List.getElem?_eq_some_iff.1 h).1
  rw [List.getElem?_append_right (by omega), List.getElem?_append_left (by omega), ← h]
  congr 1; omega
theorem set_mid (X P Z : List α) (n : Nat) (v : α) : (X ++ (P ++ Z)).set (X.length + P.length + n) v = X ++ (P ++ Z.set n v) := by
  rw [List.set_append, if_neg (by omega), List.set_append, if_neg (by omega), show X.length + P.length + n - X.length - P.length = n by omega]
theorem swap_adj (X P R : List α) (x y : α) : ((X ++ (P ++ (y :: x :: R))).set (X.length + P.length + 1) y).set (X.length + P.length + 0) x = X ++ (P ++ (x :: y :: R)) := by
  rw [set_mid, set_mid]
  rfl
/-- One that went down to its place. -/
theorem ins_one (refl : ∀ a, le a a) (trans : ∀ a b c, le a b → le b c → le a c) {P Q : List α} {x : α} (h : Srt le (P ++ Q)) (h1 : ∀ y, P.getLast? = some y → le y x) (h2 : ∀ q ∈ Q, le x q) : Srt le (P ++ x :: Q) := by
  obtain ⟨b1, b2, b3⟩ := List.pairwise_append.1 h
  refine srt_append b1 (List.pairwise_cons.2 ⟨h2, b2⟩) fun u hu v hv => ?_
  rcases List.mem_cons.1 hv with rfl | hv
  · exact cross refl trans b1 (List.pairwise_singleton le v) (fun s t hs ht => by cases ht; exact h1 s hs) u hu v (List.mem_singleton_self v)
  · exact b3 u hu v hv
end Go.RX
