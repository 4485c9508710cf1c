/- JudgeSums, for any cells. -/
import Derived.Test.YtbpgcejajdeafaaTyp
import Derived.Test.YtbpgcejajdeafaaCvc
set_option linter.unusedVariables false
open Go Go.RX Go.Proofs
namespace Go.RX
theorem listT {α : Type} {C : α → List LV} {p : List LV → Prop} (h : ∀ x, p x → ∃ y, x = C y) : ∀ {xs : List (List LV)}, (∀ r ∈ xs, p r) → ∃ L : List α, xs = L.map C
  | [], _ => ⟨[], rfl⟩
  | x :: r, hx => by
    obtain ⟨b, hb⟩ := h x (hx x List.mem_cons_self)
    obtain ⟨L, hL⟩ := listT h (xs := r) fun y hy => hx y (List.mem_cons_of_mem _ hy)
    exact ⟨b :: L, by rw [hb, hL]; rfl⟩
theorem lkT {n : Nat} (x : List LV) (h : tyC TT (n + 2) 97 x) : ∃ y : Lk, x = y.cells := by
  have h' : tyF (tyC TT (n + 1)) [(0, 3, true), (1, 3, true), (2, 4, true)] x := h
  obtain ⟨d1, s1, rfl, ⟨v1, rfl, _⟩, d2, s2, rfl, ⟨v2, rfl, _⟩, d3, s3, rfl, ⟨v3, rfl⟩, hs⟩ := h'
  have e1 : s3 = [] := hs
  subst e1
  exact ⟨⟨v1, v2, v3⟩, rfl⟩
theorem hsT {n : Nat} (x : List LV) (h : tyC TT (n + 2) 52 x) : ∃ y : Hs, x = y.cells := by
  have h' : tyF (tyC TT (n + 1)) [(0, 3, true), (1, 3, true)] x := h
  obtain ⟨d1, s1, rfl, ⟨v1, rfl, _⟩, d2, s2, rfl, ⟨v2, rfl, _⟩, hs⟩ := h'
  have e1 : s2 = [] := hs
  subst e1
  exact ⟨⟨v1, v2⟩, rfl⟩
theorem pnT {n : Nat} (x : List LV) (h : tyC TT (n + 4) 76 x) : ∃ y : Pn, x = y.cells := by
  have h' : tyF (tyC TT (n + 3)) [(0, 3, true), (1, 74, true)] x := h
  obtain ⟨d1, s1, rfl, ⟨v1, rfl, _⟩, d2, s2, rfl, ⟨v2, rfl, _, h2⟩, hs⟩ := h'
  have e1 : s2 = [] := hs
  subst e1
  obtain ⟨L, rfl⟩ := listT (C := Lk.cells) (lkT (n := n)) h2
  exact ⟨⟨v1, L⟩, rfl⟩
theorem c6r {i : Int} {ps hs cs : List (List LV)} (h1 : ∀ r ∈ ps, tyC TT 7 76 r) (h2 : ∀ r ∈ hs, tyC TT 7 52 r) (h3 : ∀ r ∈ cs, tyC TT 8 26 r) (s : ByteArray) (k : Int) :
    CallP Try.prog 6 [.agg [I i, .ro 2 ps, .ro 2 hs], .ro 5 cs, .str s, I k] (.bool true) := by
  obtain ⟨x, rfl⟩ := listT (C := Pn.cells) (pnT (n := 3)) h1
  obtain ⟨y, rfl⟩ := listT (C := Hs.cells) (hsT (n := 5)) h2
  obtain ⟨z, rfl⟩ := cpsT h3
  exact c6 ⟨i, x, y⟩ z s k
end Go.RX
