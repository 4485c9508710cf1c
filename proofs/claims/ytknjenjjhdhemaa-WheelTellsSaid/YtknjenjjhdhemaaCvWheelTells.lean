/- WheelTells, for any cells. -/
import Derived.Test.YtknjenjjhdhemaaVn
import Derived.Test.YtknjenjjhdhemaaXc
import Derived.Test.YtknjenjjhdhemaaRXr
set_option linter.unusedVariables false
set_option linter.unusedSimpArgs false
open Go Go.RX Go.Proofs
namespace Go.RX
set_option maxRecDepth 100000
theorem listT {α : Type} {C : α → List LV} {p : List LV → Prop} (h : ∀ x, p x → ∃ y, x = C y) : ∀ {xs : List (List LV)}, (∀ r ∈ xs, p r) → ∃ L : List α, xs = L.map C
  | [], _ => ⟨[], rfl⟩
  | x :: r, hx => by
    obtain ⟨b, hb⟩ := h x (hx x List.mem_cons_self)
    obtain ⟨L, hL⟩ := listT h (xs := r) fun y hy => hx y (List.mem_cons_of_mem _ hy)
    exact ⟨b :: L, by rw [hb, hL]; rfl⟩
theorem oc_3 {n : Nat} (x : List LV) (h : tyC TT (n + 1) 3 x) : ∃ y : Int, x = iC y := by
  obtain ⟨v, rfl, _⟩ := h
  exact ⟨v, rfl⟩
theorem oc_24 {n : Nat} (x : List LV) (h : tyC TT (n + 2) 24 x) : ∃ y : TimerT, x = TimerT.cells y := by
  have h' : tyF (tyC TT (n + 1)) (match tyq TT 24 with | some e => (match e.u with | .struct fs => fs | _ => []) | none => []) x := h
  obtain ⟨d0, s0, e0, h0, d1, s1, e1, h1, hs⟩ := h'
  have hs : s1 = [] := hs
  subst hs
  obtain ⟨y1, rfl⟩ := oc_3 (n := n + 0) _ h1
  obtain ⟨y0, rfl⟩ := oc_3 (n := n + 0) _ h0
  subst e1
  subst e0
  exact ⟨⟨y0, y1⟩, by simp⟩
theorem r_law05_WheelTells {a0_0 : List (List LV)} (h0_0 : ∀ r ∈ a0_0, tyC TT 8 24 r) (a1_0 : Int) (a1_1 : Int) (a2_0 : Int) (a3_0 : Int) : CallP Try.prog 4 [(LV.ro 2 a0_0), (LV.agg [(I a1_0), (I a1_1)]), (I a2_0), (I a3_0)] (.bool true) := by
  obtain ⟨z0_0, rfl⟩ := listT (C := TimerT.cells) (oc_24 (n := 6)) h0_0
  exact c_law05_WheelTells z0_0 (⟨a1_0, a1_1⟩ : TimerT) a2_0 a3_0 true (WheelTells_true z0_0 (⟨a1_0, a1_1⟩ : TimerT) a2_0 a3_0)
end Go.RX
