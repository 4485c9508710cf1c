/- FdbKeeps, for any cells. -/
import Derived.Test.YtknjenjjhdhemaaGreatFq
import Derived.Test.YtknjenjjhdhemaaGreatXK
import Derived.Test.YtknjenjjhdhemaaGreatRXr
set_option linter.unusedVariables false
set_option linter.unusedSimpArgs false
open Go Go.RX Go.Proofs
namespace Go.RX
set_option maxRecDepth 100000
theorem listT {α : Type} {C : α → List LV} {p : List LV → Prop} (h : ∀ x, p x → ∃ y, x = C y) : ∀ {xs : List (List LV)}, (∀ r ∈ xs, p r) → ∃ L : List α, xs = L.map C
 | [], _ => ⟨[], rfl⟩
 | x :: r, hx => by
  obtain ⟨b, hb⟩ := h x (hx x List.mem_cons_self)
  obtain ⟨L, hL⟩ := listT h (xs := r) fun y hy => hx y (List.mem_cons_of_mem _ hy)
  exact ⟨b :: L, by rw [hb, hL]; rfl⟩
theorem oc_3 {n : Nat} (x : List LV) (h : tyC TT (n + 1) 3 x) : ∃ y : Int, x = iC y := by
 obtain ⟨v, rfl, _⟩ := h
 exact ⟨v, rfl⟩
theorem oc_4 {n : Nat} (x : List LV) (h : tyC TT (n + 1) 4 x) : ∃ y : Bool, x = bC y := by
 obtain ⟨v, rfl⟩ := h
 exact ⟨v, rfl⟩
theorem oc_42 {n : Nat} (x : List LV) (h : tyC TT (n + 2) 42 x) : ∃ y : En, x = EnC y := by
 have h' : tyF (tyC TT (n + 1)) (match tyq TT 42 with | some e => (match e.u with | .struct fs => fs | _ => []) | none => []) x := h
 obtain ⟨d0, s0, e0, h0, d1, s1, e1, h1, d2, s2, e2, h2, d3, s3, e3, h3, hs⟩ := h'
 have hs : s3 = [] := hs
 subst hs
 obtain ⟨y3, rfl⟩ := oc_4 (n := n + 0) _ h3
 obtain ⟨y2, rfl⟩ := oc_3 (n := n + 0) _ h2
 obtain ⟨y1, rfl⟩ := oc_3 (n := n + 0) _ h1
 obtain ⟨y0, rfl⟩ := oc_3 (n := n + 0) _ h0
 subst e3
 subst e2
 subst e1
 subst e0
 exact ⟨⟨y0, y1, y2, y3⟩, by simp⟩
theorem oc_39 {n : Nat} (x : List LV) (h : tyC TT (n + 3) 39 x) : ∃ y : (List En), x = (roC 4 EnC) y := by
 obtain ⟨xs, rfl, _, hs⟩ := h
 obtain ⟨L, rfl⟩ := listT (C := EnC) (oc_42 (n := n + 0)) hs
 exact ⟨L, rfl⟩
theorem r_law08_FdbKeeps {a0_0 : List (List LV)} (h0_0 : ∀ r ∈ a0_0, tyC TT 7 39 r) (a0_1 : Int) (a0_2 : Int) (a1_0 : Int) (a2_0 : Int) (a3_0 : Int) : CallP Tryz.prog 3 [(LV.agg [(LV.ro 1 a0_0), (I a0_1), (I a0_2)]), (I a1_0), (I a2_0), (I a3_0)] (.bool true) := by
 obtain ⟨z0_0, rfl⟩ := listT (C := (roC 4 EnC)) (oc_39 (n := 4)) h0_0
 exact c_law08_FdbKeeps (⟨z0_0, a0_1, a0_2⟩ : Tb) a1_0 a2_0 a3_0 true (FdbKeeps_true (⟨z0_0, a0_1, a0_2⟩ : Tb) a1_0 a2_0 a3_0)
end Go.RX
