/- FloodTree, for any cells. -/
import Derived.Test.YtljecfgfbebjiaaSe
import Derived.Test.YtljecfgfbebjiaaFX
import Derived.Test.YtljecfgfbebjiaaRXr
set_option linter.unusedVariables false
set_option linter.unusedSimpArgs false
open Go Go.RX Go.Proofs
namespace Go.RX
set_option maxRecDepth 100000
theorem listT {α : Type} {C : α → List LV} {p : List LV → Prop} (h : ∀ x, p x → ∃ y, x = C y) : ∀ {xs : List (List LV)}, (∀ r ∈ xs, p r) → ∃ L : List α, xs = L.map C
  | [], _ => ⟨[], rfl⟩
  | x :: r, hx => by
    obtain ⟨b, hb⟩ := h x (hx x List.mem_cons_self)
    obtain ⟨L, hL⟩ := listT h (xs := r) fun y hy => hx y (List.mem_cons_of_mem _ hy)
    exact ⟨b :: L, by rw [hb, hL]; rfl⟩
theorem oc_3 {n : Nat} (x : List LV) (h : tyC TT (n + 1) 3 x) : ∃ y : Int, x = iC y := by
  obtain ⟨v, rfl, _⟩ := h
  exact ⟨v, rfl⟩
theorem oc_4 {n : Nat} (x : List LV) (h : tyC TT (n + 1) 4 x) : ∃ y : Bool, x = bC y := by
  obtain ⟨v, rfl⟩ := h
  exact ⟨v, rfl⟩
theorem oc_35 {n : Nat} (x : List LV) (h : tyC TT (n + 2) 35 x) : ∃ y : LinkT, x = LinkT.cells y := by
  have h' : tyF (tyC TT (n + 1)) (match tyq TT 35 with | some e => (match e.u with | .struct fs => fs | _ => []) | none => []) x := h
  obtain ⟨d0, s0, e0, h0, d1, s1, e1, h1, d2, s2, e2, h2, hs⟩ := h'
  have hs : s2 = [] := hs
  subst hs
  obtain ⟨y2, rfl⟩ := oc_4 (n := n + 0) _ h2
  obtain ⟨y1, rfl⟩ := oc_3 (n := n + 0) _ h1
  obtain ⟨y0, rfl⟩ := oc_3 (n := n + 0) _ h0
  subst e2
  subst e1
  subst e0
  exact ⟨⟨y0, y1, y2⟩, by simp⟩
theorem oc_31 {n : Nat} (x : List LV) (h : tyC TT (n + 3) 31 x) : ∃ y : (List LinkT), x = (roC 3 LinkT.cells) y := by
  obtain ⟨xs, rfl, _, hs⟩ := h
  obtain ⟨L, rfl⟩ := listT (C := LinkT.cells) (oc_35 (n := n + 0)) hs
  exact ⟨L, rfl⟩
theorem oc_33 {n : Nat} (x : List LV) (h : tyC TT (n + 4) 33 x) : ∃ y : PlanT, x = PlanT.cells y := by
  have h' : tyF (tyC TT (n + 3)) (match tyq TT 33 with | some e => (match e.u with | .struct fs => fs | _ => []) | none => []) x := h
  obtain ⟨d0, s0, e0, h0, d1, s1, e1, h1, hs⟩ := h'
  have hs : s1 = [] := hs
  subst hs
  obtain ⟨y1, rfl⟩ := oc_31 (n := n + 0) _ h1
  obtain ⟨y0, rfl⟩ := oc_3 (n := n + 2) _ h0
  subst e1
  subst e0
  exact ⟨⟨y0, y1⟩, by simp⟩
theorem oc_80 {n : Nat} (x : List LV) (h : tyC TT (n + 2) 80 x) : ∃ y : HostT, x = HostT.cells y := by
  have h' : tyF (tyC TT (n + 1)) (match tyq TT 80 with | some e => (match e.u with | .struct fs => fs | _ => []) | none => []) x := h
  obtain ⟨d0, s0, e0, h0, d1, s1, e1, h1, hs⟩ := h'
  have hs : s1 = [] := hs
  subst hs
  obtain ⟨y1, rfl⟩ := oc_3 (n := n + 0) _ h1
  obtain ⟨y0, rfl⟩ := oc_3 (n := n + 0) _ h0
  subst e1
  subst e0
  exact ⟨⟨y0, y1⟩, by simp⟩
theorem r_law17_FloodTree (a0_0 : Int) {a0_1 : List (List LV)} (h0_1 : ∀ r ∈ a0_1, tyC TT 7 33 r) {a0_2 : List (List LV)} (h0_2 : ∀ r ∈ a0_2, tyC TT 7 80 r) (a1_0 : Int) (a2_0 : Int) (a3_0 : Int) : CallP Try.prog 7 [(LV.agg [(I a0_0), (LV.ro 2 a0_1), (LV.ro 2 a0_2)]), (I a1_0), (I a2_0), (I a3_0)] (.bool true) := by
  obtain ⟨z0_1, rfl⟩ := listT (C := PlanT.cells) (oc_33 (n := 3)) h0_1
  obtain ⟨z0_2, rfl⟩ := listT (C := HostT.cells) (oc_80 (n := 5)) h0_2
  exact c_law17_FloodTree (⟨a0_0, z0_1, z0_2⟩ : LanT) a1_0 a2_0 a3_0 true (FloodTree_true (⟨a0_0, z0_1, z0_2⟩ : LanT) a1_0 a2_0 a3_0)
end Go.RX
