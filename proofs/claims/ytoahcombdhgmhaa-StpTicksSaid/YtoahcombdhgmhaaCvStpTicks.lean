/- StpTicks, for any cells. -/
import Derived.Test.YtoahcombdhgmhaaTf
import Derived.Test.YtoahcombdhgmhaaSe
import Derived.Test.YtoahcombdhgmhaaRXr
set_option linter.unusedVariables false
set_option linter.unusedSimpArgs false
open Go Go.RX Go.Proofs
namespace Go.RX
set_option maxRecDepth 100000
theorem listT {α : Type} {C : α → List LV} {p : List LV → Prop} (h : ∀ x, p x → ∃ y, x = C y) : ∀ {xs : List (List LV)}, (∀ r ∈ xs, p r) → ∃ L : List α, xs = L.map C
  | [], _ => ⟨[], rfl⟩
  | x :: r, hx => by
    obtain ⟨b, hb⟩ := h x (hx x List.mem_cons_self)
    obtain ⟨L, hL⟩ := listT h (xs := r) fun y hy => hx y (List.mem_cons_of_mem _ hy)
    exact ⟨b :: L, by rw [hb, hL]; rfl⟩
theorem oc_3 {n : Nat} (x : List LV) (h : tyC TT (n + 1) 3 x) : ∃ y : Int, x = iC y := by
  obtain ⟨v, rfl, _⟩ := h
  exact ⟨v, rfl⟩
theorem oc_4 {n : Nat} (x : List LV) (h : tyC TT (n + 1) 4 x) : ∃ y : Bool, x = bC y := by
  obtain ⟨v, rfl⟩ := h
  exact ⟨v, rfl⟩
theorem oc_87 {n : Nat} (x : List LV) (h : tyC TT (n + 2) 87 x) : ∃ y : VecT, x = VecT.cells y := by
  have h' : tyF (tyC TT (n + 1)) (match tyq TT 87 with | some e => (match e.u with | .struct fs => fs | _ => []) | none => []) x := h
  obtain ⟨d0, s0, e0, h0, d1, s1, e1, h1, d2, s2, e2, h2, d3, s3, e3, h3, hs⟩ := h'
  have hs : s3 = [] := hs
  subst hs
  obtain ⟨y3, rfl⟩ := oc_3 (n := n + 0) _ h3
  obtain ⟨y2, rfl⟩ := oc_3 (n := n + 0) _ h2
  obtain ⟨y1, rfl⟩ := oc_3 (n := n + 0) _ h1
  obtain ⟨y0, rfl⟩ := oc_3 (n := n + 0) _ h0
  subst e3
  subst e2
  subst e1
  subst e0
  exact ⟨⟨y0, y1, y2, y3⟩, by simp⟩
theorem oc_120 {n : Nat} (x : List LV) (h : tyC TT (n + 3) 120 x) : ∃ y : InfoT, x = InfoT.cells y := by
  have h' : tyF (tyC TT (n + 2)) (match tyq TT 120 with | some e => (match e.u with | .struct fs => fs | _ => []) | none => []) x := h
  obtain ⟨d0, s0, e0, h0, d1, s1, e1, h1, d2, s2, e2, h2, hs⟩ := h'
  have hs : s2 = [] := hs
  subst hs
  obtain ⟨y2, rfl⟩ := oc_3 (n := n + 1) _ h2
  obtain ⟨y1, rfl⟩ := oc_87 (n := n + 0) _ h1
  obtain ⟨y0, rfl⟩ := oc_4 (n := n + 1) _ h0
  subst e2
  subst e1
  subst e0
  exact ⟨⟨y0, y1, y2⟩, by simp⟩
theorem oc_224 {n : Nat} (x : List LV) (h : tyC TT (n + 2) 224 x) : ∃ y : PortStateT, x = PortStateT.cells y := by
  have h' : tyF (tyC TT (n + 1)) (match tyq TT 224 with | some e => (match e.u with | .struct fs => fs | _ => []) | none => []) x := h
  obtain ⟨d0, s0, e0, h0, d1, s1, e1, h1, hs⟩ := h'
  have hs : s1 = [] := hs
  subst hs
  obtain ⟨y1, rfl⟩ := oc_3 (n := n + 0) _ h1
  obtain ⟨y0, rfl⟩ := oc_3 (n := n + 0) _ h0
  subst e1
  subst e0
  exact ⟨⟨y0, y1⟩, by simp⟩
theorem r_law12_StpTicks (a0_0 : Int) {a0_1 : List (List LV)} (h0_1 : ∀ r ∈ a0_1, tyC TT 6 3 r) {a0_2 : List (List LV)} (h0_2 : ∀ r ∈ a0_2, tyC TT 6 4 r) {a0_3 : List (List LV)} (h0_3 : ∀ r ∈ a0_3, tyC TT 6 120 r) {a0_4 : List (List LV)} (h0_4 : ∀ r ∈ a0_4, tyC TT 7 224 r) (a0_5 : Int) (a0_6 : Int) (a1_0 : Int) (a2_0 : Bool) : CallP Try.prog 9 [(LV.agg [(I a0_0), (LV.ro 1 a0_1), (LV.ro 1 a0_2), (LV.ro 6 a0_3), (LV.ro 2 a0_4), (I a0_5), (I a0_6)]), (I a1_0), (LV.bool a2_0)] (.bool true) := by
  obtain ⟨z0_1, rfl⟩ := listT (C := iC) (oc_3 (n := 5)) h0_1
  obtain ⟨z0_2, rfl⟩ := listT (C := bC) (oc_4 (n := 5)) h0_2
  obtain ⟨z0_3, rfl⟩ := listT (C := InfoT.cells) (oc_120 (n := 3)) h0_3
  obtain ⟨z0_4, rfl⟩ := listT (C := PortStateT.cells) (oc_224 (n := 5)) h0_4
  exact c_law12_StpTicks (⟨(⟨a0_0, z0_1, z0_2, z0_3⟩ : SelfT), z0_4, a0_5, a0_6⟩ : StpT) a1_0 a2_0 true (StpTicks_true (⟨(⟨a0_0, z0_1, z0_2, z0_3⟩ : SelfT), z0_4, a0_5, a0_6⟩ : StpT) a1_0 a2_0)
end Go.RX
