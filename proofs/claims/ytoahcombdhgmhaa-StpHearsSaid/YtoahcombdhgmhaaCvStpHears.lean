/- StpHears, for any cells. -/
import Derived.Test.YtoahcombdhgmhaaTe
import Derived.Test.YtoahcombdhgmhaaSd
import Derived.Test.YtoahcombdhgmhaaRXr
set_option linter.unusedVariables false
set_option linter.unusedSimpArgs false
open Go Go.RX Go.Proofs
namespace Go.RX
set_option maxRecDepth 100000
theorem listT {α : Type} {C : α → List LV} {p : List LV → Prop} (h : ∀ x, p x → ∃ y, x = C y) : ∀ {xs : List (List LV)}, (∀ r ∈ xs, p r) → ∃ L : List α, xs = L.map C
  | [], _ => ⟨[], rfl⟩
  | x :: r, hx => by
    obtain ⟨b, hb⟩ := h x (hx x List.mem_cons_self)
    obtain ⟨L, hL⟩ := listT h (xs := r) fun y hy => hx y (List.mem_cons_of_mem _ hy)
    exact ⟨b :: L, by rw [hb, hL]; rfl⟩
theorem oc_3 {n : Nat} (x : List LV) (h : tyC TT (n + 1) 3 x) : ∃ y : Int, x = iC y := by
  obtain ⟨v, rfl, _⟩ := h
  exact ⟨v, rfl⟩
theorem oc_4 {n : Nat} (x : List LV) (h : tyC TT (n + 1) 4 x) : ∃ y : Bool, x = bC y := by
  obtain ⟨v, rfl⟩ := h
  exact ⟨v, rfl⟩
theorem oc_87 {n : Nat} (x : List LV) (h : tyC TT (n + 2) 87 x) : ∃ y : VecT, x = VecT.cells y := by
  have h' : tyF (tyC TT (n + 1)) (match tyq TT 87 with | some e => (match e.u with | .struct fs => fs | _ => []) | none => []) x := h
  obtain ⟨d0, s0, e0, h0, d1, s1, e1, h1, d2, s2, e2, h2, d3, s3, e3, h3, hs⟩ := h'
  have hs : s3 = [] := hs
  subst hs
  obtain ⟨y3, rfl⟩ := oc_3 (n := n + 0) _ h3
  obtain ⟨y2, rfl⟩ := oc_3 (n := n + 0) _ h2
  obtain ⟨y1, rfl⟩ := oc_3 (n := n + 0) _ h1
  obtain ⟨y0, rfl⟩ := oc_3 (n := n + 0) _ h0
  subst e3
  subst e2
  subst e1
  subst e0
  exact ⟨⟨y0, y1, y2, y3⟩, by simp⟩
theorem oc_120 {n : Nat} (x : List LV) (h : tyC TT (n + 3) 120 x) : ∃ y : InfoT, x = InfoT.cells y := by
  have h' : tyF (tyC TT (n + 2)) (match tyq TT 120 with | some e => (match e.u with | .struct fs => fs | _ => []) | none => []) x := h
  obtain ⟨d0, s0, e0, h0, d1, s1, e1, h1, d2, s2, e2, h2, hs⟩ := h'
  have hs : s2 = [] := hs
  subst hs
  obtain ⟨y2, rfl⟩ := oc_3 (n := n + 1) _ h2
  obtain ⟨y1, rfl⟩ := oc_87 (n := n + 0) _ h1
  obtain ⟨y0, rfl⟩ := oc_4 (n := n + 1) _ h0
  subst e2
  subst e1
  subst e0
  exact ⟨⟨y0, y1, y2⟩, by simp⟩
theorem oc_224 {n : Nat} (x : List LV) (h : tyC TT (n + 2) 224 x) : ∃ y : PortStateT, x = PortStateT.cells y := by
  have h' : tyF (tyC TT (n + 1)) (match tyq TT 224 with | some e => (match e.u with | .struct fs => fs | _ => []) | none => []) x := h
  obtain ⟨d0, s0, e0, h0, d1, s1, e1, h1, hs⟩ := h'
  have hs : s1 = [] := hs
  subst hs
  obtain ⟨y1, rfl⟩ := oc_3 (n := n + 0) _ h1
  obtain ⟨y0, rfl⟩ := oc_3 (n := n + 0) _ h0
  subst e1
  subst e0
  exact ⟨⟨y0, y1⟩, by simp⟩
theorem r_law12_StpHears (a0_0 : Int) {a1_0 : List (List LV)} (h1_0 : ∀ r ∈ a1_0, tyC TT 8 3 r) (a2_0 : Int) (a3_0 : Int) (a4_0 : Int) {a4_1 : List (List LV)} (h4_1 : ∀ r ∈ a4_1, tyC TT 6 3 r) {a4_2 : List (List LV)} (h4_2 : ∀ r ∈ a4_2, tyC TT 6 4 r) {a4_3 : List (List LV)} (h4_3 : ∀ r ∈ a4_3, tyC TT 6 120 r) {a4_4 : List (List LV)} (h4_4 : ∀ r ∈ a4_4, tyC TT 7 224 r) (a4_5 : Int) (a4_6 : Int) (a5_0 : Int) (a6_0 : Int) (a6_1 : Int) (a6_2 : Int) (a6_3 : Int) (a6_4 : Int) : CallP Try.prog 8 [(I a0_0), (LV.ro 1 a1_0), (I a2_0), (I a3_0), (LV.agg [(I a4_0), (LV.ro 1 a4_1), (LV.ro 1 a4_2), (LV.ro 6 a4_3), (LV.ro 2 a4_4), (I a4_5), (I a4_6)]), (I a5_0), (LV.agg [(I a6_0), (I a6_1), (I a6_2), (I a6_3), (I a6_4)])] (.bool true) := by
  obtain ⟨z1_0, rfl⟩ := listT (C := iC) (oc_3 (n := 7)) h1_0
  obtain ⟨z4_1, rfl⟩ := listT (C := iC) (oc_3 (n := 5)) h4_1
  obtain ⟨z4_2, rfl⟩ := listT (C := bC) (oc_4 (n := 5)) h4_2
  obtain ⟨z4_3, rfl⟩ := listT (C := InfoT.cells) (oc_120 (n := 3)) h4_3
  obtain ⟨z4_4, rfl⟩ := listT (C := PortStateT.cells) (oc_224 (n := 5)) h4_4
  exact c_law12_StpHears a0_0 z1_0 a2_0 a3_0 (⟨(⟨a4_0, z4_1, z4_2, z4_3⟩ : SelfT), z4_4, a4_5, a4_6⟩ : StpT) a5_0 (⟨(⟨a6_0, a6_1, a6_2, a6_3⟩ : VecT), a6_4⟩ : ConfigT) true (StpHears_true a0_0 z1_0 a2_0 a3_0 (⟨(⟨a4_0, z4_1, z4_2, z4_3⟩ : SelfT), z4_4, a4_5, a4_6⟩ : StpT) a5_0 (⟨(⟨a6_0, a6_1, a6_2, a6_3⟩ : VecT), a6_4⟩ : ConfigT))
end Go.RX
