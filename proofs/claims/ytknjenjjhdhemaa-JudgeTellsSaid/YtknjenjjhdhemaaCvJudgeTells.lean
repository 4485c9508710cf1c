/- JudgeTells, for any cells. -/
import Derived.Test.YtknjenjjhdhemaaJe
import Derived.Test.YtknjenjjhdhemaaJX
import Derived.Test.YtknjenjjhdhemaaRXr
set_option linter.unusedVariables false
set_option linter.unusedSimpArgs false
open Go Go.RX Go.Proofs
namespace Go.RX
set_option maxRecDepth 100000
theorem listT {α : Type} {C : α → List LV} {p : List LV → Prop} (h : ∀ x, p x → ∃ y, x = C y) : ∀ {xs : List (List LV)}, (∀ r ∈ xs, p r) → ∃ L : List α, xs = L.map C
  | [], _ => ⟨[], rfl⟩
  | x :: r, hx => by
    obtain ⟨b, hb⟩ := h x (hx x List.mem_cons_self)
    obtain ⟨L, hL⟩ := listT h (xs := r) fun y hy => hx y (List.mem_cons_of_mem _ hy)
    exact ⟨b :: L, by rw [hb, hL]; rfl⟩
theorem oc_3 {n : Nat} (x : List LV) (h : tyC TT (n + 1) 3 x) : ∃ y : Int, x = iC y := by
  obtain ⟨v, rfl, _⟩ := h
  exact ⟨v, rfl⟩
theorem oc_4 {n : Nat} (x : List LV) (h : tyC TT (n + 1) 4 x) : ∃ y : Bool, x = bC y := by
  obtain ⟨v, rfl⟩ := h
  exact ⟨v, rfl⟩
theorem oc_140 {n : Nat} (x : List LV) (h : tyC TT (n + 2) 140 x) : ∃ y : LinkT, x = LinkT.cells y := by
  have h' : tyF (tyC TT (n + 1)) (match tyq TT 140 with | some e => (match e.u with | .struct fs => fs | _ => []) | none => []) x := h
  obtain ⟨d0, s0, e0, h0, d1, s1, e1, h1, d2, s2, e2, h2, hs⟩ := h'
  have hs : s2 = [] := hs
  subst hs
  obtain ⟨y2, rfl⟩ := oc_4 (n := n + 0) _ h2
  obtain ⟨y1, rfl⟩ := oc_3 (n := n + 0) _ h1
  obtain ⟨y0, rfl⟩ := oc_3 (n := n + 0) _ h0
  subst e2
  subst e1
  subst e0
  exact ⟨⟨y0, y1, y2⟩, by simp⟩
theorem oc_85 {n : Nat} (x : List LV) (h : tyC TT (n + 3) 85 x) : ∃ y : (List LinkT), x = (roC 3 LinkT.cells) y := by
  obtain ⟨xs, rfl, _, hs⟩ := h
  obtain ⟨L, rfl⟩ := listT (C := LinkT.cells) (oc_140 (n := n + 0)) hs
  exact ⟨L, rfl⟩
theorem oc_87 {n : Nat} (x : List LV) (h : tyC TT (n + 4) 87 x) : ∃ y : PlanT, x = PlanT.cells y := by
  have h' : tyF (tyC TT (n + 3)) (match tyq TT 87 with | some e => (match e.u with | .struct fs => fs | _ => []) | none => []) x := h
  obtain ⟨d0, s0, e0, h0, d1, s1, e1, h1, hs⟩ := h'
  have hs : s1 = [] := hs
  subst hs
  obtain ⟨y1, rfl⟩ := oc_85 (n := n + 0) _ h1
  obtain ⟨y0, rfl⟩ := oc_3 (n := n + 2) _ h0
  subst e1
  subst e0
  exact ⟨⟨y0, y1⟩, by simp⟩
theorem oc_103 {n : Nat} (x : List LV) (h : tyC TT (n + 2) 103 x) : ∃ y : HostT, x = HostT.cells y := by
  have h' : tyF (tyC TT (n + 1)) (match tyq TT 103 with | some e => (match e.u with | .struct fs => fs | _ => []) | none => []) x := h
  obtain ⟨d0, s0, e0, h0, d1, s1, e1, h1, hs⟩ := h'
  have hs : s1 = [] := hs
  subst hs
  obtain ⟨y1, rfl⟩ := oc_3 (n := n + 0) _ h1
  obtain ⟨y0, rfl⟩ := oc_3 (n := n + 0) _ h0
  subst e1
  subst e0
  exact ⟨⟨y0, y1⟩, by simp⟩
theorem oc_88 {n : Nat} (x : List LV) (h : tyC TT (n + 2) 88 x) : ∃ y : (List Bool), x = (roC 1 bC) y := by
  obtain ⟨xs, rfl, _, hs⟩ := h
  obtain ⟨L, rfl⟩ := listT (C := bC) (oc_4 (n := n + 0)) hs
  exact ⟨L, rfl⟩
theorem oc_9 {n : Nat} (x : List LV) (h : tyC TT (n + 1) 9 x) : ∃ y : ByteArray, x = sC y := by
  obtain ⟨v, rfl, _⟩ := h
  exact ⟨v, rfl⟩
theorem oc_90 {n : Nat} (x : List LV) (h : tyC TT (n + 2) 90 x) : ∃ y : CopyT, x = CopyT.cells y := by
  have h' : tyF (tyC TT (n + 1)) (match tyq TT 90 with | some e => (match e.u with | .struct fs => fs | _ => []) | none => []) x := h
  obtain ⟨d0, s0, e0, h0, d1, s1, e1, h1, d2, s2, e2, h2, d3, s3, e3, h3, d4, s4, e4, h4, hs⟩ := h'
  have hs : s4 = [] := hs
  subst hs
  obtain ⟨y4, rfl⟩ := oc_9 (n := n + 0) _ h4
  obtain ⟨y3, rfl⟩ := oc_3 (n := n + 0) _ h3
  obtain ⟨y2, rfl⟩ := oc_3 (n := n + 0) _ h2
  obtain ⟨y1, rfl⟩ := oc_3 (n := n + 0) _ h1
  obtain ⟨y0, rfl⟩ := oc_3 (n := n + 0) _ h0
  subst e4
  subst e3
  subst e2
  subst e1
  subst e0
  exact ⟨⟨y0, y1, y2, y3, y4⟩, by simp⟩
theorem r_law20_JudgeTells (a0_0 : Int) {a0_1 : List (List LV)} (h0_1 : ∀ r ∈ a0_1, tyC TT 7 87 r) {a0_2 : List (List LV)} (h0_2 : ∀ r ∈ a0_2, tyC TT 7 103 r) {a1_0 : List (List LV)} (h1_0 : ∀ r ∈ a1_0, tyC TT 8 88 r) {a2_0 : List (List LV)} (h2_0 : ∀ r ∈ a2_0, tyC TT 8 90 r) (a3_0 : ByteArray) (a4_0 : Int) (a5_0 : Int) : CallP Try.prog 5 [(LV.agg [(I a0_0), (LV.ro 2 a0_1), (LV.ro 2 a0_2)]), (LV.ro 1 a1_0), (LV.ro 5 a2_0), (LV.str a3_0), (I a4_0), (I a5_0)] (.bool true) := by
  obtain ⟨z0_1, rfl⟩ := listT (C := PlanT.cells) (oc_87 (n := 3)) h0_1
  obtain ⟨z0_2, rfl⟩ := listT (C := HostT.cells) (oc_103 (n := 5)) h0_2
  obtain ⟨z1_0, rfl⟩ := listT (C := (roC 1 bC)) (oc_88 (n := 6)) h1_0
  obtain ⟨z2_0, rfl⟩ := listT (C := CopyT.cells) (oc_90 (n := 6)) h2_0
  exact c_law20_JudgeTells (⟨a0_0, z0_1, z0_2⟩ : LanT) z1_0 z2_0 a3_0 a4_0 a5_0 true (JudgeTells_true (⟨a0_0, z0_1, z0_2⟩ : LanT) z1_0 z2_0 a3_0 a4_0 a5_0)
end Go.RX
