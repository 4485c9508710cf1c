/- The cells of a bridge, as a bridge. -/
import Derived.Test.YtammhcpnhejapaaPl11c
import Derived.Test.YtammhcpnhejapaaRXr
set_option linter.unusedVariables false
open Go Go.RX Go.Proofs
namespace Go.RX
theorem boolsT {n : Nat} : ∀ {xs : List (List LV)}, (∀ r ∈ xs, tyC TT (n + 1) 4 r) → ∃ L : List Bool, xs = L.map fun b => [LV.bool b]
  | [], _ => ⟨[], rfl⟩
  | x :: r, h => by
    obtain ⟨b, hb⟩ : ∃ b, x = [LV.bool b] := h x List.mem_cons_self
    obtain ⟨L, hL⟩ := boolsT (xs := r) fun y hy => h y (List.mem_cons_of_mem _ hy)
    exact ⟨b :: L, by rw [hb, hL]; rfl⟩
theorem intsT {n : Nat} : ∀ {xs : List (List LV)}, (∀ r ∈ xs, tyC TT (n + 1) 3 r) → ∃ L : List Int, xs = L.map fun b => [I b]
  | [], _ => ⟨[], rfl⟩
  | x :: r, h => by
    obtain ⟨b, hb, _⟩ : ∃ b, x = [I b] ∧ _ := h x List.mem_cons_self
    obtain ⟨L, hL⟩ := intsT (xs := r) fun y hy => h y (List.mem_cons_of_mem _ hy)
    exact ⟨b :: L, by rw [hb, hL]; rfl⟩
theorem infT {n : Nat} {x : List LV} (h : tyC TT (n + 3) 58 x) : ∃ y : Inf, x = y.cells := by
  have h' : tyF (tyC TT (n + 2)) [(0, 4, true), (1, 23, true), (5, 3, true)] x := h
  obtain ⟨c1, r1, rfl, ⟨q, rfl⟩, c2, r2, rfl, hv, c3, r3, rfl, ⟨a, rfl, _⟩, hr⟩ := h'
  have hv' : tyF (tyC TT (n + 1)) [(0, 3, true), (1, 3, true), (2, 3, true), (3, 3, true)] c2 := hv
  obtain ⟨d1, s1, rfl, ⟨v1, rfl, _⟩, d2, s2, rfl, ⟨v2, rfl, _⟩, d3, s3, rfl, ⟨v3, rfl, _⟩, d4, s4, rfl, ⟨v4, rfl, _⟩, hs⟩ := hv'
  have e1 : s4 = [] := hs
  have e2 : r3 = [] := hr
  subst e1; subst e2
  exact ⟨⟨q, v1, v2, v3, v4, a⟩, rfl⟩
theorem infsT {n : Nat} : ∀ {xs : List (List LV)}, (∀ r ∈ xs, tyC TT (n + 3) 58 r) → ∃ L : List Inf, xs = L.map Inf.cells
  | [], _ => ⟨[], rfl⟩
  | x :: r, h => by
    obtain ⟨b, hb⟩ := infT (h x List.mem_cons_self)
    obtain ⟨L, hL⟩ := infsT (xs := r) fun y hy => h y (List.mem_cons_of_mem _ hy)
    exact ⟨b :: L, by rw [hb, hL]; rfl⟩
theorem slfT {i : Int} {cs us fs : List (List LV)} (h1 : ∀ r ∈ cs, tyC TT 5 3 r) (h2 : ∀ r ∈ us, tyC TT 5 4 r) (h3 : ∀ r ∈ fs, tyC TT 5 58 r) : ∃ s : Slf, LV.agg [I i, .ro 1 cs, .ro 1 us, .ro 6 fs] = slfL s := by
  obtain ⟨a, rfl⟩ := intsT h1
  obtain ⟨b, rfl⟩ := boolsT h2
  obtain ⟨c, rfl⟩ := infsT h3
  exact ⟨⟨i, a, b, c⟩, rfl⟩
end Go.RX
