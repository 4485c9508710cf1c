/- Rows of ints, sorted and made thin; how far segments are, as the program finds it. -/
import Derived.Test.YtoahcombdhgmhaaPb
import Derived.Test.YtoahcombdhgmhaaGen
import Derived.Test.YtoahcombdhgmhaaFlo
import Derived.Test.YtoahcombdhgmhaaFa
set_option linter.unusedVariables false
set_option linter.unusedSimpArgs false
open Go Go.RX
namespace Go.RX
theorem repeat_eq (n : Int) (h : 1 ≤ n ∧ n ≤ 8) : slices_Repeat_int [-1] n = some (List.replicate n.toNat (-1)) := by
  have : n = 1 ∨ n = 2 ∨ n = 3 ∨ n = 4 ∨ n = 5 ∨ n = 6 ∨ n = 7 ∨ n = 8 := by omega
  rcases this with rfl | rfl | rfl | rfl | rfl | rfl | rfl | rfl <;> decide +kernel
theorem get_lt {l : List Int} {k : Nat} (h : k < l.length) : l[k]? = some l[k] := List.getElem?_eq_getElem h
/-- A rising row, made thin. -/
theorem compact_in {l : List Int} (hl : l.length ≤ 900000) (hs : l.Pairwise (· ≤ ·)) {k : Nat} (hk0 : 1 ≤ k) (hk : k < l.length) (hasc : (l.take k).Pairwise (· < ·)) (he : l[k]? = l[k - 1]?) :
    ∃ (i : Nat) (L : List Int), loopF 1000000 (slices_Compact_int_b24 ((k : Int), l)) ((k : Int), 1, l) = some (.nxt (((i : Nat) : Int), ((l.length - k : Nat) : Int), L)) ∧ i < l.length ∧ L.length = l.length ∧ (L.take i).Pairwise (· < ·) ∧ ∀ x, x ∈ L.take i ↔ x ∈ l := by
  have hle : ∀ {a b : Nat} (hb : b < l.length) (hab : a ≤ b), l[a]'(by omega) ≤ l[b] := fun {a b} hb hab => by
    rcases Nat.lt_or_eq_of_le hab with h | h
    · exact List.pairwise_iff_getElem.1 hs a b (by omega) hb h
    · subst h; exact Int.le_refl _
  obtain ⟨o, h1, h2⟩ := loopF_rec (body := slices_Compact_int_b24 ((k : Int), l)) (fun s => l.length - s.2.1.toNat)
    (fun s => ∃ (i m : Nat), s.1 = (i : Int) ∧ s.2.1 = (m : Int) ∧ 1 ≤ m ∧ k + m ≤ l.length ∧ k ≤ i ∧ i + 1 ≤ k + m ∧ s.2.2.length = l.length ∧ (∀ j, i ≤ j → s.2.2[j]? = l[j]?) ∧ (s.2.2.take i).Pairwise (· < ·) ∧
      (∀ x, x ∈ s.2.2.take i ↔ x ∈ l.take (k + m)) ∧ s.2.2[i - 1]? = l[k + m - 1]?)
    (fun _ => False) (fun s => ∃ (i : Nat), s.1 = (i : Int) ∧ s.2.1 = ((l.length - k : Nat) : Int) ∧ i < l.length ∧ s.2.2.length = l.length ∧ (s.2.2.take i).Pairwise (· < ·) ∧ ∀ x, x ∈ s.2.2.take i ↔ x ∈ l)
    (fun s ⟨i, m, e1, e2, m1, m2, i1, i2, hL, hun, has, hmem, hlast⟩ => by
      obtain ⟨s1, s2, L⟩ := s
      dsimp only at e1 e2 hL hun has hmem hlast
      subst e1; subst e2
      unfold slices_Compact_int_b24
      dsimp only
      rw [Int.toNat_natCast]
      by_cases hm : k + m < l.length
      · have u1 : L[k + m]? = some l[k + m] := by rw [hun _ (by omega), get_lt hm]
        have u2 : L[k + (m - 1)]? = some (l[k + (m - 1)]'(by omega)) := by
          rw [hun _ (by omega), get_lt (by omega)]
        rw [decide_eq_true (show ((m : Nat) : Int) < ((L.length - k : Nat) : Int) by omega), cond_true, grd_true ⟨by omega, by omega⟩]
        unfold gixN
        rw [Int.toNat_natCast, u1, Option.bind_some, w64_in (x := ((m : Nat) : Int) - 1) (by omega) (by omega), grd_true ⟨by omega, by omega⟩, show (((m : Nat) : Int) - 1).toNat = m - 1 by omega, u2, Option.bind_some]
        have hidx : k + (m - 1) = k + m - 1 := by omega
        have htk : l.take (k + (m + 1)) = l.take (k + m) ++ [l[k + m]] := by rw [show k + (m + 1) = k + m + 1 by omega, List.take_add_one, get_lt hm]; rfl
        have hlast' : L[i - 1]? = some (l[k + (m - 1)]'(by omega)) := by rw [hlast, ← hidx, get_lt (by omega)]
        by_cases e : l[k + m] = l[k + (m - 1)]'(by omega)
        · rw [decide_eq_true e, Bool.not_true, cond_false, w64_in (by omega) (by omega)]
          refine ⟨_, rfl, ⟨i, m + 1, rfl, by show ((m : Nat) : Int) + 1 = _; omega, by omega, by omega, i1, by omega, hL, hun, has, fun x => ?_, ?_⟩, ?_⟩
          · show x ∈ L.take i ↔ _
            rw [htk, hmem x]
            constructor
            · exact fun h => List.mem_append_left _ h
            · intro h
              rcases List.mem_append.1 h with h | h
              · exact h
              · obtain rfl := List.mem_singleton.1 h
                rw [e]
                exact List.mem_of_getElem? (i := k + (m - 1)) (by rw [List.getElem?_take, if_pos (by omega), get_lt (by omega)])
          · show L[i - 1]? = _
            rw [hlast', show k + (m + 1) - 1 = k + m by omega, get_lt hm, e]
          · show l.length - (((m : Nat) : Int) + 1).toNat < l.length - (((m : Nat) : Int)).toNat; omega
        · rw [decide_eq_false e, Bool.not_false, cond_true, grd_true ⟨by omega, by omega⟩, grd_true ⟨by omega, by omega⟩, Int.toNat_natCast, get_lt (show i < L.length by omega), Option.bind_some, w64_in (by omega) (by omega), w64_in (by omega) (by omega)]
          have hnew : (L.set i l[k + m]).take (i + 1) = L.take i ++ [l[k + m]] := by
            rw [List.take_add_one, List.getElem?_set_self (by omega), List.take_set_of_le (Nat.le_refl i)]; rfl
          refine ⟨_, rfl, ⟨i + 1, m + 1, by show ((i : Nat) : Int) + 1 = _; omega, by show ((m : Nat) : Int) + 1 = _; omega, by omega, by omega, by omega, by omega, ?_, fun j hj => ?_, ?_, fun x => ?_, ?_⟩, ?_⟩
          · show (L.set _ _).length = _; rw [List.length_set, hL]
          · show (L.set i _)[j]? = _; rw [List.getElem?_set_ne (by omega)]; exact hun j (by omega)
          · show ((L.set i l[k + m]).take (i + 1)).Pairwise _
            rw [hnew, List.pairwise_append]
            refine ⟨has, by simp, fun x hx y hy => ?_⟩
            obtain rfl := List.mem_singleton.1 hy
            have hx' := (hmem x).1 hx
            obtain ⟨j, hj⟩ := List.getElem?_of_mem hx'
            have hjl : j < k + m := by have := (List.getElem?_eq_some_iff.1 hj).1; rw [List.length_take] at this; omega
            rw [List.getElem?_take, if_pos hjl, get_lt (by omega)] at hj
            obtain rfl := Option.some.inj hj
            have a1 := hle (a := j) (b := k + (m - 1)) (by omega) (by omega)
            have a2 := hle (a := k + (m - 1)) (b := k + m) hm (by omega)
            omega
          · show x ∈ (L.set i l[k + m]).take (i + 1) ↔ _
            rw [hnew, htk, List.mem_append, List.mem_append, hmem x]
          · show (L.set i l[k + m])[i + 1 - 1]? = _
            rw [show i + 1 - 1 = i by omega, List.getElem?_set_self (by omega), show k + (m + 1) - 1 = k + m by omega, get_lt hm]
          · show l.length - (((m : Nat) : Int) + 1).toNat < l.length - (((m : Nat) : Int)).toNat; omega
      · rw [decide_eq_false (show ¬ ((m : Nat) : Int) < ((L.length - k : Nat) : Int) by omega)]
        have hkm : k + m = l.length := by omega
        refine ⟨_, rfl, i, rfl, by show ((m : Nat) : Int) = _; omega, by omega, hL, has, fun x => ?_⟩
        rw [hmem x, hkm, List.take_length]) 1000000 ((k : Int), 1, l)
    ⟨k, 1, rfl, rfl, Nat.le_refl _, by omega, Nat.le_refl _, by omega, rfl, fun j _ => rfl, hasc, fun x => by
      show x ∈ l.take k ↔ _
      rw [List.take_add_one, get_lt hk]
      constructor
      · exact fun h => List.mem_append_left _ h
      · intro h
        rcases List.mem_append.1 h with h | h
        · exact h
        · have h : x ∈ [l[k]] := h
          obtain rfl := List.mem_singleton.1 h
          rw [get_lt hk] at he
          exact List.mem_of_getElem? (i := k - 1) (by rw [List.getElem?_take, if_pos (by omega), ← he]), by
      show l[k - 1]? = _
      rw [show k + 1 - 1 = k by omega, he]⟩ (by show l.length - _ < _; omega)
  cases o with
  | ret r => exact h2.elim
  | brk s => exact h2.elim
  | nxt s =>
    obtain ⟨s1, s2, L⟩ := s
    obtain ⟨i, e1, e2, h3, h4, h5, h6⟩ := h2
    dsimp only at e1 e2
    subst e1; subst e2
    exact ⟨i, L, h1, h3, h4, h5, h6⟩
theorem compact_eq (l : List Int) (hl : l.length ≤ 900000) (hs : l.Pairwise (· ≤ ·)) : ∃ r, slices_Compact_int l = some r ∧ r.Pairwise (· < ·) ∧ ∀ x, x ∈ r ↔ x ∈ l := by
  unfold slices_Compact_int
  by_cases h2 : ((l.length : Nat) : Int) < 2
  · rw [decide_eq_true h2]
    refine ⟨l, rfl, ?_, fun x => Iff.rfl⟩
    match l, h2 with
    | [], _ => exact List.Pairwise.nil
    | [a], _ => simp
    | _ :: _ :: _, h => simp at h; omega
  · rw [decide_eq_false h2, cond_false]
    obtain ⟨o, h1, h2⟩ := loopF_rec (body := slices_Compact_int_b23) (fun s => l.length - s.1.toNat)
      (fun s => ∃ k : Nat, s = ((k : Int), l) ∧ 1 ≤ k ∧ k ≤ l.length ∧ (l.take k).Pairwise (· < ·)) (fun r => r.Pairwise (· < ·) ∧ ∀ x, x ∈ r ↔ x ∈ l) (fun s => s.2 = l ∧ l.Pairwise (· < ·))
      (fun s ⟨k, e, k1, k2, k3⟩ => by
        subst e
        unfold slices_Compact_int_b23
        dsimp only
        by_cases hk : k < l.length
        · rw [decide_eq_true (show ((k : Nat) : Int) < ((l.length : Nat) : Int) by omega), cond_true, grd_true ⟨by omega, by omega⟩]
          unfold gixN
          rw [Int.toNat_natCast, get_lt hk, Option.bind_some, w64_in (x := ((k : Nat) : Int) - 1) (by omega) (by omega), grd_true ⟨by omega, by omega⟩, show (((k : Nat) : Int) - 1).toNat = k - 1 by omega, get_lt (show k - 1 < l.length by omega), Option.bind_some]
          by_cases e : l[k] = l[k - 1]
          · obtain ⟨i, L, g1, g2, g3, g4, g5⟩ := compact_in hl hs k1 hk k3 (by rw [get_lt hk, get_lt (show k - 1 < l.length by omega), e])
            rw [decide_eq_true e, cond_true, grd_true ⟨by omega, by omega⟩, g1, aft_some_nxt]
            dsimp only
            rw [grd_true ⟨by omega, by omega⟩, grd_true ⟨by omega, by omega⟩, Int.toNat_natCast]
            exact ⟨_, rfl, g4, g5⟩
          · rw [decide_eq_false e, w64_in (by omega) (by omega)]
            refine ⟨_, rfl, ⟨k + 1, by show (((k : Nat) : Int) + 1, l) = _; rfl, by omega, by omega, ?_⟩, by show l.length - (((k : Nat) : Int) + 1).toNat < l.length - (((k : Nat) : Int)).toNat; omega⟩
            rw [List.take_add_one, get_lt hk]
            show (l.take k ++ [l[k]]).Pairwise _
            rw [List.pairwise_append]
            refine ⟨k3, by simp, fun x hx y hy => ?_⟩
            obtain rfl := List.mem_singleton.1 hy
            obtain ⟨j, hj⟩ := List.getElem?_of_mem hx
            have hjl : j < k := by have := (List.getElem?_eq_some_iff.1 hj).1; rw [List.length_take] at this; omega
            rw [List.getElem?_take, if_pos hjl, get_lt (by omega)] at hj
            obtain rfl := Option.some.inj hj
            have a1 := List.pairwise_iff_getElem.1 hs (k - 1) k (by omega) hk (by omega)
            rcases Nat.lt_or_ge j (k - 1) with h | h
            · have := List.pairwise_iff_getElem.1 hs j (k - 1) (by omega) (by omega) h; omega
            · have : j = k - 1 := by omega
              subst this; omega
        · rw [decide_eq_false (show ¬ ((k : Nat) : Int) < ((l.length : Nat) : Int) by omega)]
          refine ⟨_, rfl, rfl, ?_⟩
          have : k = l.length := by omega
          subst this
          rwa [List.take_length] at k3) 1000000 (1, l) ⟨1, rfl, Nat.le_refl _, by omega, by
        cases l with
        | nil => simp
        | cons a t => simp⟩ (by show l.length - _ < _; omega)
    cases o with
    | ret r => exact ⟨r, by rw [h1]; rfl, h2.1, h2.2⟩
    | brk s => exact h2.elim
    | nxt s => exact ⟨l, by rw [h1, aft_some_nxt, h2.1], h2.2, fun x => Iff.rfl⟩
theorem sort_le (l : List Int) : (l.mergeSort fun x y => decide (x ≤ y)).Pairwise (· ≤ ·) :=
  (List.pairwise_mergeSort (le := fun x y : Int => decide (x ≤ y)) (fun a b c h1 h2 => by rw [decide_eq_true_eq] at *; omega) (fun a b => by rw [Bool.or_eq_true, decide_eq_true_eq, decide_eq_true_eq]; omega) l).imp fun h => of_decide_eq_true h
/-- The neighbours of a segment, rising. -/
theorem near_eq (s : Int) (E : List (List Int)) (hE : E.length ≤ 100) (hq : ∀ q ∈ E, q.length ≤ 100) : ∃ r, flood_neighbours_1 s E = some r ∧ r.Pairwise (· < ·) ∧ ∀ t, t ∈ r ↔ Jn E s t := by
  unfold flood_neighbours_1
  obtain ⟨u, h1, h2, h3⟩ := rangeL_inv (ρ := List Int) (body := flood_neighbours_1_b22 s) (xs := E) (s0 := []) (by omega) (fun k u => u.length ≤ 100 * k ∧ ∀ t, t ∈ u ↔ Jn (E.take k) s t) ⟨by simp, fun t => by
    simp [Jn]⟩ (fun k q u hk ⟨u1, u2⟩ => by
      have hkl := (List.getElem?_eq_some_iff.1 hk).1
      have hqm := hq q (List.mem_of_getElem? hk)
      unfold flood_neighbours_1_b22
      rw [containsInt_eq _ _ (by omega), Option.bind_some]
      have ht : E.take (k + 1) = E.take k ++ [q] := by rw [List.take_add_one, hk]; rfl
      have key : ∀ t, Jn (E.take (k + 1)) s t ↔ Jn (E.take k) s t ∨ (s ∈ q ∧ t ∈ q) := fun t => by
        unfold Jn
        rw [ht]
        constructor
        · rintro ⟨p, hp, h⟩
          rcases List.mem_append.1 hp with hp | hp
          · exact .inl ⟨p, hp, h⟩
          · obtain rfl := List.mem_singleton.1 hp; exact .inr h
        · rintro (⟨p, hp, h⟩ | h)
          · exact ⟨p, List.mem_append_left _ hp, h⟩
          · exact ⟨q, List.mem_append_right _ (List.mem_singleton.2 rfl), h⟩
      by_cases hs : s ∈ q
      · rw [decide_eq_true hs, cond_true, grd_true (fits_of (by rw [List.length_append]; omega) (by decide))]
        refine ⟨_, rfl, by rw [List.length_append]; omega, fun t => ?_⟩
        rw [key, List.mem_append, u2 t]
        simp [hs]
      · rw [decide_eq_false hs]
        refine ⟨_, rfl, by omega, fun t => ?_⟩
        rw [key, u2 t]; simp [hs])
  rw [List.take_length] at h3
  rw [h1, aft_some_nxt]
  unfold slices_Sort_int
  have hlen : u.length ≤ 10000 := by
    have := Nat.mul_le_mul_left 100 hE
    omega
  rw [grd_true (by omega), Option.bind_some]
  obtain ⟨r, r1, r2, r3⟩ := compact_eq (u.mergeSort fun x y => decide (x ≤ y)) (by rw [List.length_mergeSort]; omega) (sort_le u)
  exact ⟨r, by rw [r1]; rfl, r2, fun t => (r3 t).trans (sort_mem.trans (h3 t))⟩
end Go.RX
