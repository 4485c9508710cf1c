/- Rows of ints, sorted and made thin; how far segments are, as the program finds it. -/
import Derived.Test.YtoahcombdhgmhaaPb
import Derived.Test.YtoahcombdhgmhaaGen
import Derived.Test.YtoahcombdhgmhaaCmp
import Derived.Test.YtoahcombdhgmhaaFa
set_option linter.unusedVariables false
set_option linter.unusedSimpArgs false
open Go Go.RX
namespace Go.RX
theorem repeat_eq (n : Int) (h : 1 ≤ n ∧ n ≤ 8) : slices_Repeat_int [-1] n = some (List.replicate n.toNat (-1)) := by
  have : n = 1 ∨ n = 2 ∨ n = 3 ∨ n = 4 ∨ n = 5 ∨ n = 6 ∨ n = 7 ∨ n = 8 := by omega
  rcases this with rfl | rfl | rfl | rfl | rfl | rfl | rfl | rfl <;> decide +kernel
theorem get_lt {l : List Int} {k : Nat} (h : k < l.length) : l[k]? = some l[k] := List.getElem?_eq_getElem h
/-- A rising row, made thin. -/
theorem compact_in {l : List Int} (hl : l.length ≤ 900000) (hs : l.Pairwise (· ≤ ·)) {k : Nat} (hk0 : 1 ≤ k) (hk : k < l.length) (hasc : (l.take k).Pairwise (· < ·)) (he : l[k]? = l[k - 1]?) :
    ∃ (i : Nat) (L : List Int), loopF 1000000 (slices_Compact_int_b24 ((k : Int), l)) ((k : Int), 1, l) = some (.nxt (((i : Nat) : Int), ((l.length - k : Nat) : Int), L)) ∧ i < l.length ∧ L.length = l.length ∧ (L.take i).Pairwise (· < ·) ∧ ∀ x, x ∈ L.take i ↔ x ∈ l := by
  have hle : ∀ {a b : Nat} (hb : b < l.length) (hab : a ≤ b), l[a]'(by omega) ≤ l[b] := fun {a b} hb hab => by
    rcases Nat.lt_or_eq_of_le hab with h | h
    · exact List.pairwise_iff_getElem.1 hs a b (by omega) hb h
    · subst h; exact Int.le_refl _
  obtain ⟨o, h1, h2⟩ := loopF_rec (body := slices_Compact_int_b24 ((k : Int), l)) (fun s => l.length - s.2.1.toNat)
    (fun s => ∃ (i m : Nat), s.1 = (i : Int) ∧ s.2.1 = (m : Int) ∧ 1 ≤ m ∧ k + m ≤ l.length ∧ k ≤ i ∧ i + 1 ≤ k + m ∧ s.2.2.length = l.length ∧ (∀ j, i ≤ j → s.2.2[j]? = l[j]?) ∧ (s.2.2.take i).Pairwise (· < ·) ∧
      (∀ x, x ∈ s.2.2.take i ↔ x ∈ l.take (k + m)) ∧ s.2.2[i - 1]? = l[k + m - 1]?)
    (fun _ => False) (fun s => ∃ (i : Nat), s.1 = (i : Int) ∧ s.2.1 = ((l.length - k : Nat) : Int) ∧ i < l.length ∧ s.2.2.length = l.length ∧ (s.2.2.take i).Pairwise (· < ·) ∧ ∀ x, x ∈ s.2.2.take i ↔ x ∈ l)
    (fun s ⟨i, m, e1, e2, m1, m2, i1, i2, hL, hun, has, hmem, hlast⟩ => by
      obtain ⟨s1, s2, L⟩ := s
      dsimp only at e1 e2 hL hun has hmem hlast
      subst e1; subst e2
      unfold slices_Compact_int_b24
      dsimp only
      rw [Int.toNat_natCast]
      by_cases hm : k + m < l.length
      · have u1 : L[k + m]? = some l[k + m] := by rw [hun _ (by omega), get_lt hm]
        have u2 : L[k + (m - 1)]? = some (l[k + (m - 1)]'(by omega)) := by
          rw [hun _ (by omega), get_lt (by omega)]
        rw [decide_eq_true (show ((m : Nat) : Int) < ((L.length - k : Nat) : Int) by omega), cond_true, grd_true ⟨by omega, by omega⟩]
        unfold gixN
        rw [Int.toNat_natCast, u1, Option.bind_some, w64_in (x := ((m : Nat) : Int) - 1) (by omega) (by omega), grd_true ⟨by omega, by omega⟩, show (((m : Nat) : Int) - 1).toNat = m - 1 by omega, u2, Option.bind_some]
        have hidx : k + (m - 1) = k + m - 1 := by omega
        have htk : l.take (k + (m + 1)) = l.take (k + m) ++ [l[k + m]] := by rw [show k + (m + 1) = k + m + 1 by omega, List.take_add_one, get_lt hm]; rfl
        have hlast' : L[i - 1]? = some (l[k + (m - 1)]'(by omega)) := by rw [hlast, ← hidx, get_lt (by omega)]
        by_cases e : l[k + m] = l[k + (m - 1)]'(by omega)
        · rw [decide_eq_true e, Bool.not_true, cond_false, w64_in (by omega) (by omega)]
          refine ⟨_, rfl, ⟨i, m + 1, rfl, by show ((m : Nat) : Int) + 1 = _; omega, by omega, by omega, i1, by omega, hL, hun, has, fun x => ?_, ?_⟩, ?_⟩
          · show x ∈ L.take i ↔ _
            rw [htk, hmem x]
            constructor
            · exact fun h => List.mem_append_left _ h
            · intro h
              rcases List.mem_append.1 h with h | h
              · exact h
              · obtain rfl := List.mem_singleton.1 h
                rw [e]
                exact List.mem_of_getElem? (i := k + (m - 1)) (by rw [List.getElem?_take, if_pos (by omega), get_lt (by omega)])
          · show L[i - 1]? = _
            rw [hlast', show k + (m + 1) - 1 = k + m by omega, get_lt hm, e]
          · show l.length - (((m : Nat) : Int) + 1).toNat < l.length - (((m : Nat) : Int)).toNat; omega
        · rw [decide_eq_false e, Bool.not_false, cond_true, grd_true ⟨by omega, by omega⟩, grd_true ⟨by omega, by omega⟩, Int.toNat_natCast, get_lt (show i < L.length by omega), Option.bind_some, w64_in (by omega) (by omega), w64_in (by omega) (by omega)]
          have hnew : (L.set i l[k + m]).take (i + 1) = L.take i ++ [l[k + m]] := by
            rw [List.take_add_one, List.getElem?_set_self (by omega), List.take_set_of_le (Nat.le_refl i)]; rfl
          refine ⟨_, rfl, ⟨i + 1, m + 1, by show ((i : Nat) : Int) + 1 = _; omega, by show ((m : Nat) : Int) + 1 = _; omega, by omega, by omega, by omega, by omega, ?_, fun j hj => ?_, ?_, fun x => ?_, ?_⟩, ?_⟩
          · show (L.set _ _).length = _; rw [List.length_set, hL]
          · show (L.set i _)[j]? = _; rw [List.getElem?_set_ne (by omega)]; exact hun j (by omega)
          · show ((L.set i l[k + m]).take (i + 1)).Pairwise _
            rw [hnew, List.pairwise_append]
            refine ⟨has, by simp, fun x hx y hy => ?_⟩
            obtain rfl := List.mem_singleton.1 hy
            have hx' := (hmem x).1 hx
            obtain ⟨j, hj⟩ := List.getElem?_of_mem hx'
            have hjl : j < k + m := by have := (List.getElem?_eq_some_iff.1 hj).1; rw [List.length_take] at this; omega
            rw [List.getElem?_take, if_pos hjl, get_lt (by omega)] at hj
            obtain rfl := Option.some.inj hj
            have a1 := hle (a := j) (b := k + (m - 1)) (by omega) (by omega)
            have a2 := hle (a := k + (m - 1)) (b := k + m) hm (by omega)
            omega
          · show x ∈ (L.set i l[k + m]).take (i + 1) ↔ _
            rw [hnew, htk, List.mem_append, List.mem_append, hmem x]
          · show (L.set i l[k + m])[i + 1 - 1]? = _
            rw [show i + 1 - 1 = i by omega, List.getElem?_set_self (by omega), show k + (m + 1) - 1 = k + m by omega, get_lt hm]
          · show l.length - (((m : Nat) : Int) + 1).toNat < l.length - (((m : Nat) : Int)).toNat; omega
      · rw [decide_eq_false (show ¬ ((m : Nat) : Int) < ((L.length - k : Nat) : Int) by omega)]
        have hkm : k + m = l.length := by omega
        refine ⟨_, rfl, i, rfl, by show ((m : Nat) : Int) = _; omega, by omega, hL, has, fun x => ?_⟩
        rw [hmem x, hkm, List.take_length]) 1000000 ((k : Int), 1, l)
    ⟨k, 1, rfl, rfl, Nat.le_refl _, by omega, Nat.le_refl _, by omega, rfl, fun j _ => rfl, hasc, fun x => by
      show x ∈ l.take k ↔ _
      rw [List.take_add_one, get_lt hk]
      constructor
      · exact fun h => List.mem_append_left _ h
      · intro h
        rcases List.mem_append.1 h with h | h
        · exact h
        · have h : x ∈ [l[k]] := h
          obtain rfl := List.mem_singleton.1 h
          rw [get_lt hk] at he
          exact List.mem_of_getElem? (i := k - 1) (by rw [List.getElem?_take, if_pos (by omega), ← he]), by
      show l[k - 1]? = _
      rw [show k + 1 - 1 = k by omega, he]⟩ (by show l.length - _ < _; omega)
  cases o with
  | ret r => exact h2.elim
  | brk s => exact h2.elim
  | nxt s =>
    obtain ⟨s1, s2, L⟩ := s
    obtain ⟨i, e1, e2, h3, h4, h5, h6⟩ := h2
    dsimp only at e1 e2
    subst e1; subst e2
    exact ⟨i, L, h1, h3, h4, h5, h6⟩
theorem compact_eq (l : List Int) (hl : l.length ≤ 900000) (hs : l.Pairwise (· ≤ ·)) : ∃ r, slices_Compact_int l = some r ∧ r.Pairwise (· < ·) ∧ ∀ x, x ∈ r ↔ x ∈ l := by
  unfold slices_Compact_int
  by_cases h2 : ((l.length : Nat) : Int) < 2
  · rw [decide_eq_true h2]
    refine ⟨l, rfl, ?_, fun x => Iff.rfl⟩
    match l, h2 with
    | [], _ => exact List.Pairwise.nil
    | [a], _ => simp
    | _ :: _ :: _, h => simp at h; omega
  · rw [decide_eq_false h2, cond_false]
    obtain ⟨o, h1, h2⟩ := loopF_rec (body := slices_Compact_int_b23) (fun s => l.length - s.1.toNat)
      (fun s => ∃ k : Nat, s = ((k : Int), l) ∧ 1 ≤ k ∧ k ≤ l.length ∧ (l.take k).Pairwise (· < ·)) (fun r => r.Pairwise (· < ·) ∧ ∀ x, x ∈ r ↔ x ∈ l) (fun s => s.2 = l ∧ l.Pairwise (· < ·))
      (fun s ⟨k, e, k1, k2, k3⟩ => by
        subst e
        unfold slices_Compact_int_b23
        dsimp only
        by_cases hk : k < l.length
        · rw [decide_eq_true (show ((k : Nat) : Int) < ((l.length : Nat) : Int) by omega), cond_true, grd_true ⟨by omega, by omega⟩]
          unfold gixN
          rw [Int.toNat_natCast, get_lt hk, Option.bind_some, w64_in (x := ((k : Nat) : Int) - 1) (by omega) (by omega), grd_true ⟨by omega, by omega⟩, show (((k : Nat) : Int) - 1).toNat = k - 1 by omega, get_lt (show k - 1 < l.length by omega), Option.bind_some]
          by_cases e : l[k] = l[k - 1]
          · obtain ⟨i, L, g1, g2, g3, g4, g5⟩ := compact_in hl hs k1 hk k3 (by rw [get_lt hk, get_lt (show k - 1 < l.length by omega), e])
            rw [decide_eq_true e, cond_true, grd_true ⟨by omega, by omega⟩, g1, aft_some_nxt]
            dsimp only
            rw [grd_true ⟨by omega, by omega⟩, grd_true ⟨by omega, by omega⟩, Int.toNat_natCast]
            exact ⟨_, rfl, g4, g5⟩
          · rw [decide_eq_false e, w64_in (by omega) (by omega)]
            refine ⟨_, rfl, ⟨k + 1, by show (((k : Nat) : Int) + 1, l) = _; rfl, by omega, by omega, ?_⟩, by show l.length - (((k : Nat) : Int) + 1).toNat < l.length - (((k : Nat) : Int)).toNat; omega⟩
            rw [List.take_add_one, get_lt hk]
            show (l.take k ++ [l[k]]).Pairwise _
            rw [List.pairwise_append]
            refine ⟨k3, by simp, fun x hx y hy => ?_⟩
            obtain rfl := List.mem_singleton.1 hy
            obtain ⟨j, hj⟩ := List.getElem?_of_mem hx
            have hjl : j < k := by have := (List.getElem?_eq_some_iff.1 hj).1; rw [List.length_take] at this; omega
            rw [List.getElem?_take, if_pos hjl, get_lt (by omega)] at hj
            obtain rfl := Option.some.inj hj
            have a1 := List.pairwise_iff_getElem.1 hs (k - 1) k (by omega) hk (by omega)
            rcases Nat.lt_or_ge j (k - 1) with h | h
            · have := List.pairwise_iff_getElem.1 hs j (k - 1) (by omega) (by omega) h; omega
            · have : j = k - 1 := by omega
              subst this; omega
        · rw [decide_eq_false (show ¬ ((k : Nat) : Int) < ((l.length : Nat) : Int) by omega)]
          refine ⟨_, rfl, rfl, ?_⟩
          have : k = l.length := by omega
          subst this
          rwa [List.take_length] at k3) 1000000 (1, l) ⟨1, rfl, Nat.le_refl _, by omega, by
        cases l with
        | nil => simp
        | cons a t => simp⟩ (by show l.length - _ < _; omega)
    cases o with
    | ret r => exact ⟨r, by rw [h1]; rfl, h2.1, h2.2⟩
    | brk s => exact h2.elim
    | nxt s => exact ⟨l, by rw [h1, aft_some_nxt, h2.1], h2.2, fun x => Iff.rfl⟩
theorem sort_le (l : List Int) : (l.mergeSort fun x y => decide (x ≤ y)).Pairwise (· ≤ ·) :=
  (List.pairwise_mergeSort (le := fun x y : Int => decide (x ≤ y)) (fun a b c h1 h2 => by rw [decide_eq_true_eq] at *; omega) (fun a b => by rw [Bool.or_eq_true, decide_eq_true_eq, decide_eq_true_eq]; omega) l).imp fun h => of_decide_eq_true h
/-- The neighbours of a segment, rising. -/
theorem near_eq (s : Int) (E : List (List Int)) (hE : E.length ≤ 100) (hq : ∀ q ∈ E, q.length ≤ 100) : ∃ r, flood_neighbours_1 s E = some r ∧ r.Pairwise (· < ·) ∧ ∀ t, t ∈ r ↔ Jn E s t := by
  unfold flood_neighbours_1
  obtain ⟨u, h1, h2, h3⟩ := rangeL_inv (ρ := List Int) (body := flood_neighbours_1_b22 s) (xs := E) (s0 := []) (by omega) (fun k u => u.length ≤ 100 * k ∧ ∀ t, t ∈ u ↔ Jn (E.take k) s t) ⟨by simp, fun t => by
    simp [Jn]⟩ (fun k q u hk ⟨u1, u2⟩ => by
      have hkl := (List.getElem?_eq_some_iff.1 hk).1
      have hqm := hq q (List.mem_of_getElem? hk)
      unfold flood_neighbours_1_b22
      rw [containsInt_eq _ _ (by omega), Option.bind_some]
      have ht : E.take (k + 1) = E.take k ++ [q] := by rw [List.take_add_one, hk]; rfl
      have key : ∀ t, Jn (E.take (k + 1)) s t ↔ Jn (E.take k) s t ∨ (s ∈ q ∧ t ∈ q) := fun t => by
        unfold Jn
        rw [ht]
        constructor
        · rintro ⟨p, hp, h⟩
          rcases List.mem_append.1 hp with hp | hp
          · exact .inl ⟨p, hp, h⟩
          · obtain rfl := List.mem_singleton.1 hp; exact .inr h
        · rintro (⟨p, hp, h⟩ | h)
          · exact ⟨p, List.mem_append_left _ hp, h⟩
          · exact ⟨q, List.mem_append_right _ (List.mem_singleton.2 rfl), h⟩
      by_cases hs : s ∈ q
      · rw [decide_eq_true hs, cond_true, grd_true (fits_of (by rw [List.length_append]; omega) (by decide))]
        refine ⟨_, rfl, by rw [List.length_append]; omega, fun t => ?_⟩
        rw [key, List.mem_append, u2 t]
        simp [hs]
      · rw [decide_eq_false hs]
        refine ⟨_, rfl, by omega, fun t => ?_⟩
        rw [key, u2 t]; simp [hs])
  rw [List.take_length] at h3
  rw [h1, aft_some_nxt]
  unfold slices_Sort_int
  have hlen : u.length ≤ 10000 := by
    have := Nat.mul_le_mul_left 100 hE
    omega
  rw [grd_true (by omega), Option.bind_some]
  obtain ⟨r, r1, r2, r3⟩ := compact_eq (u.mergeSort fun x y => decide (x ≤ y)) (by rw [List.length_mergeSort]; omega) (sort_le u)
  exact ⟨r, by rw [r1]; rfl, r2, fun t => (r3 t).trans (sort_mem.trans (h3 t))⟩
/-- A bridge's open ports' segments. -/
def opn (p : PlanT) (o : List Bool) : List Int := (p.Ports.zip o).filterMap fun x => if x.1.Up = true ∧ x.2 = true then some x.1.Seg else none
def edO (l : LanT) (open_ : List (List Bool)) : List (List Int) := (l.Plans.zip open_).map fun x => opn x.1 x.2
/-- Rows that fit a plan. -/
structure Shp (l : LanT) (o : List (List Bool)) : Prop where
  len : o.length = l.Plans.length
  row : ∀ (b : Nat) (p : PlanT) (q : List Bool), l.Plans[b]? = some p → o[b]? = some q → q.length = p.Ports.length
theorem opn_len (p : PlanT) (o : List Bool) : (opn p o).length ≤ p.Ports.length := by
  unfold opn
  refine Nat.le_trans (List.length_filterMap_le _ _) ?_
  rw [List.length_zip]; omega
theorem mem_opn {p : PlanT} {o : List Bool} {s : Int} : s ∈ opn p o ↔ ∃ (k : Nat) (x : LinkT), p.Ports[k]? = some x ∧ o[k]? = some true ∧ x.Up = true ∧ x.Seg = s := by
  unfold opn
  rw [List.mem_filterMap]
  constructor
  · rintro ⟨x, hx, he⟩
    obtain ⟨k, hk⟩ := List.getElem?_of_mem hx
    rw [List.getElem?_zip_eq_some] at hk
    split at he
    · rename_i hc
      exact ⟨k, x.1, hk.1, by rw [hk.2, hc.2], hc.1, Option.some.inj he⟩
    · cases he
  · rintro ⟨k, x, hx, ho, hu, hs⟩
    exact ⟨(x, true), List.mem_of_getElem? (i := k) (List.getElem?_zip_eq_some.2 ⟨hx, ho⟩), by simp [hu, hs]⟩
theorem jn_edO {l : LanT} {o : List (List Bool)} {a b : Int} : Jn (edO l o) a b ↔ ∃ (c : Nat) (p : PlanT) (q : List Bool), l.Plans[c]? = some p ∧ o[c]? = some q ∧ a ∈ opn p q ∧ b ∈ opn p q := by
  unfold Jn edO
  constructor
  · rintro ⟨r, hr, h1, h2⟩
    obtain ⟨x, hx, rfl⟩ := List.mem_map.1 hr
    obtain ⟨c, hc⟩ := List.getElem?_of_mem hx
    rw [List.getElem?_zip_eq_some] at hc
    exact ⟨c, x.1, x.2, hc.1, hc.2, h1, h2⟩
  · rintro ⟨c, p, q, h1, h2, h3, h4⟩
    exact ⟨opn p q, List.mem_map.2 ⟨(p, q), List.mem_of_getElem? (i := c) (List.getElem?_zip_eq_some.2 ⟨h1, h2⟩), rfl⟩, h3, h4⟩
theorem opens_eq (l : LanT) (o : List (List Bool)) (hf : FewL l) (hs : Shp l o) {b : Nat} {p : PlanT} {q : List Bool} (hp : l.Plans[b]? = some p) (hq : o[b]? = some q) : flood_opens l o (b : Int) = some (opn p q) := by
  unfold flood_opens
  rw [gix_nat, hp, Option.bind_some]
  have hpl := hf.ports p (List.mem_of_getElem? hp)
  have hlen := hs.row b p q hp hq
  obtain ⟨u, h1, h2⟩ := rangeL_inv (ρ := List Int) (body := flood_opens_b20 o (b : Int)) (xs := p.Ports) (s0 := []) (by omega) (fun k u => u = ((p.Ports.zip q).take k).filterMap (fun x => if x.1.Up = true ∧ x.2 = true then some x.1.Seg else none) ∧ u.length ≤ k) ⟨by simp, by simp⟩ (fun k x u hk ⟨hu, hul⟩ => by
    have hkl := (List.getElem?_eq_some_iff.1 hk).1
    have hqk : q[k]? = some (q[k]'(by omega)) := List.getElem?_eq_getElem (by omega)
    have hz : (p.Ports.zip q)[k]? = some (x, q[k]'(by omega)) := List.getElem?_zip_eq_some.2 ⟨hk, hqk⟩
    generalize q[k]'(by omega) = v at hqk hz
    unfold flood_opens_b20
    rw [gix_nat, hq, gd_some, Option.bind_some, List.take_add_one, hz, List.filterMap_append, ← hu, grd_true (fits_of (by rw [List.length_append]; simp; omega) (by decide))]
    cases hx : x.Up with
    | false => exact ⟨_, rfl, by simp [hx], by omega⟩
    | true =>
      simp only [gd_true, cond_true]
      rw [gix_nat, hqk, Option.bind_some]
      cases v with
      | false => exact ⟨_, rfl, by simp [hx], by omega⟩
      | true => exact ⟨_, rfl, by simp [hx], by rw [List.length_append]; simp; omega⟩)
  rw [h1, aft_some_nxt, h2.1]
  unfold opn
  have : p.Ports.length = (p.Ports.zip q).length := by rw [List.length_zip]; omega
  rw [this, List.take_length]
theorem neighbours_eq (l : LanT) (o : List (List Bool)) (hf : FewL l) (hs : Shp l o) : flood_neighbours l o = some (edO l o) := by
  unfold flood_neighbours
  have hpl := hf.plans
  obtain ⟨u, h1, h2⟩ := rangeL_inv (ρ := List (List Int)) (body := flood_neighbours_b19 l o) (xs := l.Plans) (s0 := []) (by omega) (fun k u => u = ((l.Plans.zip o).take k).map (fun x => opn x.1 x.2) ∧ u.length ≤ k) ⟨by simp, by simp⟩ (fun k p u hk ⟨hu, hul⟩ => by
    have hkl := (List.getElem?_eq_some_iff.1 hk).1
    have hok : o[k]? = some (o[k]'(by rw [hs.len]; exact hkl)) := List.getElem?_eq_getElem (by rw [hs.len]; exact hkl)
    have hz : (l.Plans.zip o)[k]? = some (p, o[k]'(by rw [hs.len]; exact hkl)) := List.getElem?_zip_eq_some.2 ⟨hk, hok⟩
    generalize o[k]'(by rw [hs.len]; exact hkl) = q at hok hz
    unfold flood_neighbours_b19
    rw [opens_eq l o hf hs hk hok, Option.bind_some, grd_true (fits_of (by rw [List.length_append]; simp; omega) (by decide))]
    exact ⟨_, rfl, by rw [hu, List.take_add_one, hz, List.map_append]; rfl, by rw [List.length_append]; simp; omega⟩)
  rw [h1, aft_some_nxt, h2.1]
  unfold edO
  have : l.Plans.length = (l.Plans.zip o).length := by rw [List.length_zip, hs.len]; omega
  rw [this, List.take_length]
theorem edO_bnd {l : LanT} {o : List (List Bool)} (h : LR l) : ∀ a b, Jn (edO l o) a b → 0 ≤ b ∧ b < l.Segs := fun a b hj => by
  obtain ⟨c, p, q, h1, _, _, h4⟩ := jn_edO.1 hj
  obtain ⟨k, x, hx, _, _, rfl⟩ := mem_opn.1 h4
  exact ((h.plan p (List.mem_of_getElem? h1)).2.2 x (List.mem_of_getElem? hx)).1
theorem dv_some {d : List Int} {s : Int} {n : Nat} (h0 : 0 ≤ s) (hs : s.toNat < d.length) : d[s.toNat]? = some (dv d s) := by
  unfold dv; rw [List.getElem?_eq_getElem hs]; rfl
theorem steps_eq (l : LanT) (o : List (List Bool)) (hf : FewL l) (h : LR l) (hs : Shp l o) (a : Int) (ha : 0 ≤ a ∧ a < l.Segs) : ∃ d, flood_steps l o a = some d ∧ DT (Jn (edO l o)) a l.Segs.toNat d := by
  have hseg := h.segs
  have hN : ((l.Segs.toNat : Nat) : Int) = l.Segs := by omega
  have hG : ∀ x y, Jn (edO l o) x y → 0 ≤ y ∧ y < ((l.Segs.toNat : Nat) : Int) := by rw [hN]; exact edO_bnd h
  have hE1 : (edO l o).length ≤ 100 := by unfold edO; rw [List.length_map, List.length_zip]; have := hf.plans; omega
  have hE2 : ∀ q ∈ edO l o, q.length ≤ 100 := fun q hq => by
    obtain ⟨x, hx, rfl⟩ := List.mem_map.1 hq
    have h1 := opn_len x.1 x.2
    have h2 := hf.ports x.1 (List.of_mem_zip hx).1
    omega
  unfold flood_steps
  rw [repeat_eq l.Segs hseg, Option.bind_some, List.length_replicate, grd_true ⟨ha.1, by omega⟩]
  unfold gixN
  rw [List.getElem?_replicate, if_pos (by omega), Option.bind_some, neighbours_eq l o hf hs, Option.bind_some]
  generalize edO l o = E at hG hE1 hE2
  obtain ⟨u, h1, h2⟩ := loopF_rec (ρ := List Int) (body := flood_steps_b18 E) (fun s => 100 - s.2.1.toNat)
    (fun s => ∃ i : Nat, s.2.1 = (i : Int) ∧ i ≤ s.1.length ∧ QI (Jn E) a l.Segs.toNat i (fun _ => False) s.2.2 s.1) (fun _ => False) (fun s => DT (Jn E) a l.Segs.toNat s.2.2)
    (fun s ⟨i, e, hi, hq⟩ => by
      obtain ⟨q, s2, d⟩ := s
      dsimp only at e hi hq
      subst e
      have hsz := hq.size
      unfold flood_steps_b18
      dsimp only
      by_cases hil : i < q.length
      · rw [decide_eq_true (show ((i : Nat) : Int) < ((q.length : Nat) : Int) by omega), cond_true, grd_true ⟨by omega, by omega⟩]
        unfold gixN
        rw [Int.toNat_natCast]
        have hu : q[i]? = some q[i] := List.getElem?_eq_getElem hil
        rw [hu, Option.bind_some]
        generalize q[i] = w at hu
        obtain ⟨nb, n1, n2, n3⟩ := near_eq w E hE1 hE2
        rw [n1, Option.bind_some]
        have hnl : nb.length ≤ 8 := by
          have := nodup_len (m := upI l.Segs) (n2.imp fun h => by omega) fun x hx => mem_upI.2 (by have := hG w x ((n3 x).1 hx); omega)
          have hu : (upI l.Segs).length = l.Segs.toNat := by simp [upI]
          omega
        obtain ⟨t, t1, t2, t3, t4⟩ := rangeN_inv (ρ := Step (List Int) ((List Int) × Int × (List Int))) (body := flood_steps_b19 (q, (i : Int), d) nb) (n := ((nb.length : Nat) : Int)) (s0 := (q, d)) (by omega)
          (fun m t => QI (Jn E) a l.Segs.toNat i (fun x => x ∈ nb.take m) t.2 t.1 ∧ t.1[i]? = some w ∧ i < t.1.length) ⟨by
            have : (fun x : Int => x ∈ nb.take 0) = fun _ => False := by funext x; simp
            rw [this]; exact hq, hu, hil⟩ (fun m t hm ⟨tq, tw, tl⟩ => by
            obtain ⟨q', d'⟩ := t
            dsimp only at tq tw tl
            have hm' : m < nb.length := by omega
            unfold flood_steps_b19
            rw [grd_true ⟨by omega, by omega⟩, Int.toNat_natCast]
            unfold gixN
            rw [List.getElem?_eq_getElem hm', Option.bind_some]
            have hmem : nb[m] ∈ nb := List.getElem_mem hm'
            have htk : (fun x : Int => x ∈ nb.take (m + 1)) = fun x => x ∈ nb.take m ∨ x = nb[m] := by
              funext x
              rw [List.take_add_one, List.getElem?_eq_getElem hm']
              exact propext (List.mem_append.trans (or_congr Iff.rfl List.mem_singleton))
            have hPb : ∀ x, x ∈ nb.take m → 0 ≤ x ∧ x < ((l.Segs.toNat : Nat) : Int) := fun x hx => hG w x ((n3 x).1 (List.mem_of_mem_take hx))
            rw [htk]
            generalize nb[m] = z at hmem
            have hz := (n3 z).1 hmem
            have hzb := hG w z hz
            have hdl := tq.len
            dsimp only
            rw [grd_true ⟨hzb.1, by omega⟩, dv_some (n := 0) hzb.1 (by omega), Option.bind_some]
            by_cases hv : dv d' z < 0
            · have hwq : w ∈ q' := List.mem_of_getElem? tw
              have hwb := tq.bnd w hwq
              have hwv : ∃ k : Nat, dv d' w = k ∧ Wk (Jn E) a k w := by
                rcases tq.mem w hwb.1 hwb.2 with h1 | h1
                · exact h1.2
                · exact absurd hwq h1.1
              obtain ⟨k, hk, _⟩ := hwv
              have hk8 : (k : Int) ≤ 1000 := by
                have := tq.lvl i w tw
                have := tq.size
                omega
              have hqs := tq.size
              rw [decide_eq_true hv, cond_true, grd_true ⟨by omega, by omega⟩, Int.toNat_natCast, tw, Option.bind_some, grd_true ⟨hwb.1, by omega⟩, dv_some (n := 0) hwb.1 (by omega), Option.bind_some, grd_true ⟨hzb.1, by omega⟩, grd_true (fits_of (by rw [List.length_append]; simp; omega) (by decide)), w64_in (by omega) (by omega)]
              exact ⟨_, rfl, tq.new hG hPb tw hz hv, by show (q' ++ [z])[i]? = some w; rw [List.getElem?_append_left tl]; exact tw, by show i < (q' ++ [z]).length; rw [List.length_append]; omega⟩
            · rw [decide_eq_false hv]
              exact ⟨_, rfl, tq.old tw hzb (by omega), tw, tl⟩)
        rw [t1, aft_some_nxt, w64_in (by omega) (by omega)]
        refine ⟨_, rfl, ⟨i + 1, by show ((i : Nat) : Int) + 1 = _; omega, t4, ?_⟩, ?_⟩
        · refine t2.next t3 fun x hx => ?_
          rw [Int.toNat_natCast, List.take_length]; exact (n3 x).2 hx
        · show 100 - (((i : Nat) : Int) + 1).toNat < 100 - (((i : Nat) : Int)).toNat; omega
      · rw [decide_eq_false (show ¬ ((i : Nat) : Int) < ((q.length : Nat) : Int) by omega)]
        exact ⟨_, rfl, hq.fin (by omega) hG (by omega)⟩) 1000000 ([a], 0, (List.replicate l.Segs.toNat (-1)).set a.toNat 0)
    ⟨0, rfl, by simp, QI.start (by omega) (by rw [List.length_set, List.length_replicate]) (dv_eq ha.1 (by rw [List.length_replicate]; omega)) (fun s s1 s2 s3 => by
      rw [dv_ne s1 ha.1 s3]
      unfold dv; rw [List.getElem?_replicate, if_pos (by omega)]; rfl)⟩ (by show 100 - _ < _; omega)
  cases u with
  | ret r => exact h2.elim
  | brk s => exact h2.elim
  | nxt s => exact ⟨s.2.2, by rw [h1]; rfl, h2⟩
end Go.RX
