/- How far segments are, as the program finds it, plainly. -/
import Derived.Test.YtoahcombdhgmhaaQa
set_option linter.unusedVariables false
set_option linter.unusedSimpArgs false
open Go Go.RX
namespace Go.RX
/-- A bridge's open ports' segments. -/
def opn (p : PlanT) (o : List Bool) : List Int := (p.Ports.zip o).filterMap fun x => if x.1.Up = true ∧ x.2 = true then some x.1.Seg else none
def edO (l : LanT) (open_ : List (List Bool)) : List (List Int) := (l.Plans.zip open_).map fun x => opn x.1 x.2
/-- Rows that fit a plan. -/
structure Shp (l : LanT) (o : List (List Bool)) : Prop where
  len : o.length = l.Plans.length
  row : ∀ (b : Nat) (p : PlanT) (q : List Bool), l.Plans[b]? = some p → o[b]? = some q → q.length = p.Ports.length
theorem opn_len (p : PlanT) (o : List Bool) : (opn p o).length ≤ p.Ports.length := by
  unfold opn
  refine Nat.le_trans (List.length_filterMap_le _ _) ?_
  rw [List.length_zip]; omega
theorem mem_opn {p : PlanT} {o : List Bool} {s : Int} : s ∈ opn p o ↔ ∃ (k : Nat) (x : LinkT), p.Ports[k]? = some x ∧ o[k]? = some true ∧ x.Up = true ∧ x.Seg = s := by
  unfold opn
  rw [List.mem_filterMap]
  constructor
  · rintro ⟨x, hx, he⟩
    obtain ⟨k, hk⟩ := List.getElem?_of_mem hx
    rw [List.getElem?_zip_eq_some] at hk
    split at he
    · rename_i hc
      exact ⟨k, x.1, hk.1, by rw [hk.2, hc.2], hc.1, Option.some.inj he⟩
    · cases he
  · rintro ⟨k, x, hx, ho, hu, hs⟩
    exact ⟨(x, true), List.mem_of_getElem? (i := k) (List.getElem?_zip_eq_some.2 ⟨hx, ho⟩), by simp [hu, hs]⟩
theorem jn_edO {l : LanT} {o : List (List Bool)} {a b : Int} : Jn (edO l o) a b ↔ ∃ (c : Nat) (p : PlanT) (q : List Bool), l.Plans[c]? = some p ∧ o[c]? = some q ∧ a ∈ opn p q ∧ b ∈ opn p q := by
  unfold Jn edO
  constructor
  · rintro ⟨r, hr, h1, h2⟩
    obtain ⟨x, hx, rfl⟩ := List.mem_map.1 hr
    obtain ⟨c, hc⟩ := List.getElem?_of_mem hx
    rw [List.getElem?_zip_eq_some] at hc
    exact ⟨c, x.1, x.2, hc.1, hc.2, h1, h2⟩
  · rintro ⟨c, p, q, h1, h2, h3, h4⟩
    exact ⟨opn p q, List.mem_map.2 ⟨(p, q), List.mem_of_getElem? (i := c) (List.getElem?_zip_eq_some.2 ⟨h1, h2⟩), rfl⟩, h3, h4⟩
theorem opens_eq (l : LanT) (o : List (List Bool)) (hf : FewL l) (hs : Shp l o) {b : Nat} {p : PlanT} {q : List Bool} (hp : l.Plans[b]? = some p) (hq : o[b]? = some q) : flood_opens l o (b : Int) = some (opn p q) := by
  unfold flood_opens
  rw [gix_nat, hp, Option.bind_some]
  have hpl := hf.ports p (List.mem_of_getElem? hp)
  have hlen := hs.row b p q hp hq
  obtain ⟨u, h1, h2⟩ := rangeL_inv (ρ := List Int) (body := flood_opens_b20 o (b : Int)) (xs := p.Ports) (s0 := []) (by omega) (fun k u => u = ((p.Ports.zip q).take k).filterMap (fun x => if x.1.Up = true ∧ x.2 = true then some x.1.Seg else none) ∧ u.length ≤ k) ⟨by simp, by simp⟩ (fun k x u hk ⟨hu, hul⟩ => by
    have hkl := (List.getElem?_eq_some_iff.1 hk).1
    have hqk : q[k]? = some (q[k]'(by omega)) := List.getElem?_eq_getElem (by omega)
    have hz : (p.Ports.zip q)[k]? = some (x, q[k]'(by omega)) := List.getElem?_zip_eq_some.2 ⟨hk, hqk⟩
    generalize q[k]'(by omega) = v at hqk hz
    unfold flood_opens_b20
    rw [gix_nat, hq, gd_some, Option.bind_some, List.take_add_one, hz, List.filterMap_append, ← hu, grd_true (fits_of (by rw [List.length_append]; simp; omega) (by decide))]
    cases hx : x.Up with
    | false => exact ⟨_, rfl, by simp [hx], by omega⟩
    | true =>
      simp only [gd_true, cond_true]
      rw [gix_nat, hqk, Option.bind_some]
      cases v with
      | false => exact ⟨_, rfl, by simp [hx], by omega⟩
      | true => exact ⟨_, rfl, by simp [hx], by rw [List.length_append]; simp; omega⟩)
  rw [h1, aft_some_nxt, h2.1]
  unfold opn
  have : p.Ports.length = (p.Ports.zip q).length := by rw [List.length_zip]; omega
  rw [this, List.take_length]
theorem neighbours_eq (l : LanT) (o : List (List Bool)) (hf : FewL l) (hs : Shp l o) : flood_neighbours l o = some (edO l o) := by
  unfold flood_neighbours
  have hpl := hf.plans
  obtain ⟨u, h1, h2⟩ := rangeL_inv (ρ := List (List Int)) (body := flood_neighbours_b19 l o) (xs := l.Plans) (s0 := []) (by omega) (fun k u => u = ((l.Plans.zip o).take k).map (fun x => opn x.1 x.2) ∧ u.length ≤ k) ⟨by simp, by simp⟩ (fun k p u hk ⟨hu, hul⟩ => by
    have hkl := (List.getElem?_eq_some_iff.1 hk).1
    have hok : o[k]? = some (o[k]'(by rw [hs.len]; exact hkl)) := List.getElem?_eq_getElem (by rw [hs.len]; exact hkl)
    have hz : (l.Plans.zip o)[k]? = some (p, o[k]'(by rw [hs.len]; exact hkl)) := List.getElem?_zip_eq_some.2 ⟨hk, hok⟩
    generalize o[k]'(by rw [hs.len]; exact hkl) = q at hok hz
    unfold flood_neighbours_b19
    rw [opens_eq l o hf hs hk hok, Option.bind_some, grd_true (fits_of (by rw [List.length_append]; simp; omega) (by decide))]
    exact ⟨_, rfl, by rw [hu, List.take_add_one, hz, List.map_append]; rfl, by rw [List.length_append]; simp; omega⟩)
  rw [h1, aft_some_nxt, h2.1]
  unfold edO
  have : l.Plans.length = (l.Plans.zip o).length := by rw [List.length_zip, hs.len]; omega
  rw [this, List.take_length]
theorem edO_bnd {l : LanT} {o : List (List Bool)} (h : LR l) : ∀ a b, Jn (edO l o) a b → 0 ≤ b ∧ b < l.Segs := fun a b hj => by
  obtain ⟨c, p, q, h1, _, _, h4⟩ := jn_edO.1 hj
  obtain ⟨k, x, hx, _, _, rfl⟩ := mem_opn.1 h4
  exact ((h.plan p (List.mem_of_getElem? h1)).2.2 x (List.mem_of_getElem? hx)).1
theorem dv_some {d : List Int} {s : Int} {n : Nat} (h0 : 0 ≤ s) (hs : s.toNat < d.length) : d[s.toNat]? = some (dv d s) := by
  unfold dv; rw [List.getElem?_eq_getElem hs]; rfl
theorem steps_eq (l : LanT) (o : List (List Bool)) (hf : FewL l) (h : LR l) (hs : Shp l o) (a : Int) (ha : 0 ≤ a ∧ a < l.Segs) : ∃ d, flood_steps l o a = some d ∧ DT (Jn (edO l o)) a l.Segs.toNat d := by
  have hseg := h.segs
  have hN : ((l.Segs.toNat : Nat) : Int) = l.Segs := by omega
  have hG : ∀ x y, Jn (edO l o) x y → 0 ≤ y ∧ y < ((l.Segs.toNat : Nat) : Int) := by rw [hN]; exact edO_bnd h
  have hE1 : (edO l o).length ≤ 100 := by unfold edO; rw [List.length_map, List.length_zip]; have := hf.plans; omega
  have hE2 : ∀ q ∈ edO l o, q.length ≤ 100 := fun q hq => by
    obtain ⟨x, hx, rfl⟩ := List.mem_map.1 hq
    have h1 := opn_len x.1 x.2
    have h2 := hf.ports x.1 (List.of_mem_zip hx).1
    omega
  unfold flood_steps
  rw [repeat_eq l.Segs hseg, Option.bind_some, List.length_replicate, grd_true ⟨ha.1, by omega⟩]
  unfold gixN
  rw [List.getElem?_replicate, if_pos (by omega), Option.bind_some, neighbours_eq l o hf hs, Option.bind_some]
  generalize edO l o = E at hG hE1 hE2
  obtain ⟨u, h1, h2⟩ := loopF_rec (ρ := List Int) (body := flood_steps_b18 E) (fun s => 100 - s.2.1.toNat)
    (fun s => ∃ i : Nat, s.2.1 = (i : Int) ∧ i ≤ s.1.length ∧ QI (Jn E) a l.Segs.toNat i (fun _ => False) s.2.2 s.1) (fun _ => False) (fun s => DT (Jn E) a l.Segs.toNat s.2.2)
    (fun s ⟨i, e, hi, hq⟩ => by
      obtain ⟨q, s2, d⟩ := s
      dsimp only at e hi hq
      subst e
      have hsz := hq.size
      unfold flood_steps_b18
      dsimp only
      by_cases hil : i < q.length
      · rw [decide_eq_true (show ((i : Nat) : Int) < ((q.length : Nat) : Int) by omega), cond_true, grd_true ⟨by omega, by omega⟩]
        unfold gixN
        rw [Int.toNat_natCast]
        have hu : q[i]? = some q[i] := List.getElem?_eq_getElem hil
        rw [hu, Option.bind_some]
        generalize q[i] = w at hu
        obtain ⟨nb, n1, n2, n3⟩ := near_eq w E hE1 hE2
        rw [n1, Option.bind_some]
        have hnl : nb.length ≤ 8 := by
          have := nodup_len (m := upI l.Segs) (n2.imp fun h => by omega) fun x hx => mem_upI.2 (by have := hG w x ((n3 x).1 hx); omega)
          have hu : (upI l.Segs).length = l.Segs.toNat := by simp [upI]
          omega
        obtain ⟨t, t1, t2, t3, t4⟩ := rangeN_inv (ρ := Step (List Int) ((List Int) × Int × (List Int))) (body := flood_steps_b19 (q, (i : Int), d) nb) (n := ((nb.length : Nat) : Int)) (s0 := (q, d)) (by omega)
          (fun m t => QI (Jn E) a l.Segs.toNat i (fun x => x ∈ nb.take m) t.2 t.1 ∧ t.1[i]? = some w ∧ i < t.1.length) ⟨by
            have : (fun x : Int => x ∈ nb.take 0) = fun _ => False := by funext x; simp
            rw [this]; exact hq, hu, hil⟩ (fun m t hm ⟨tq, tw, tl⟩ => by
            obtain ⟨q', d'⟩ := t
            dsimp only at tq tw tl
            have hm' : m < nb.length := by omega
            unfold flood_steps_b19
            rw [grd_true ⟨by omega, by omega⟩, Int.toNat_natCast]
            unfold gixN
            rw [List.getElem?_eq_getElem hm', Option.bind_some]
            have hmem : nb[m] ∈ nb := List.getElem_mem hm'
            have htk : (fun x : Int => x ∈ nb.take (m + 1)) = fun x => x ∈ nb.take m ∨ x = nb[m] := by
              funext x
              rw [List.take_add_one, List.getElem?_eq_getElem hm']
              exact propext (List.mem_append.trans (or_congr Iff.rfl List.mem_singleton))
            have hPb : ∀ x, x ∈ nb.take m → 0 ≤ x ∧ x < ((l.Segs.toNat : Nat) : Int) := fun x hx => hG w x ((n3 x).1 (List.mem_of_mem_take hx))
            rw [htk]
            generalize nb[m] = z at hmem
            have hz := (n3 z).1 hmem
            have hzb := hG w z hz
            have hdl := tq.len
            dsimp only
            rw [grd_true ⟨hzb.1, by omega⟩, dv_some (n := 0) hzb.1 (by omega), Option.bind_some]
            by_cases hv : dv d' z < 0
            · have hwq : w ∈ q' := List.mem_of_getElem? tw
              have hwb := tq.bnd w hwq
              have hwv : ∃ k : Nat, dv d' w = k ∧ Wk (Jn E) a k w := by
                rcases tq.mem w hwb.1 hwb.2 with h1 | h1
                · exact h1.2
                · exact absurd hwq h1.1
              obtain ⟨k, hk, _⟩ := hwv
              have hk8 : (k : Int) ≤ 1000 := by
                have := tq.lvl i w tw
                have := tq.size
                omega
              have hqs := tq.size
              rw [decide_eq_true hv, cond_true, grd_true ⟨by omega, by omega⟩, Int.toNat_natCast, tw, Option.bind_some, grd_true ⟨hwb.1, by omega⟩, dv_some (n := 0) hwb.1 (by omega), Option.bind_some, grd_true ⟨hzb.1, by omega⟩, grd_true (fits_of (by rw [List.length_append]; simp; omega) (by decide)), w64_in (by omega) (by omega)]
              exact ⟨_, rfl, tq.new hG hPb tw hz hv, by show (q' ++ [z])[i]? = some w; rw [List.getElem?_append_left tl]; exact tw, by show i < (q' ++ [z]).length; rw [List.length_append]; omega⟩
            · rw [decide_eq_false hv]
              exact ⟨_, rfl, tq.old tw hzb (by omega), tw, tl⟩)
        rw [t1, aft_some_nxt, w64_in (by omega) (by omega)]
        refine ⟨_, rfl, ⟨i + 1, by show ((i : Nat) : Int) + 1 = _; omega, t4, ?_⟩, ?_⟩
        · refine t2.next t3 fun x hx => ?_
          rw [Int.toNat_natCast, List.take_length]; exact (n3 x).2 hx
        · show 100 - (((i : Nat) : Int) + 1).toNat < 100 - (((i : Nat) : Int)).toNat; omega
      · rw [decide_eq_false (show ¬ ((i : Nat) : Int) < ((q.length : Nat) : Int) by omega)]
        exact ⟨_, rfl, hq.fin (by omega) hG (by omega)⟩) 1000000 ([a], 0, (List.replicate l.Segs.toNat (-1)).set a.toNat 0)
    ⟨0, rfl, by simp, QI.start (by omega) (by rw [List.length_set, List.length_replicate]) (dv_eq ha.1 (by rw [List.length_replicate]; omega)) (fun s s1 s2 s3 => by
      rw [dv_ne s1 ha.1 s3]
      unfold dv; rw [List.getElem?_replicate, if_pos (by omega)]; rfl)⟩ (by show 100 - _ < _; omega)
  cases u with
  | ret r => exact h2.elim
  | brk s => exact h2.elim
  | nxt s => exact ⟨s.2.2, by rw [h1]; rfl, h2⟩
end Go.RX
