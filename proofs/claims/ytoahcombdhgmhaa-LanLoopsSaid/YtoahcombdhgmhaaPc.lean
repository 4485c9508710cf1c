/- The law LanLoops, plainly. -/
import Derived.Test.YtoahcombdhgmhaaPb
import Derived.Test.YtoahcombdhgmhaaLb
set_option linter.unusedVariables false
set_option linter.unusedSimpArgs false
open Go Go.RX
namespace Go.RX
theorem split_at {α : Type} {l : List α} {i : Nat} {x : α} (h : l[i]? = some x) : ∃ A B, l = A ++ x :: B ∧ ∀ a, l.set i a = A ++ a :: B := by
  obtain ⟨hi, rfl⟩ := List.getElem?_eq_some_iff.1 h
  refine ⟨l.take i, l.drop (i + 1), ?_, fun a => by rw [List.set_eq_take_append_cons_drop, if_pos hi]⟩
  rw [List.getElem_cons_drop, List.take_append_drop]
theorem ups_append (a : Int) (C D : List LinkT) : ups ⟨a, C ++ D⟩ = ups ⟨a, C⟩ ++ ups ⟨a, D⟩ := by
  unfold ups; rw [List.filter_append, List.map_append]
theorem ups_cons (a : Int) (x : LinkT) (D : List LinkT) : ups ⟨a, x :: D⟩ = (bif x.Up then [x.Seg] else []) ++ ups ⟨a, D⟩ := by
  unfold ups; rw [List.filter_cons]; cases x.Up <;> rfl
/-- A plan with one port that is down. -/
def offL (l : LanT) (i j : Nat) (p : PlanT) (x : LinkT) : LanT := ⟨l.Segs, l.Plans.set i ⟨p.ID, p.Ports.set j ⟨x.Seg, x.Cost, false⟩⟩, l.Hosts⟩
theorem offL_few {l : LanT} {i j : Nat} {p : PlanT} {x : LinkT} (hf : FewL l) (hp : l.Plans[i]? = some p) (hx : p.Ports[j]? = some x) : FewL (offL l i j p x) where
  plans := by show (l.Plans.set _ _).length ≤ 8; rw [List.length_set]; exact hf.plans
  ports q hq := by
    rcases List.mem_or_eq_of_mem_set hq with hq | rfl
    · exact hf.ports q hq
    · show (p.Ports.set _ _).length ≤ 10
      rw [List.length_set]; exact hf.ports p (List.mem_of_getElem? hp)
  hosts := hf.hosts
theorem offL_lr {l : LanT} {i j : Nat} {p : PlanT} {x : LinkT} (h : LR l) (hp : l.Plans[i]? = some p) (hx : p.Ports[j]? = some x) : LR (offL l i j p x) where
  segs := h.segs
  plans := by show (l.Plans.set _ _).length ≤ 6; rw [List.length_set]; exact h.plans
  hosts := h.hosts
  ids := by
    show ((l.Plans.set _ _).map _).Nodup
    obtain ⟨A, B, e1, e2⟩ := split_at hp
    rw [e2]
    have := h.ids
    rw [e1] at this
    simpa using this
  macs := h.macs
  plan q hq := by
    rcases List.mem_or_eq_of_mem_set hq with hq | rfl
    · exact h.plan q hq
    · obtain ⟨h1, h2, h3⟩ := h.plan p (List.mem_of_getElem? hp)
      refine ⟨h1, by show 1 ≤ (p.Ports.set _ _).length ∧ (p.Ports.set _ _).length ≤ 8; rw [List.length_set]; exact h2, fun y hy => ?_⟩
      rcases List.mem_or_eq_of_mem_set hy with hy | rfl
      · exact h3 y hy
      · exact h3 x (List.mem_of_getElem? hx)
  host := h.host
theorem offL_cnt {l : LanT} {i j : Nat} {p : PlanT} {x : LinkT} (h : LR l) (hp : l.Plans[i]? = some p) (hx : p.Ports[j]? = some x) :
    (x.Up = true ∧ (ups p).length ≠ 1 → slack (offL l i j p x) + 1 = slack l ∧ (partsN (offL l i j p x) = partsN l ∨ partsN (offL l i j p x) = partsN l + 1)) ∧
    (¬ (x.Up = true ∧ (ups p).length ≠ 1) → slack (offL l i j p x) = slack l ∧ partsN (offL l i j p x) = partsN l) := by
  obtain ⟨A0, B0, e1, e2⟩ := split_at hp
  obtain ⟨C0, D0, f1, f2⟩ := split_at hx
  have u1 : ups p = ups ⟨p.ID, C0⟩ ++ ((bif x.Up then [x.Seg] else []) ++ ups ⟨p.ID, D0⟩) := by
    rw [← ups_cons, ← ups_append, ← f1]
  have u2 : ups ⟨p.ID, p.Ports.set j ⟨x.Seg, x.Cost, false⟩⟩ = ups ⟨p.ID, C0⟩ ++ ups ⟨p.ID, D0⟩ := by
    rw [f2, ups_append, ups_cons]; rfl
  have g1 : ed l = A0.map ups ++ ups p :: B0.map ups := by
    show l.Plans.map ups = _; rw [e1, List.map_append]; rfl
  have g2 : ed (offL l i j p x) = A0.map ups ++ (ups ⟨p.ID, C0⟩ ++ ups ⟨p.ID, D0⟩) :: B0.map ups := by
    show (l.Plans.set _ _).map ups = _; rw [e2, List.map_append, List.map_cons, u2]
  have hb := h.bnd
  rw [g1] at hb
  have sl : ∀ (A B : List (List Int)) (q : List Int), ((A ++ q :: B).map fun p => p.length - 1).sum = (A.map fun p => p.length - 1).sum + (q.length - 1) + (B.map fun p => p.length - 1).sum := fun A B q => by
    rw [List.map_append, List.sum_append, List.map_cons, List.sum_cons]; omega
  have s1 : slack l = _ := (congrArg (fun E => (List.map (fun p : List Int => p.length - 1) E).sum) g1).trans (sl _ _ _)
  have s2 : slack (offL l i j p x) = _ := (congrArg (fun E => (List.map (fun p : List Int => p.length - 1) E).sum) g2).trans (sl _ _ _)
  have n1 : partsN l = cnt (Rc (A0.map ups ++ ups p :: B0.map ups)) l.Segs.toNat := by unfold partsN; rw [g1]
  have n2 : partsN (offL l i j p x) = cnt (Rc (A0.map ups ++ (ups ⟨p.ID, C0⟩ ++ ups ⟨p.ID, D0⟩) :: B0.map ups)) l.Segs.toNat := by
    unfold partsN; rw [g2]; rfl
  rw [s1, s2, n1, n2, u1]
  rw [u1] at hb
  generalize A0.map ups = A at *
  generalize B0.map ups = B at *
  generalize ups ⟨p.ID, C0⟩ = C at *
  generalize ups ⟨p.ID, D0⟩ = D at *
  cases hu : x.Up with
  | false => exact ⟨fun h => by simp at h, fun _ => ⟨rfl, rfl⟩⟩
  | true =>
    simp only [hu, cond_true, List.singleton_append, true_and] at hb ⊢
    constructor
    · intro hne
      have hCD : C ++ D ≠ [] := fun e => hne (by
        have := congrArg List.length e
        simp only [List.length_append, List.length_nil] at this
        simp only [List.length_append, List.length_cons]; omega)
      have hlen : 1 ≤ (C ++ D).length := by
        cases hc : C ++ D with
        | nil => exact absurd hc hCD
        | cons _ _ => simp
      refine ⟨by simp only [List.length_append, List.length_cons] at hlen ⊢; omega, ?_⟩
      rcases Rc.cnt_more (n := l.Segs.toNat) hCD hb with h | h
      · exact .inl h.symm
      · exact .inr h.symm
    · intro h1
      have h1 : (C ++ x.Seg :: D).length = 1 := Classical.not_not.1 h1
      simp only [List.length_append, List.length_cons] at h1
      have hC : C = [] := List.eq_nil_of_length_eq_zero (by omega)
      have hD : D = [] := List.eq_nil_of_length_eq_zero (by omega)
      subst hC; subst hD
      exact ⟨rfl, Rc.cnt_lone (y := x.Seg) (by simp) (by simp) _⟩
theorem idx_ok {n : Int} (h1 : 1 ≤ n) (h2 : n ≤ 1000000) (a : Int) : ∃ i : Nat, (IntKind.i64.wrap (a.tmod n + n)).tmod n = (i : Int) ∧ (i : Int) < n := by
  have h3 := Int.tmod_lt_of_pos a (show 0 < n by omega)
  have h4 : -n < a.tmod n := by
    exact Int.lt_tmod_of_pos a (show 0 < n by omega)
  rw [w64_in (by omega) (by omega)]
  have h5 := Int.tmod_nonneg n (show 0 ≤ a.tmod n + n by omega)
  have h6 := Int.tmod_lt_of_pos (a.tmod n + n) (show 0 < n by omega)
  exact ⟨((a.tmod n + n).tmod n).toNat, by omega, by omega⟩
theorem upsCount2 (p : PlanT) (hp : p.Ports.length ≤ 1000) : rangeN (law15_LanLoops_b12 p) ((p.Ports.length : Nat) : Int) 0 = some (.nxt (((ups p).length : Nat) : Int)) := by
  have hu : ups p = ups ⟨p.ID, p.Ports.take p.Ports.length⟩ := by rw [List.take_length]
  have := rangeN_up (ρ := Bool) (body := law15_LanLoops_b12 p) (n := ((p.Ports.length : Nat) : Int)) (s0 := 0) (by omega) (fun k => (((ups ⟨p.ID, p.Ports.take k⟩).length : Nat) : Int)) rfl (fun k hk => by
    have hk' : k < p.Ports.length := by omega
    unfold law15_LanLoops_b12
    simp only [List.nil_append]
    rw [grd_true ⟨by omega, by omega⟩, Int.toNat_natCast]
    unfold gixN
    rw [List.getElem?_eq_getElem hk', Option.bind_some, List.take_add_one, List.getElem?_eq_getElem hk']
    have hle : (ups ⟨p.ID, p.Ports.take k⟩).length ≤ 1000 := by
      unfold ups
      have := List.length_filter_le (fun x : LinkT => x.Up) (p.Ports.take k)
      rw [List.length_take] at this; rw [List.length_map]; show (List.filter _ (p.Ports.take k)).length ≤ 1000; omega
    rw [show (some p.Ports[k]).toList = [p.Ports[k]] from rfl, ups_append, ups_cons]
    cases p.Ports[k].Up
    · simp [ups]
    · rw [cond_true, w64_succ (by omega) (by omega)]; simp [ups])
  rw [this, Int.toNat_natCast, ← hu]
theorem LanLoops_true (a0 : LanT) (a1 a2 : Int) : law15_LanLoops a0 a1 a2 = some true := by
  unfold law15_LanLoops
  rw [few_eq, Option.bind_some]
  have hf := fewL_few a0
  generalize fewL a0 = l at hf ⊢
  rw [Loops_eq l hf, Option.bind_some, Parts_eq l hf, Option.bind_some, alive15]
  by_cases h : LR l
  · rw [if_pos h, if_pos h]
    have hseg := h.segs
    have hc : partsN l ≤ l.Segs.toNat := cnt_le _
    have hge : l.Segs.toNat ≤ partsN l + slack l := Rc.cnt_ge (ed l) h.bnd
    have hsl := slack_le l hf
    have hnn : ¬ (((partsN l : Nat) : Int) - l.Segs + ((slack l : Nat) : Int) < 0) := by omega
    simp only [decide_true, Bool.not_true, cond_false, gd_some, Option.bind_some, hnn, decide_false, Bool.not_false, cond_true, List.nil_append]
    by_cases hp0 : l.Plans.length = 0
    · have hp : l.Plans = [] := List.eq_nil_of_length_eq_zero hp0
      have hs0 : slack l = 0 := by unfold slack ed; rw [hp]; rfl
      have e1 : ((partsN l : Nat) : Int) - l.Segs + ((slack l : Nat) : Int) = 0 := by omega
      have e2 : ((partsN l : Nat) : Int) = l.Segs := by omega
      rw [decide_eq_true (show ((l.Plans.length : Nat) : Int) = 0 by omega), cond_true, decide_eq_true e1, decide_eq_true e2]; rfl
    · have e0 : ¬ ((l.Plans.length : Nat) : Int) = 0 := by omega
      have hpl := h.plans
      obtain ⟨i, hi, hilt⟩ := idx_ok (n := ((l.Plans.length : Nat) : Int)) (by omega) (by omega) a1
      have hil : i < l.Plans.length := by omega
      rw [decide_eq_false e0, cond_false, grd_true e0, grd_true e0]
      simp only [hi]
      rw [gix_lt hil, Option.bind_some]
      have hp : l.Plans[i]? = some l.Plans[i] := List.getElem?_eq_getElem hil
      have hpm : l.Plans[i] ∈ l.Plans := List.getElem_mem hil
      generalize l.Plans[i] = p at hp hpm ⊢
      have hpo := h.plan p hpm
      have hpp := hf.ports p hpm
      have e1 : ¬ ((p.Ports.length : Nat) : Int) = 0 := by have := hpo.2.1; omega
      obtain ⟨j, hj, hjlt⟩ := idx_ok (n := ((p.Ports.length : Nat) : Int)) (by omega) (by omega) a2
      have hjl : j < p.Ports.length := by omega
      rw [grd_true (fits_of (by omega) (by decide)), decide_eq_false e1, cond_false, grd_true e1, grd_true e1, upsCount2 p (by omega), aft_some_nxt]
      simp only [hj, Int.toNat_natCast]
      have hx : p.Ports[j]? = some p.Ports[j] := List.getElem?_eq_getElem hjl
      unfold gixN
      rw [grd_true ⟨by omega, by omega⟩, hx, Option.bind_some, grd_true ⟨by omega, by omega⟩, grd_true (fits_of (by omega) (by decide)), grd_true ⟨by omega, by omega⟩, hp, Option.bind_some, grd_true ⟨by omega, by omega⟩]
      generalize p.Ports[j] = x at hx ⊢
      have f' := offL_few hf hp hx
      have l' := offL_lr h hp hx
      have c' := offL_cnt h hp hx
      change (lan_Loops (offL l i j p x)).bind _ = _
      rw [Loops_eq _ f', if_pos l', Option.bind_some]
      change (lan_Parts (offL l i j p x)).bind _ = _
      rw [Parts_eq _ f', if_pos l', Option.bind_some]
      have hs : (offL l i j p x).Segs = l.Segs := rfl
      rw [hs]
      have hc2 : partsN (offL l i j p x) ≤ l.Segs.toNat := cnt_le _
      have hsl2 := slack_le _ f'
      generalize partsN (offL l i j p x) = n2 at *
      generalize slack (offL l i j p x) = m2 at *
      generalize partsN l = n1 at *
      generalize slack l = m1 at *
      simp only [decide_true, Bool.not_true, cond_false, cond_true]
      rw [w64_in (x := (n1 : Int) - l.Segs + (m1 : Int) - 1) (by omega) (by omega), w64_in (x := (n1 : Int) + 1) (by omega) (by omega)]
      by_cases hu : x.Up = true ∧ (ups p).length ≠ 1
      · obtain ⟨k1, k2⟩ := c'.1 hu
        have e2 : ¬ (((ups p).length : Nat) : Int) = 1 := by have := hu.2; omega
        rw [hu.1, decide_eq_false e2]
        simp only [Bool.not_true, cond_false]
        rcases k2 with k2 | k2
        · have a1 : (n2 : Int) - l.Segs + (m2 : Int) = (n1 : Int) - l.Segs + (m1 : Int) - 1 := by omega
          have a2 : (n2 : Int) = n1 := by omega
          rw [decide_eq_true a1, decide_eq_true a2]; rfl
        · have a1 : (n2 : Int) - l.Segs + (m2 : Int) = (n1 : Int) - l.Segs + (m1 : Int) := by omega
          have a2 : (n2 : Int) = (n1 : Int) + 1 := by omega
          rw [show decide ((n2 : Int) - l.Segs + (m2 : Int) = (n1 : Int) - l.Segs + (m1 : Int)) = true from decide_eq_true a1, show decide ((n2 : Int) = (n1 : Int) + 1) = true from decide_eq_true a2]
          simp
      · obtain ⟨k1, k2⟩ := c'.2 hu
        subst k1; subst k2
        have e2 : (bif !x.Up then true else decide ((((ups p).length : Nat) : Int) = 1)) = true := by
          cases hx' : x.Up with
          | false => rfl
          | true =>
            have : (ups p).length = 1 := Classical.not_not.1 fun hh => hu ⟨hx', hh⟩
            rw [this]; rfl
        rw [e2, cond_true, decide_eq_true rfl, decide_eq_true rfl]; rfl
  · rw [if_neg h, if_neg h]; rfl
end Go.RX
