/- What is on a segment, plainly. -/
import Derived.Test.YtoahcombdhgmhaaPb
import Derived.Test.YtoahcombdhgmhaaGen
import Derived.Test.YtoahcombdhgmhaaLd
set_option linter.unusedVariables false
set_option linter.unusedSimpArgs false
open Go Go.RX
namespace Go.RX
theorem delHost_eq (l : List HostT) (q : HostT → Option Bool) (p : HostT → Bool) (hl : l.length ≤ 900000) (hq : ∀ x ∈ l, q x = some (p x)) : slices_DeleteFunc_Host l q = some (l.filter fun x => !p x) :=
  (show slices_DeleteFunc_Host l q = delG q l from rfl).trans (delG_eq hl hq)
/-- A bridge's ports on a segment that are up. -/
def portsOf (k : Nat) (p : PlanT) (s : Int) : List A2_Int := p.Ports.zipIdx.filterMap fun x => if x.1.Up = true ∧ x.1.Seg = s then some ⟨(k : Int), (x.2 : Int)⟩ else none
def portsOn (l : LanT) (s : Int) : List A2_Int := l.Plans.zipIdx.flatMap fun p => portsOf p.2 p.1 s
theorem portsOf_len (k : Nat) (p : PlanT) (s : Int) : (portsOf k p s).length ≤ p.Ports.length := by
  unfold portsOf
  refine Nat.le_trans (List.length_filterMap_le _ _) ?_
  rw [List.length_zipIdx]; exact Nat.le_refl _
/-- The loop over all bridges, whatever the body's names. -/
theorem portsLoop {ρ : Type} {body : Nat → PlanT → List A2_Int → Option (Step ρ (List A2_Int))} {s : Int} {ps : List PlanT} (hl : ps.length ≤ 8) (hp : ∀ p ∈ ps, p.Ports.length ≤ 10)
    (hb : ∀ k p t, p ∈ ps → t.length ≤ 100 → body k p t = some (.nxt (t ++ portsOf k p s))) : rangeL body ps [] = some (.nxt (ps.zipIdx.flatMap fun p => portsOf p.2 p.1 s)) := by
  obtain ⟨t, h1, h2⟩ := rangeL_inv (s0 := []) (body := body) (xs := ps) (by omega) (fun k t => t = ((ps.take k).zipIdx.flatMap fun p => portsOf p.2 p.1 s) ∧ t.length ≤ 10 * k) ⟨by simp, by simp⟩ fun k p t hk ⟨ht, htl⟩ => by
    have hlt := (List.getElem?_eq_some_iff.1 hk).1
    have hm := List.mem_of_getElem? hk
    refine ⟨_, hb k p t hm (by omega), ?_, ?_⟩
    · rw [ht, List.take_add_one, hk, Option.toList, List.zipIdx_append, List.flatMap_append, List.length_take, Nat.min_eq_left (by omega)]
      simp
    · rw [List.length_append]
      have := portsOf_len k p s
      have := hp p hm
      omega
  rw [h1, h2.1, List.take_length]
theorem portLoop {ρ : Type} {body : Nat → LinkT → List A2_Int → Option (Step ρ (List A2_Int))} {s : Int} {k : Nat} {p : PlanT} {t : List A2_Int} (hp : p.Ports.length ≤ 10) (ht : t.length ≤ 100)
    (hb : ∀ (j : Nat) x u, u.length ≤ 200 → body j x u = some (bif (bif x.Up then decide (x.Seg = s) else false) then .nxt (u ++ [⟨(k : Int), (j : Int)⟩]) else .nxt u)) : rangeL body p.Ports t = some (.nxt (t ++ portsOf k p s)) := by
  obtain ⟨u, h1, h2⟩ := rangeL_inv (s0 := t) (body := body) (xs := p.Ports) (by omega) (fun j u => u = t ++ ((p.Ports.take j).zipIdx.filterMap fun x => if x.1.Up = true ∧ x.1.Seg = s then some (⟨(k : Int), (x.2 : Int)⟩ : A2_Int) else none) ∧ u.length ≤ 100 + j) ⟨by simp, by omega⟩ fun j x u hj ⟨hu, hul⟩ => by
    have hlt := (List.getElem?_eq_some_iff.1 hj).1
    rw [hb j x u (by omega)]
    have key : ((p.Ports.take (j + 1)).zipIdx.filterMap fun x => if x.1.Up = true ∧ x.1.Seg = s then some (⟨(k : Int), (x.2 : Int)⟩ : A2_Int) else none) =
        ((p.Ports.take j).zipIdx.filterMap fun x => if x.1.Up = true ∧ x.1.Seg = s then some (⟨(k : Int), (x.2 : Int)⟩ : A2_Int) else none) ++ (if x.Up = true ∧ x.Seg = s then [⟨(k : Int), (j : Int)⟩] else []) := by
      rw [List.take_add_one, hj, Option.toList, List.zipIdx_append, List.filterMap_append, List.length_take, Nat.min_eq_left (by omega)]
      congr 1
      simp only [List.zipIdx_cons, List.zipIdx_nil, List.filterMap_cons, List.filterMap_nil, Nat.zero_add]
      split <;> simp_all
    rw [key]
    by_cases h1 : x.Up = true ∧ x.Seg = s
    · rw [if_pos h1, h1.1, decide_eq_true h1.2]
      refine ⟨_, rfl, by rw [hu, List.append_assoc], by rw [List.length_append]; simp; omega⟩
    · have : (bif x.Up then decide (x.Seg = s) else false) = false := by
        cases hx : x.Up with
        | false => rfl
        | true => exact decide_eq_false fun e => h1 ⟨hx, e⟩
      rw [this, if_neg h1]
      refine ⟨_, rfl, by rw [hu, List.append_nil], by omega⟩
  rw [h1, h2.1, List.take_length]; rfl
theorem On_eq (l : LanT) (hf : FewL l) (s : Int) : lan_On l s = some (if LR l then (if 0 ≤ s ∧ s < l.Segs then (l.Hosts.filter (fun h => decide (h.Seg = s)), portsOn l s, 0) else ([], [], 3)) else ([], [], 1)) := by
  unfold lan_On
  rw [may_eq l hf, Option.bind_some]
  by_cases h : LR l
  · rw [if_pos h, if_pos h]
    by_cases k : 0 ≤ s ∧ s < l.Segs
    · rw [if_pos k, if_pos k, decide_eq_true rfl, Bool.not_true, cond_false,
        portsLoop (s := s) hf.plans hf.ports (fun k p t hp ht => by
          unfold lan_On_b12
          rw [portLoop (s := s) (k := k) (hf.ports p hp) ht (fun j x u hu => by
            unfold lan_On_b13
            rw [grd_true (fits_of (by simp; omega) (by decide))]
            cases (bif x.Up then decide (x.Seg = s) else false) <;> rfl), aft_some_nxt]), aft_some_nxt]
      have hh := hf.hosts
      unfold slices_Clone_Host
      rw [grd_true (fits_of (by omega) (by decide)), Option.bind_some, delHost_eq l.Hosts (fun x => lan_On_1 x s) (fun x => !decide (x.Seg = s)) (by omega) (fun x _ => rfl), Option.bind_some]
      simp [portsOn]
    · rw [if_neg k, if_neg k]; rfl
  · rw [if_neg h, if_neg h]; rfl
end Go.RX
