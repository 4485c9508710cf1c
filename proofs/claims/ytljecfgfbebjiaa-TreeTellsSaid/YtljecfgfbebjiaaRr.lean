/- The document's answer for open doors, plainly: what may be asked. -/
import Derived.Test.YtljecfgfbebjiaaDX
import Derived.Test.YtljecfgfbebjiaaKg
set_option linter.unusedVariables false
set_option linter.unusedSimpArgs false
open Go Go.RX
namespace Go.RX
theorem twiceLoop {α : Type} {body : Nat → α → Unit → Option (Step Bool Unit)} {xs : List α} (hl : xs.length ≤ 1000) (key : α → Int)
  (hb : ∀ k x, xs[k]? = some x → body k x () = some (bif (xs.take k).any (fun y => decide (key x = key y)) then .ret true else .nxt ())) :
  ((xs.map key).Nodup ∧ rangeL body xs () = some (.nxt ())) ∨ (¬ (xs.map key).Nodup ∧ rangeL body xs () = some (.ret true)) := by
 rcases rangeL_find (s0 := ()) (body := body) (by omega) (fun k x => (xs.take k).any (fun y => decide (key x = key y))) (fun _ _ => true) hb with ⟨k, x, hx, hp, _, h⟩ | ⟨hp, h⟩
 ·refine .inr ⟨fun hn => ?_, h⟩
  obtain ⟨y, hy, e⟩ := List.any_eq_true.1 hp
  have := (List.take_sublist (k + 1) xs).map key |>.nodup hn
  rw [List.take_add_one, hx, List.map_append, List.nodup_append] at this
  exact this.2.2 _ (List.mem_map_of_mem hy) (key x) (by simp) (of_decide_eq_true e).symm
 ·refine .inl ⟨?_, h⟩
  rw [List.nodup_iff_pairwise_ne, List.pairwise_map, List.pairwise_iff_getElem]
  intro i j hi hj hij e
  have := hp j xs[j] (List.getElem?_eq_getElem hj)
  rw [List.any_eq_false] at this
  exact this xs[i] (List.mem_of_getElem? (i := i) (by rw [List.getElem?_take, if_pos hij, List.getElem?_eq_getElem hi])) (decide_eq_true e.symm)
theorem twiceIn {α : Type} {body : Int → Option (Step (Step Bool Unit) Int)} {xs : List α} {k : Nat} {x : α} (hl : xs.length ≤ 1000) (hk : k < xs.length) (key : α → Int)
  (hb : ∀ j : Nat, body (j : Int) = (bif decide ((j : Int) < (k : Int)) then (gix xs (j : Int)).bind fun y => (bif decide (key x = key y) then some (.ret (.ret true)) else some (.nxt (IntKind.i64.wrap ((j : Int) + 1)))) else some (.brk (j : Int)))) :
  (aft (loopF 1000000 body 0) fun _ => some (.nxt ())) = some (bif (xs.take k).any (fun y => decide (key x = key y)) then Step.ret true else .nxt ()) := by
 obtain ⟨o, h1, h2⟩ := loopF_rec (body := body) (fun s => k - s.toNat) (fun s => ∃ j : Nat, s = (j : Int) ∧ j ≤ k ∧ ∀ y ∈ xs.take j, key x ≠ key y)
  (fun r => r = .ret true ∧ ∃ y ∈ xs.take k, key x = key y) (fun s => ∀ y ∈ xs.take k, key x ≠ key y) (fun s ⟨j, hs, hj, hy⟩ => by
   subst hs
   rw [hb j]
   by_cases hjk : j < k
   ·have hjl : j < xs.length := by omega
    rw [decide_eq_true (show ((j : Nat) : Int) < (k : Int) by omega), cond_true, gix_lt hjl, Option.bind_some]
    by_cases e : key x = key xs[j]
    ·rw [decide_eq_true e]
     exact ⟨_, rfl, rfl, xs[j], List.mem_of_getElem? (i := j) (by rw [List.getElem?_take, if_pos hjk, List.getElem?_eq_getElem hjl]), e⟩
    ·rw [decide_eq_false e, w64_succ (by omega) (by omega)]
     refine ⟨_, rfl, ⟨j + 1, by omega, by omega, fun y hy' => ?_⟩, by omega⟩
     rw [List.take_add_one, List.getElem?_eq_getElem hjl] at hy'
     rcases List.mem_append.1 hy' with hy' | hy'
     ·exact hy y hy'
     ·simp at hy'; subst hy'; exact e
   ·obtain rfl : j = k := by omega
    rw [decide_eq_false (by omega)]
    exact ⟨_, rfl, hy⟩) 1000000 0 ⟨0, rfl, Nat.zero_le _, by simp⟩ (by omega)
 cases o with
 | ret r =>
  obtain ⟨rfl, y, hy, e⟩ := h2
  rw [h1, aft_some_ret, show (xs.take k).any (fun y => decide (key x = key y)) = true from List.any_eq_true.2 ⟨y, hy, decide_eq_true e⟩]; rfl
 | brk s => exact h2.elim
 | nxt s =>
  rw [h1, aft_some_nxt, show (xs.take k).any (fun y => decide (key x = key y)) = false from List.any_eq_false.2 fun y hy => by simpa using h2 y hy]; rfl
theorem twice_eq (l : LanT) (hf : FewL l) : ref15_twice l = some (!decide ((l.Plans.map (·.ID)).Nodup ∧ (l.Hosts.map (·.Mac)).Nodup)) := by
 unfold ref15_twice
 have hp := hf.plans
 have hh := hf.hosts
 rcases twiceLoop (body := ref15_twice_c0 l) (xs := l.Plans) (by omega) (·.ID) (fun k x hx => by
  unfold ref15_twice_c0
  exact twiceIn (xs := l.Plans) (by omega) (List.getElem?_eq_some_iff.1 hx).1 (fun p => p.ID) fun j => rfl) with ⟨h1, h2⟩ | ⟨h1, h2⟩
 ·rw [h2, aft_some_nxt]
  rcases twiceLoop (body := ref15_twice_c2 l) (xs := l.Hosts) (by omega) (·.Mac) (fun k x hx => by
   unfold ref15_twice_c2
   exact twiceIn (xs := l.Hosts) (by omega) (List.getElem?_eq_some_iff.1 hx).1 (fun p => p.Mac) fun j => rfl) with ⟨h3, h4⟩ | ⟨h3, h4⟩
  ·rw [h4, aft_some_nxt, decide_eq_true ⟨h1, h3⟩]; rfl
  ·rw [h4, aft_some_ret, decide_eq_false (fun h => h3 h.2)]; rfl
 ·rw [h2, aft_some_ret, decide_eq_false (fun h => h1 h.1)]; rfl
theorem refMac_eq (a : Int) : ref08_Mac a = some (decide (Uni a)) := by
 unfold ref08_Mac ref01_Right ref01_Class
 by_cases hr : 0 ≤ a ∧ a < 281474976710656
 ·rw [decide_eq_true hr.1, decide_eq_true hr.2, Int.tdiv_eq_ediv_of_nonneg hr.1, Int.tdiv_eq_ediv_of_nonneg hr.1, w64_in (by omega) (by omega), w64_in (by omega) (by omega), Int.tmod_eq_emod_of_nonneg (by omega)]
  simp only [cond_true, Option.bind_some]
  by_cases h1 : a / 16 = 103282638848
  ·have : ¬ Uni a := fun hu => hu.2.2.1 h1
   simp [h1, this, gd]
  ·by_cases h2 : a / 1099511627776 % 2 = 1
   ·have : ¬ Uni a := fun hu => by have := hu.2.2.2; omega
    simp [h1, h2, this, gd]
   ·have : Uni a := ⟨hr.1, hr.2, h1, by omega⟩
    simp [h1, h2, this, gd]
 ·have : ¬ Uni a := fun hu => hr ⟨hu.1, hu.2.1⟩
  by_cases h1 : 0 ≤ a
  ·have h2 : ¬ a < 281474976710656 := fun h => hr ⟨h1, h⟩
   simp [h1, h2, this, gd]
  ·simp [h1, this, gd]
theorem refPlan_eq (p : PlanT) (n : Int) (hp : p.Ports.length ≤ 1000000) : ref15_plan p n = some (decide (PlanOk n p)) := by
 unfold ref15_plan
 rcases rangeL_find (s0 := ()) (body := ref15_plan_c0 n) hp (fun _ x => !decide (LinkOk n x)) (fun _ _ => false) (fun k x hx => by
  unfold ref15_plan_c0
  have e : (bif (bif (bif (decide (x.Seg < 0)) then true else (decide (n ≤ x.Seg))) then true else (decide (x.Cost < 1))) then true else (decide (1000 < x.Cost))) = !decide (LinkOk n x) := by
   rw [Bool.eq_iff_iff, Bool.not_eq_true', decide_eq_false_iff_not]
   unfold LinkOk
   simp only [Bool.cond_eq_ite, Bool.if_true_left, Bool.or_eq_true, decide_eq_true_eq]
   omega
  rw [e]; cases decide (LinkOk n x) <;> rfl) with ⟨k, x, hx, hq, _, h⟩ | ⟨hq, h⟩
 ·rw [h, aft_some_ret, decide_eq_false (fun hh => by
   have := hh.2.2 x (List.mem_of_getElem? hx)
   rw [decide_eq_true this] at hq; cases hq)]
 ·rw [h, aft_some_nxt]
  congr 1
  rw [Bool.eq_iff_iff]
  have hall : ∀ x ∈ p.Ports, LinkOk n x := fun x hx => by
   obtain ⟨k, hk⟩ := List.getElem?_of_mem hx
   have := hq k x hk
   simpa using this
  rw [decide_eq_true_eq (p := PlanOk n p)]
  unfold PlanOk
  simp only [Bool.cond_eq_ite, Bool.if_false_right, Bool.and_eq_true, decide_eq_true_eq]
  constructor
  ·intro h; exact ⟨⟨h.1.1.1, h.1.1.2⟩, ⟨by omega, by omega⟩, hall⟩
  ·intro h; exact ⟨⟨⟨h.1.1, h.1.2⟩, by omega⟩, by omega⟩
theorem refRight_eq (l : LanT) (hf : FewL l) : ref15_Right l = some (decide (LR l)) := by
 unfold ref15_Right
 rw [twice_eq l hf, gd_some, Option.bind_some]
 by_cases h : (1 ≤ l.Segs ∧ l.Segs ≤ 8) ∧ l.Plans.length ≤ 6 ∧ l.Hosts.length ≤ 8
 ·have e : (bif (bif (bif (decide (l.Segs < 1)) then true else (decide (8 < l.Segs))) then true else (decide (6 < ((l.Plans.length : Nat) : Int)))) then true else (decide (8 < ((l.Hosts.length : Nat) : Int)))) = false := by
   rw [decide_eq_false (show ¬ l.Segs < 1 by omega), decide_eq_false (show ¬ 8 < l.Segs by omega), decide_eq_false (show ¬ 6 < ((l.Plans.length : Nat) : Int) by omega), decide_eq_false (show ¬ 8 < ((l.Hosts.length : Nat) : Int) by omega)]; rfl
  rw [e]
  simp only [Bool.not_false, cond_true, cond_false]
  by_cases h2 : (l.Plans.map (·.ID)).Nodup ∧ (l.Hosts.map (·.Mac)).Nodup
  ·rw [decide_eq_true h2, Bool.not_true, cond_false]
   rcases rangeL_find (s0 := ()) (body := ref15_Right_c0 l) (xs := l.Plans) (by omega) (fun _ p => !decide (PlanOk l.Segs p)) (fun _ _ => false) (fun k p hp => by
    unfold ref15_Right_c0
    rw [refPlan_eq p _ (by have := hf.ports p (List.mem_of_getElem? hp); omega), Option.bind_some]; cases decide (PlanOk l.Segs p) <;> rfl) with ⟨k, p, hp, hq, _, h3⟩ | ⟨hq, h3⟩
   ·rw [h3, aft_some_ret, decide_eq_false (fun hh => by
     have := hh.plan p (List.mem_of_getElem? hp)
     rw [decide_eq_true this] at hq; cases hq)]
   ·rw [h3, aft_some_nxt]
    have hall : ∀ p ∈ l.Plans, PlanOk l.Segs p := fun p hp => by
     obtain ⟨k, hk⟩ := List.getElem?_of_mem hp
     simpa using hq k p hk
    rcases rangeL_find (s0 := ()) (body := ref15_Right_c1 l) (xs := l.Hosts) (by omega) (fun _ x => !decide (HostOk l.Segs x)) (fun _ _ => false) (fun k x hx => by
     unfold ref15_Right_c1
     rw [refMac_eq, Option.bind_some]
     have e : (bif (bif (!decide (Uni x.Mac)) then true else (decide (x.Seg < 0))) then true else (decide (l.Segs ≤ x.Seg))) = !decide (HostOk l.Segs x) := by
      rw [Bool.eq_iff_iff, Bool.not_eq_true', decide_eq_false_iff_not]
      unfold HostOk
      simp only [Bool.cond_eq_ite, Bool.if_true_left, Bool.or_eq_true, decide_eq_true_eq, Bool.not_eq_true', decide_eq_false_iff_not]
      by_cases hu : Uni x.Mac
      ·simp only [hu, not_true_eq_false, false_or, true_and]; omega
      ·simp only [hu, not_false_eq_true, true_or, false_and]
     rw [e]; cases decide (HostOk l.Segs x) <;> rfl) with ⟨k, x, hx, hq', _, h4⟩ | ⟨hq', h4⟩
    ·rw [h4, aft_some_ret, decide_eq_false (fun hh => by
      have := hh.host x (List.mem_of_getElem? hx)
      rw [decide_eq_true this] at hq'; cases hq')]
    ·have hall' : ∀ x ∈ l.Hosts, HostOk l.Segs x := fun x hx => by
      obtain ⟨k, hk⟩ := List.getElem?_of_mem hx
      simpa using hq' k x hk
     rw [h4, aft_some_nxt, decide_eq_true ((LR.iff l).2 ⟨h, ⟨h2.1, hall⟩, h2.2, hall'⟩)]
  ·rw [decide_eq_false h2, decide_eq_false (fun hh => h2 ⟨hh.ids, hh.macs⟩)]; rfl
 ·have e : (bif (bif (bif (decide (l.Segs < 1)) then true else (decide (8 < l.Segs))) then true else (decide (6 < ((l.Plans.length : Nat) : Int)))) then true else (decide (8 < ((l.Hosts.length : Nat) : Int)))) = true := by
   simp only [Bool.cond_eq_ite, Bool.if_true_left, Bool.or_eq_true, decide_eq_true_eq]
   omega
  rw [e, decide_eq_false (fun hh => h ((LR.iff l).1 hh).1)]; rfl

end Go.RX
