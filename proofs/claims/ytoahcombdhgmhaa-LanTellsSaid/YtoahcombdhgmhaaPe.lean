/- The first half of the document's answer for plans, plainly. -/
import Derived.Test.YtoahcombdhgmhaaPo
import Derived.Test.YtoahcombdhgmhaaPd
import Derived.Test.YtoahcombdhgmhaaLe
set_option linter.unusedVariables false
set_option linter.unusedSimpArgs false
open Go Go.RX
namespace Go.RX
theorem refHosts_eq (l : LanT) (hf : FewL l) (s : Int) : ref15_Hosts l s = some (l.Hosts.filter fun h => decide (h.Seg = s)) := by
  unfold ref15_Hosts
  have := rangeL_foldI (ρ := List HostT) (body := ref15_Hosts_b30 s) (xs := l.Hosts) (s0 := []) (by have := hf.hosts; omega) (fun t => t.filter fun h => decide (h.Seg = s)) rfl (fun k x hx => by
    unfold ref15_Hosts_b30
    have hk := (List.getElem?_eq_some_iff.1 hx).1
    have hh := hf.hosts
    have hle : ((l.Hosts.take k).filter fun h => decide (h.Seg = s)).length ≤ 100 := by
      have := List.length_filter_le (fun h : HostT => decide (h.Seg = s)) (l.Hosts.take k)
      rw [List.length_take] at this; omega
    rw [grd_true (fits_of (by rw [List.length_append]; simp; omega) (by decide)), List.filter_append]
    cases hd : decide (x.Seg = s) <;> simp [hd])
  rw [this, aft_some_nxt]
theorem refPorts_eq (l : LanT) (hf : FewL l) (s : Int) : ref15_Ports l s = some (portsOn l s) := by
  unfold ref15_Ports
  rw [portsLoop (s := s) hf.plans hf.ports (fun k p t hp ht => by
      unfold ref15_Ports_b32
      rw [portLoop (s := s) (k := k) (hf.ports p hp) ht (fun j x u hu => by
        unfold ref15_Ports_b33
        rw [grd_true (fits_of (by simp; omega) (by decide))]
        cases (bif x.Up then decide (x.Seg = s) else false) <;> rfl), aft_some_nxt]), aft_some_nxt]
  rfl
/-- Rows that are compared one by one. -/
theorem rowsLoop {α : Type} {body : Nat → α → Unit → Option (Step Bool Unit)} {x y : List α} [DecidableEq α] (hl : x.length ≤ 1000000) (hxy : x.length = y.length)
    (hb : ∀ k a b, x[k]? = some a → y[k]? = some b → body k a () = some (bif decide (a = b) then .nxt () else .ret false)) : (aft (rangeL body x ()) fun _ => some true) = some (decide (x = y)) := by
  rcases rangeL_find (s0 := ()) (body := body) hl (fun k a => !decide (y[k]? = some a)) (fun _ _ => false) (fun k a hk => by
    have hlt : k < y.length := by have := (List.getElem?_eq_some_iff.1 hk).1; omega
    rw [hb k a y[k] hk (List.getElem?_eq_getElem hlt), List.getElem?_eq_getElem hlt]
    by_cases e : a = y[k]
    · rw [decide_eq_true e, decide_eq_true (congrArg some e.symm)]; rfl
    · rw [decide_eq_false e, decide_eq_false (fun h => e (Option.some.inj h).symm)]; rfl) with ⟨k, a, hx, hp, _, h2⟩ | ⟨hp, h2⟩
  · rw [h2, aft_some_ret]
    have : ¬ x = y := fun e => by subst e; rw [hx] at hp; simp at hp
    rw [decide_eq_false this]
  · rw [h2, aft_some_nxt]
    have : x = y := List.ext_getElem? fun k => by
      by_cases hk : k < x.length
      · have := hp k x[k] (List.getElem?_eq_getElem hk)
        simp only [Bool.not_eq_false', decide_eq_true_eq] at this
        rw [List.getElem?_eq_getElem hk, this]
      · rw [List.getElem?_eq_none (by omega), List.getElem?_eq_none (by omega)]
    rw [decide_eq_true this]
theorem stations_eq (x y : List HostT) (hl : x.length ≤ 1000000) : ref15_Stations x y = some (decide (x = y)) := by
  unfold ref15_Stations
  by_cases h : x.length = y.length
  · rw [decide_eq_true (show ((x.length : Nat) : Int) = ((y.length : Nat) : Int) by omega), Bool.not_true, cond_false]
    exact rowsLoop hl h fun k a b _ hb => by
      unfold ref15_Stations_b29
      have hk := (List.getElem?_eq_some_iff.1 hb)
      rw [gix_nat, hb, Option.bind_some]
      obtain ⟨a1, a2⟩ := a; obtain ⟨b1, b2⟩ := b
      by_cases e1 : a1 = b1 <;> by_cases e2 : a2 = b2 <;> simp [e1, e2]
  · rw [decide_eq_false (show ¬ ((x.length : Nat) : Int) = ((y.length : Nat) : Int) by omega), decide_eq_false (fun e => h (by rw [e]))]; rfl
theorem pairs_eq (x y : List A2_Int) (hl : x.length ≤ 1000000) : ref15_Pairs x y = some (decide (x = y)) := by
  unfold ref15_Pairs
  by_cases h : x.length = y.length
  · rw [decide_eq_true (show ((x.length : Nat) : Int) = ((y.length : Nat) : Int) by omega), Bool.not_true, cond_false]
    exact rowsLoop hl h fun k a b _ hb => by
      unfold ref15_Pairs_b31
      rw [gix_nat, hb, Option.bind_some]
      obtain ⟨a1, a2⟩ := a; obtain ⟨b1, b2⟩ := b
      by_cases e1 : a1 = b1 <;> by_cases e2 : a2 = b2 <;> simp [e1, e2]
  · rw [decide_eq_false (show ¬ ((x.length : Nat) : Int) = ((y.length : Nat) : Int) by omega), decide_eq_false (fun e => h (by rw [e]))]; rfl
/-! Which plans may be. -/
theorem twiceLoop {α : Type} {body : Nat → α → Unit → Option (Step Bool Unit)} {xs : List α} (hl : xs.length ≤ 1000) (key : α → Int)
    (hb : ∀ k x, xs[k]? = some x → body k x () = some (bif (xs.take k).any (fun y => decide (key x = key y)) then .ret true else .nxt ())) :
    ((xs.map key).Nodup ∧ rangeL body xs () = some (.nxt ())) ∨ (¬ (xs.map key).Nodup ∧ rangeL body xs () = some (.ret true)) := by
  rcases rangeL_find (s0 := ()) (body := body) (by omega) (fun k x => (xs.take k).any (fun y => decide (key x = key y))) (fun _ _ => true) hb with ⟨k, x, hx, hp, _, h⟩ | ⟨hp, h⟩
  · refine .inr ⟨fun hn => ?_, h⟩
    obtain ⟨y, hy, e⟩ := List.any_eq_true.1 hp
    have := (List.take_sublist (k + 1) xs).map key |>.nodup hn
    rw [List.take_add_one, hx, List.map_append, List.nodup_append] at this
    exact this.2.2 _ (List.mem_map_of_mem hy) (key x) (by simp) (of_decide_eq_true e).symm
  · refine .inl ⟨?_, h⟩
    rw [List.nodup_iff_pairwise_ne, List.pairwise_map, List.pairwise_iff_getElem]
    intro i j hi hj hij e
    have := hp j xs[j] (List.getElem?_eq_getElem hj)
    rw [List.any_eq_false] at this
    exact this xs[i] (List.mem_of_getElem? (i := i) (by rw [List.getElem?_take, if_pos hij, List.getElem?_eq_getElem hi])) (decide_eq_true e.symm)
theorem twiceIn {α : Type} {body : Int → Option (Step (Step Bool Unit) Int)} {xs : List α} {k : Nat} {x : α} (hl : xs.length ≤ 1000) (hk : k < xs.length) (key : α → Int)
    (hb : ∀ j : Nat, body (j : Int) = (bif decide ((j : Int) < (k : Int)) then (gix xs (j : Int)).bind fun y => (bif decide (key x = key y) then some (.ret (.ret true)) else some (.nxt (IntKind.i64.wrap ((j : Int) + 1)))) else some (.brk (j : Int)))) :
    (aft (loopF 1000000 body 0) fun _ => some (.nxt ())) = some (bif (xs.take k).any (fun y => decide (key x = key y)) then Step.ret true else .nxt ()) := by
  obtain ⟨o, h1, h2⟩ := loopF_rec (body := body) (fun s => k - s.toNat) (fun s => ∃ j : Nat, s = (j : Int) ∧ j ≤ k ∧ ∀ y ∈ xs.take j, key x ≠ key y)
    (fun r => r = .ret true ∧ ∃ y ∈ xs.take k, key x = key y) (fun s => ∀ y ∈ xs.take k, key x ≠ key y) (fun s ⟨j, hs, hj, hy⟩ => by
      subst hs
      rw [hb j]
      by_cases hjk : j < k
      · have hjl : j < xs.length := by omega
        rw [decide_eq_true (show ((j : Nat) : Int) < (k : Int) by omega), cond_true, gix_lt hjl, Option.bind_some]
        by_cases e : key x = key xs[j]
        · rw [decide_eq_true e]
          exact ⟨_, rfl, rfl, xs[j], List.mem_of_getElem? (i := j) (by rw [List.getElem?_take, if_pos hjk, List.getElem?_eq_getElem hjl]), e⟩
        · rw [decide_eq_false e, w64_succ (by omega) (by omega)]
          refine ⟨_, rfl, ⟨j + 1, by omega, by omega, fun y hy' => ?_⟩, by omega⟩
          rw [List.take_add_one, List.getElem?_eq_getElem hjl] at hy'
          rcases List.mem_append.1 hy' with hy' | hy'
          · exact hy y hy'
          · simp at hy'; subst hy'; exact e
      · obtain rfl : j = k := by omega
        rw [decide_eq_false (by omega)]
        exact ⟨_, rfl, hy⟩) 1000000 0 ⟨0, rfl, Nat.zero_le _, by simp⟩ (by omega)
  cases o with
  | ret r =>
    obtain ⟨rfl, y, hy, e⟩ := h2
    rw [h1, aft_some_ret, show (xs.take k).any (fun y => decide (key x = key y)) = true from List.any_eq_true.2 ⟨y, hy, decide_eq_true e⟩]; rfl
  | brk s => exact h2.elim
  | nxt s =>
    rw [h1, aft_some_nxt, show (xs.take k).any (fun y => decide (key x = key y)) = false from List.any_eq_false.2 fun y hy => by simpa using h2 y hy]; rfl
theorem twice_eq (l : LanT) (hf : FewL l) : ref15_twice l = some (!decide ((l.Plans.map (·.ID)).Nodup ∧ (l.Hosts.map (·.Mac)).Nodup)) := by
  unfold ref15_twice
  have hp := hf.plans
  have hh := hf.hosts
  rcases twiceLoop (body := ref15_twice_b16 l) (xs := l.Plans) (by omega) (·.ID) (fun k x hx => by
    unfold ref15_twice_b16
    exact twiceIn (xs := l.Plans) (by omega) (List.getElem?_eq_some_iff.1 hx).1 (fun p => p.ID) fun j => rfl) with ⟨h1, h2⟩ | ⟨h1, h2⟩
  · rw [h2, aft_some_nxt]
    rcases twiceLoop (body := ref15_twice_b18 l) (xs := l.Hosts) (by omega) (·.Mac) (fun k x hx => by
      unfold ref15_twice_b18
      exact twiceIn (xs := l.Hosts) (by omega) (List.getElem?_eq_some_iff.1 hx).1 (fun p => p.Mac) fun j => rfl) with ⟨h3, h4⟩ | ⟨h3, h4⟩
    · rw [h4, aft_some_nxt, decide_eq_true ⟨h1, h3⟩]; rfl
    · rw [h4, aft_some_ret, decide_eq_false (fun h => h3 h.2)]; rfl
  · rw [h2, aft_some_ret, decide_eq_false (fun h => h1 h.1)]; rfl
theorem refMac_eq (a : Int) : ref08_Mac a = some (decide (Uni a)) := by
  unfold ref08_Mac ref01_Right ref01_Class
  by_cases hr : 0 ≤ a ∧ a < 281474976710656
  · rw [decide_eq_true hr.1, decide_eq_true hr.2, Int.tdiv_eq_ediv_of_nonneg hr.1, Int.tdiv_eq_ediv_of_nonneg hr.1, w64_in (by omega) (by omega), w64_in (by omega) (by omega), Int.tmod_eq_emod_of_nonneg (by omega)]
    simp only [cond_true, Option.bind_some]
    by_cases h1 : a / 16 = 103282638848
    · have : ¬ Uni a := fun hu => hu.2.2.1 h1
      simp [h1, this, gd]
    · by_cases h2 : a / 1099511627776 % 2 = 1
      · have : ¬ Uni a := fun hu => by have := hu.2.2.2; omega
        simp [h1, h2, this, gd]
      · have : Uni a := ⟨hr.1, hr.2, h1, by omega⟩
        simp [h1, h2, this, gd]
  · have : ¬ Uni a := fun hu => hr ⟨hu.1, hu.2.1⟩
    by_cases h1 : 0 ≤ a
    · have h2 : ¬ a < 281474976710656 := fun h => hr ⟨h1, h⟩
      simp [h1, h2, this, gd]
    · simp [h1, this, gd]
theorem refPlan_eq (p : PlanT) (n : Int) (hp : p.Ports.length ≤ 1000000) : ref15_plan p n = some (decide (PlanOk n p)) := by
  unfold ref15_plan
  rcases rangeL_find (s0 := ()) (body := ref15_plan_b21 n) hp (fun _ x => !decide (LinkOk n x)) (fun _ _ => false) (fun k x hx => by
    unfold ref15_plan_b21
    have e : (bif (bif (bif (decide (x.Seg < 0)) then true else (decide (n ≤ x.Seg))) then true else (decide (x.Cost < 1))) then true else (decide (1000 < x.Cost))) = !decide (LinkOk n x) := by
      rw [Bool.eq_iff_iff, Bool.not_eq_true', decide_eq_false_iff_not]
      unfold LinkOk
      simp only [Bool.cond_eq_ite, Bool.if_true_left, Bool.or_eq_true, decide_eq_true_eq]
      omega
    rw [e]; cases decide (LinkOk n x) <;> rfl) with ⟨k, x, hx, hq, _, h⟩ | ⟨hq, h⟩
  · rw [h, aft_some_ret, decide_eq_false (fun hh => by
      have := hh.2.2 x (List.mem_of_getElem? hx)
      rw [decide_eq_true this] at hq; cases hq)]
  · rw [h, aft_some_nxt]
    congr 1
    rw [Bool.eq_iff_iff]
    have hall : ∀ x ∈ p.Ports, LinkOk n x := fun x hx => by
      obtain ⟨k, hk⟩ := List.getElem?_of_mem hx
      have := hq k x hk
      simpa using this
    rw [decide_eq_true_eq (p := PlanOk n p)]
    unfold PlanOk
    simp only [Bool.cond_eq_ite, Bool.if_false_right, Bool.and_eq_true, decide_eq_true_eq]
    constructor
    · intro h; exact ⟨⟨h.1.1.1, h.1.1.2⟩, ⟨by omega, by omega⟩, hall⟩
    · intro h; exact ⟨⟨⟨h.1.1, h.1.2⟩, by omega⟩, by omega⟩
end Go.RX
