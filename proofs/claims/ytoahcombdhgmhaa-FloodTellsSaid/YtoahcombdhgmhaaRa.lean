/- The document's answer for open doors, plainly: what may be asked. -/
import Derived.Test.YtoahcombdhgmhaaQe
import Derived.Test.YtoahcombdhgmhaaFg
set_option linter.unusedVariables false
set_option linter.unusedSimpArgs false
open Go Go.RX
namespace Go.RX
theorem twiceLoop {α : Type} {body : Nat → α → Unit → Option (Step Bool Unit)} {xs : List α} (hl : xs.length ≤ 1000) (key : α → Int)
    (hb : ∀ k x, xs[k]? = some x → body k x () = some (bif (xs.take k).any (fun y => decide (key x = key y)) then .ret true else .nxt ())) :
    ((xs.map key).Nodup ∧ rangeL body xs () = some (.nxt ())) ∨ (¬ (xs.map key).Nodup ∧ rangeL body xs () = some (.ret true)) := by
  rcases rangeL_find (s0 := ()) (body := body) (by omega) (fun k x => (xs.take k).any (fun y => decide (key x = key y))) (fun _ _ => true) hb with ⟨k, x, hx, hp, _, h⟩ | ⟨hp, h⟩
  · refine .inr ⟨fun hn => ?_, h⟩
    obtain ⟨y, hy, e⟩ := List.any_eq_true.1 hp
    have := (List.take_sublist (k + 1) xs).map key |>.nodup hn
    rw [List.take_add_one, hx, List.map_append, List.nodup_append] at this
    exact this.2.2 _ (List.mem_map_of_mem hy) (key x) (by simp) (of_decide_eq_true e).symm
  · refine .inl ⟨?_, h⟩
    rw [List.nodup_iff_pairwise_ne, List.pairwise_map, List.pairwise_iff_getElem]
    intro i j hi hj hij e
    have := hp j xs[j] (List.getElem?_eq_getElem hj)
    rw [List.any_eq_false] at this
    exact this xs[i] (List.mem_of_getElem? (i := i) (by rw [List.getElem?_take, if_pos hij, List.getElem?_eq_getElem hi])) (decide_eq_true e.symm)
theorem twiceIn {α : Type} {body : Int → Option (Step (Step Bool Unit) Int)} {xs : List α} {k : Nat} {x : α} (hl : xs.length ≤ 1000) (hk : k < xs.length) (key : α → Int)
    (hb : ∀ j : Nat, body (j : Int) = (bif decide ((j : Int) < (k : Int)) then (gix xs (j : Int)).bind fun y => (bif decide (key x = key y) then some (.ret (.ret true)) else some (.nxt (IntKind.i64.wrap ((j : Int) + 1)))) else some (.brk (j : Int)))) :
    (aft (loopF 1000000 body 0) fun _ => some (.nxt ())) = some (bif (xs.take k).any (fun y => decide (key x = key y)) then Step.ret true else .nxt ()) := by
  obtain ⟨o, h1, h2⟩ := loopF_rec (body := body) (fun s => k - s.toNat) (fun s => ∃ j : Nat, s = (j : Int) ∧ j ≤ k ∧ ∀ y ∈ xs.take j, key x ≠ key y)
    (fun r => r = .ret true ∧ ∃ y ∈ xs.take k, key x = key y) (fun s => ∀ y ∈ xs.take k, key x ≠ key y) (fun s ⟨j, hs, hj, hy⟩ => by
      subst hs
      rw [hb j]
      by_cases hjk : j < k
      · have hjl : j < xs.length := by omega
        rw [decide_eq_true (show ((j : Nat) : Int) < (k : Int) by omega), cond_true, gix_lt hjl, Option.bind_some]
        by_cases e : key x = key xs[j]
        · rw [decide_eq_true e]
          exact ⟨_, rfl, rfl, xs[j], List.mem_of_getElem? (i := j) (by rw [List.getElem?_take, if_pos hjk, List.getElem?_eq_getElem hjl]), e⟩
        · rw [decide_eq_false e, w64_succ (by omega) (by omega)]
          refine ⟨_, rfl, ⟨j + 1, by omega, by omega, fun y hy' => ?_⟩, by omega⟩
          rw [List.take_add_one, List.getElem?_eq_getElem hjl] at hy'
          rcases List.mem_append.1 hy' with hy' | hy'
          · exact hy y hy'
          · simp at hy'; subst hy'; exact e
      · obtain rfl : j = k := by omega
        rw [decide_eq_false (by omega)]
        exact ⟨_, rfl, hy⟩) 1000000 0 ⟨0, rfl, Nat.zero_le _, by simp⟩ (by omega)
  cases o with
  | ret r =>
    obtain ⟨rfl, y, hy, e⟩ := h2
    rw [h1, aft_some_ret, show (xs.take k).any (fun y => decide (key x = key y)) = true from List.any_eq_true.2 ⟨y, hy, decide_eq_true e⟩]; rfl
  | brk s => exact h2.elim
  | nxt s =>
    rw [h1, aft_some_nxt, show (xs.take k).any (fun y => decide (key x = key y)) = false from List.any_eq_false.2 fun y hy => by simpa using h2 y hy]; rfl
theorem twice_eq (l : LanT) (hf : FewL l) : ref15_twice l = some (!decide ((l.Plans.map (·.ID)).Nodup ∧ (l.Hosts.map (·.Mac)).Nodup)) := by
  unfold ref15_twice
  have hp := hf.plans
  have hh := hf.hosts
  rcases twiceLoop (body := ref15_twice_b14 l) (xs := l.Plans) (by omega) (·.ID) (fun k x hx => by
    unfold ref15_twice_b14
    exact twiceIn (xs := l.Plans) (by omega) (List.getElem?_eq_some_iff.1 hx).1 (fun p => p.ID) fun j => rfl) with ⟨h1, h2⟩ | ⟨h1, h2⟩
  · rw [h2, aft_some_nxt]
    rcases twiceLoop (body := ref15_twice_b16 l) (xs := l.Hosts) (by omega) (·.Mac) (fun k x hx => by
      unfold ref15_twice_b16
      exact twiceIn (xs := l.Hosts) (by omega) (List.getElem?_eq_some_iff.1 hx).1 (fun p => p.Mac) fun j => rfl) with ⟨h3, h4⟩ | ⟨h3, h4⟩
    · rw [h4, aft_some_nxt, decide_eq_true ⟨h1, h3⟩]; rfl
    · rw [h4, aft_some_ret, decide_eq_false (fun h => h3 h.2)]; rfl
  · rw [h2, aft_some_ret, decide_eq_false (fun h => h1 h.1)]; rfl
theorem refMac_eq (a : Int) : ref08_Mac a = some (decide (Uni a)) := by
  unfold ref08_Mac ref01_Right ref01_Class
  by_cases hr : 0 ≤ a ∧ a < 281474976710656
  · rw [decide_eq_true hr.1, decide_eq_true hr.2, Int.tdiv_eq_ediv_of_nonneg hr.1, Int.tdiv_eq_ediv_of_nonneg hr.1, w64_in (by omega) (by omega), w64_in (by omega) (by omega), Int.tmod_eq_emod_of_nonneg (by omega)]
    simp only [cond_true, Option.bind_some]
    by_cases h1 : a / 16 = 103282638848
    · have : ¬ Uni a := fun hu => hu.2.2.1 h1
      simp [h1, this, gd]
    · by_cases h2 : a / 1099511627776 % 2 = 1
      · have : ¬ Uni a := fun hu => by have := hu.2.2.2; omega
        simp [h1, h2, this, gd]
      · have : Uni a := ⟨hr.1, hr.2, h1, by omega⟩
        simp [h1, h2, this, gd]
  · have : ¬ Uni a := fun hu => hr ⟨hu.1, hu.2.1⟩
    by_cases h1 : 0 ≤ a
    · have h2 : ¬ a < 281474976710656 := fun h => hr ⟨h1, h⟩
      simp [h1, h2, this, gd]
    · simp [h1, this, gd]
theorem refPlan_eq (p : PlanT) (n : Int) (hp : p.Ports.length ≤ 1000000) : ref15_plan p n = some (decide (PlanOk n p)) := by
  unfold ref15_plan
  rcases rangeL_find (s0 := ()) (body := ref15_plan_b19 n) hp (fun _ x => !decide (LinkOk n x)) (fun _ _ => false) (fun k x hx => by
    unfold ref15_plan_b19
    have e : (bif (bif (bif (decide (x.Seg < 0)) then true else (decide (n ≤ x.Seg))) then true else (decide (x.Cost < 1))) then true else (decide (1000 < x.Cost))) = !decide (LinkOk n x) := by
      rw [Bool.eq_iff_iff, Bool.not_eq_true', decide_eq_false_iff_not]
      unfold LinkOk
      simp only [Bool.cond_eq_ite, Bool.if_true_left, Bool.or_eq_true, decide_eq_true_eq]
      omega
    rw [e]; cases decide (LinkOk n x) <;> rfl) with ⟨k, x, hx, hq, _, h⟩ | ⟨hq, h⟩
  · rw [h, aft_some_ret, decide_eq_false (fun hh => by
      have := hh.2.2 x (List.mem_of_getElem? hx)
      rw [decide_eq_true this] at hq; cases hq)]
  · rw [h, aft_some_nxt]
    congr 1
    rw [Bool.eq_iff_iff]
    have hall : ∀ x ∈ p.Ports, LinkOk n x := fun x hx => by
      obtain ⟨k, hk⟩ := List.getElem?_of_mem hx
      have := hq k x hk
      simpa using this
    rw [decide_eq_true_eq (p := PlanOk n p)]
    unfold PlanOk
    simp only [Bool.cond_eq_ite, Bool.if_false_right, Bool.and_eq_true, decide_eq_true_eq]
    constructor
    · intro h; exact ⟨⟨h.1.1.1, h.1.1.2⟩, ⟨by omega, by omega⟩, hall⟩
    · intro h; exact ⟨⟨⟨h.1.1, h.1.2⟩, by omega⟩, by omega⟩
theorem refRight_eq (l : LanT) (hf : FewL l) : ref15_Right l = some (decide (LR l)) := by
  unfold ref15_Right
  rw [twice_eq l hf, gd_some, Option.bind_some]
  by_cases h : (1 ≤ l.Segs ∧ l.Segs ≤ 8) ∧ l.Plans.length ≤ 6 ∧ l.Hosts.length ≤ 8
  · have e : (bif (bif (bif (decide (l.Segs < 1)) then true else (decide (8 < l.Segs))) then true else (decide (6 < ((l.Plans.length : Nat) : Int)))) then true else (decide (8 < ((l.Hosts.length : Nat) : Int)))) = false := by
      rw [decide_eq_false (show ¬ l.Segs < 1 by omega), decide_eq_false (show ¬ 8 < l.Segs by omega), decide_eq_false (show ¬ 6 < ((l.Plans.length : Nat) : Int) by omega), decide_eq_false (show ¬ 8 < ((l.Hosts.length : Nat) : Int) by omega)]; rfl
    rw [e]
    simp only [Bool.not_false, cond_true, cond_false]
    by_cases h2 : (l.Plans.map (·.ID)).Nodup ∧ (l.Hosts.map (·.Mac)).Nodup
    · rw [decide_eq_true h2, Bool.not_true, cond_false]
      rcases rangeL_find (s0 := ()) (body := ref15_Right_b18 l) (xs := l.Plans) (by omega) (fun _ p => !decide (PlanOk l.Segs p)) (fun _ _ => false) (fun k p hp => by
        unfold ref15_Right_b18
        rw [refPlan_eq p _ (by have := hf.ports p (List.mem_of_getElem? hp); omega), Option.bind_some]; cases decide (PlanOk l.Segs p) <;> rfl) with ⟨k, p, hp, hq, _, h3⟩ | ⟨hq, h3⟩
      · rw [h3, aft_some_ret, decide_eq_false (fun hh => by
          have := hh.plan p (List.mem_of_getElem? hp)
          rw [decide_eq_true this] at hq; cases hq)]
      · rw [h3, aft_some_nxt]
        have hall : ∀ p ∈ l.Plans, PlanOk l.Segs p := fun p hp => by
          obtain ⟨k, hk⟩ := List.getElem?_of_mem hp
          simpa using hq k p hk
        rcases rangeL_find (s0 := ()) (body := ref15_Right_b20 l) (xs := l.Hosts) (by omega) (fun _ x => !decide (HostOk l.Segs x)) (fun _ _ => false) (fun k x hx => by
          unfold ref15_Right_b20
          rw [refMac_eq, Option.bind_some]
          have e : (bif (bif (!decide (Uni x.Mac)) then true else (decide (x.Seg < 0))) then true else (decide (l.Segs ≤ x.Seg))) = !decide (HostOk l.Segs x) := by
            rw [Bool.eq_iff_iff, Bool.not_eq_true', decide_eq_false_iff_not]
            unfold HostOk
            simp only [Bool.cond_eq_ite, Bool.if_true_left, Bool.or_eq_true, decide_eq_true_eq, Bool.not_eq_true', decide_eq_false_iff_not]
            by_cases hu : Uni x.Mac
            · simp only [hu, not_true_eq_false, false_or, true_and]; omega
            · simp only [hu, not_false_eq_true, true_or, false_and]
          rw [e]; cases decide (HostOk l.Segs x) <;> rfl) with ⟨k, x, hx, hq', _, h4⟩ | ⟨hq', h4⟩
        · rw [h4, aft_some_ret, decide_eq_false (fun hh => by
            have := hh.host x (List.mem_of_getElem? hx)
            rw [decide_eq_true this] at hq'; cases hq')]
        · have hall' : ∀ x ∈ l.Hosts, HostOk l.Segs x := fun x hx => by
            obtain ⟨k, hk⟩ := List.getElem?_of_mem hx
            simpa using hq' k x hk
          rw [h4, aft_some_nxt, decide_eq_true ((LR.iff l).2 ⟨h, ⟨h2.1, hall⟩, h2.2, hall'⟩)]
    · rw [decide_eq_false h2, decide_eq_false (fun hh => h2 ⟨hh.ids, hh.macs⟩)]; rfl
  · have e : (bif (bif (bif (decide (l.Segs < 1)) then true else (decide (8 < l.Segs))) then true else (decide (6 < ((l.Plans.length : Nat) : Int)))) then true else (decide (8 < ((l.Hosts.length : Nat) : Int)))) = true := by
      simp only [Bool.cond_eq_ite, Bool.if_true_left, Bool.or_eq_true, decide_eq_true_eq]
      omega
    rw [e, decide_eq_false (fun hh => h ((LR.iff l).1 hh).1)]; rfl
open Classical in
theorem refMay_eq (l : LanT) (o : List (List Bool)) (hf : FewL l) : ref17_May l o = some (decide (LR l ∧ Shp l o)) := by
  unfold ref17_May
  rw [refRight_eq l hf, Option.bind_some]
  have hpl := hf.plans
  by_cases h : LR l
  · rw [decide_eq_true h]
    by_cases hl : o.length = l.Plans.length
    · rw [decide_eq_true (show ((o.length : Nat) : Int) = ((l.Plans.length : Nat) : Int) by omega)]
      simp only [Bool.not_true, cond_false]
      rcases rangeL_find (s0 := ()) (body := ref17_May_b27 o) (xs := l.Plans) (by omega) (fun k p => !decide ((o[k]?.getD []).length = p.Ports.length)) (fun _ _ => false) (fun k p hk => by
        have hkl := (List.getElem?_eq_some_iff.1 hk).1
        unfold ref17_May_b27
        rw [gix_nat, List.getElem?_eq_getElem (show k < o.length by omega), Option.bind_some]
        have : (decide ((((o[k]'(by omega)).length : Nat) : Int) = ((p.Ports.length : Nat) : Int))) = decide ((o[k]'(by omega)).length = p.Ports.length) := decide_eq_decide.2 (by omega)
        rw [this]
        simp only [Option.getD_some]
        cases decide ((o[k]'(by omega)).length = p.Ports.length) <;> rfl) with ⟨k, p, hk, hp, _, h2⟩ | ⟨hp, h2⟩
      · rw [h2, aft_some_ret, decide_eq_false]
        rintro ⟨_, hs⟩
        have hkl := (List.getElem?_eq_some_iff.1 hk).1
        have hok : o[k]? = some (o[k]'(by omega)) := List.getElem?_eq_getElem (by omega)
        have := hs.row k p _ hk hok
        rw [hok] at hp
        simp [this] at hp
      · have hS : Shp l o := ⟨hl, fun b p q h3 h4 => by
          have := hp b p h3
          rw [h4] at this
          simpa using this⟩
        rw [h2, aft_some_nxt, decide_eq_true ⟨h, hS⟩]
    · rw [decide_eq_false (show ¬ ((o.length : Nat) : Int) = ((l.Plans.length : Nat) : Int) by omega), show decide (LR l ∧ Shp l o) = false from decide_eq_false (fun hh => hl hh.2.len)]; rfl
  · rw [decide_eq_false h, show decide (LR l ∧ Shp l o) = false from decide_eq_false (fun hh => h hh.1)]; rfl
theorem leads_in {o : List (List Bool)} {q : List Bool} {b k j : Nat} {x y : LinkT} {s t : Int} {u v : Bool} (hq : o[b]? = some q) (hk : q[k]? = some u) (hj : q[j]? = some v) :
    ref17_leads_b34 o (b : Int) s t k x j y () = some (bif ((!decide (k = j)) && x.Up && y.Up && u && v && decide (x.Seg = s) && decide (y.Seg = t)) then .ret (.ret true) else .nxt ()) := by
  unfold ref17_leads_b34
  rw [show decide ((k : Int) = (j : Int)) = decide (k = j) from decide_eq_decide.2 (by omega)]
  cases decide (k = j) <;> cases x.Up <;> cases y.Up <;> cases u <;> cases v <;> cases decide (x.Seg = s) <;> cases decide (y.Seg = t) <;> simp [gd_true, gd_false, gix_nat, hq, hk, hj]
open Classical in
theorem leads_eq {l : LanT} {o : List (List Bool)} {b : Nat} {p : PlanT} {q : List Bool} {s t : Int} (hp : l.Plans[b]? = some p) (hq : o[b]? = some q) (hl : q.length = p.Ports.length) (hn : p.Ports.length ≤ 1000000) (hst : s ≠ t) :
    ref17_leads l o (b : Int) s t = some (decide (s ∈ opn p q ∧ t ∈ opn p q)) := by
  unfold ref17_leads
  rw [gix_nat, hp, Option.bind_some]
  have hin : ∀ (k : Nat) (x : LinkT), p.Ports[k]? = some x → (∃ (j : Nat) (y : LinkT), p.Ports[j]? = some y ∧ q[k]? = some true ∧ q[j]? = some true ∧ x.Up = true ∧ y.Up = true ∧ x.Seg = s ∧ y.Seg = t ∧ ref17_leads_b33 l o (b : Int) s t k x () = some (.ret true)) ∨
      ((∀ (j : Nat) (y : LinkT), p.Ports[j]? = some y → ¬ (q[k]? = some true ∧ q[j]? = some true ∧ x.Up = true ∧ y.Up = true ∧ x.Seg = s ∧ y.Seg = t)) ∧ ref17_leads_b33 l o (b : Int) s t k x () = some (.nxt ())) := fun k x hx => by
    have hkl := (List.getElem?_eq_some_iff.1 hx).1
    have hqk : q[k]? = some (q[k]'(by omega)) := List.getElem?_eq_getElem _
    unfold ref17_leads_b33
    rw [gix_nat, hp, Option.bind_some]
    rcases rangeL_find (s0 := ()) (body := ref17_leads_b34 o (b : Int) s t k x) (xs := p.Ports) hn
      (fun j y => (!decide (k = j)) && x.Up && y.Up && (q[k]?.getD false) && (q[j]?.getD false) && decide (x.Seg = s) && decide (y.Seg = t)) (fun _ _ => .ret true) (fun j y hy => by
        have hjl := (List.getElem?_eq_some_iff.1 hy).1
        have hqj : q[j]? = some (q[j]'(by omega)) := List.getElem?_eq_getElem _
        rw [leads_in hq hqk hqj, hqk, hqj]; rfl) with ⟨j, y, hy, hc, _, h2⟩ | ⟨hc, h2⟩
    · refine .inl ⟨j, y, hy, ?_⟩
      have hjl := (List.getElem?_eq_some_iff.1 hy).1
      have hqj : q[j]? = some (q[j]'(by omega)) := List.getElem?_eq_getElem _
      rw [hqk, hqj] at hc ⊢
      simp only [Bool.and_eq_true, decide_eq_true_eq, Option.getD_some] at hc
      obtain ⟨⟨⟨⟨⟨⟨_, c1⟩, c2⟩, c3⟩, c4⟩, c5⟩, c6⟩ := hc
      refine ⟨by rw [c3], by rw [c4], c1, c2, c5, c6, ?_⟩
      rw [h2]; rfl
    · refine .inr ⟨fun j y hy ⟨c3, c4, c1, c2, c5, c6⟩ => ?_, by rw [h2]; rfl⟩
      have := hc j y hy
      have hkj : k ≠ j := fun e => by
        subst e
        rw [hx] at hy; cases hy
        exact hst (c5.symm.trans c6)
      rw [c3, c4, c1, c2, decide_eq_true c5, decide_eq_true c6, decide_eq_false hkj] at this
      simp at this
  rcases rangeL_find (s0 := ()) (body := ref17_leads_b33 l o (b : Int) s t) (xs := p.Ports) hn
    (fun k x => decide (ref17_leads_b33 l o (b : Int) s t k x () = some (.ret true))) (fun _ _ => true) (fun k x hx => by
      rcases hin k x hx with ⟨j, y, _, _, _, _, _, _, _, h⟩ | ⟨_, h⟩
      · rw [h, decide_eq_true rfl]; rfl
      · rw [h, decide_eq_false (by simp)]; rfl) with ⟨k, x, hx, hc, _, h2⟩ | ⟨hc, h2⟩
  · rw [h2, aft_some_ret, decide_eq_true]
    rcases hin k x hx with ⟨j, y, hy, c3, c4, c1, c2, c5, c6, _⟩ | ⟨_, h⟩
    · exact ⟨mem_opn.2 ⟨k, x, hx, c3, c1, c5⟩, mem_opn.2 ⟨j, y, hy, c4, c2, c6⟩⟩
    · rw [h] at hc; simp at hc
  · rw [h2, aft_some_nxt, decide_eq_false]
    rintro ⟨h3, h4⟩
    obtain ⟨k, x, hx, c3, c1, c5⟩ := mem_opn.1 h3
    obtain ⟨j, y, hy, c4, c2, c6⟩ := mem_opn.1 h4
    rcases hin k x hx with ⟨_, _, _, _, _, _, _, _, _, h⟩ | ⟨h, _⟩
    · have := hc k x hx
      rw [h] at this; simp at this
    · exact h j y hy ⟨c3, c4, c1, c2, c5, c6⟩
open Classical in
theorem Next_eq {l : LanT} {o : List (List Bool)} (hf : FewL l) (hs : Shp l o) {s t : Int} (hst : s ≠ t) : ref17_Next l o s t = some (decide (Jn (edO l o) s t)) := by
  unfold ref17_Next
  have hpl := hf.plans
  rcases rangeL_find (s0 := ()) (body := ref17_Next_b32 l o s t) (xs := l.Plans) (by omega) (fun k p => decide (s ∈ opn p (o[k]?.getD []) ∧ t ∈ opn p (o[k]?.getD []))) (fun _ _ => true) (fun k p hk => by
    have hkl := (List.getElem?_eq_some_iff.1 hk).1
    have hok : o[k]? = some (o[k]'(by rw [hs.len]; exact hkl)) := List.getElem?_eq_getElem _
    have hpo := hf.ports p (List.mem_of_getElem? hk)
    unfold ref17_Next_b32
    rw [leads_eq hk hok (hs.row k p _ hk hok) (by omega) hst, Option.bind_some, hok]
    simp only [Option.getD_some]
    cases decide (s ∈ opn p (o[k]'(by rw [hs.len]; exact hkl)) ∧ t ∈ opn p (o[k]'(by rw [hs.len]; exact hkl))) <;> rfl) with ⟨k, p, hk, hc, _, h2⟩ | ⟨hc, h2⟩
  · rw [h2, aft_some_ret, decide_eq_true]
    have hkl := (List.getElem?_eq_some_iff.1 hk).1
    have hok : o[k]? = some (o[k]'(by rw [hs.len]; exact hkl)) := List.getElem?_eq_getElem _
    rw [hok] at hc
    have := of_decide_eq_true hc
    exact jn_edO.2 ⟨k, p, _, hk, hok, this.1, this.2⟩
  · rw [h2, aft_some_nxt, decide_eq_false]
    intro hj
    obtain ⟨k, p, q, h3, h4, h5, h6⟩ := jn_edO.1 hj
    have := hc k p h3
    rw [h4] at this
    exact (of_decide_eq_false this) ⟨h5, h6⟩
/-- A round, of which the pairs P are done. -/
def Jv (G : Int → Int → Prop) (P : Nat → Nat → Prop) (n : Int) (d e : List Int) : Prop :=
  e.length = d.length ∧ ∀ (t : Nat) (v : Int), d[t]? = some v →
    ((v < 0 ∧ ∃ s : Nat, P s t ∧ d[s]? = some (n - 1) ∧ G s t) → e[t]? = some n) ∧ (¬ (v < 0 ∧ ∃ s : Nat, P s t ∧ d[s]? = some (n - 1) ∧ G s t) → e[t]? = some v)
theorem Jv.congr {G : Int → Int → Prop} {P P' : Nat → Nat → Prop} {n : Int} {d e : List Int} (hP : ∀ s t, t < d.length → (P s t ↔ P' s t)) (h : Jv G P n d e) : Jv G P' n d e := by
  refine ⟨h.1, fun t v hv => ?_⟩
  have hlt := (List.getElem?_eq_some_iff.1 hv).1
  have : (∃ s : Nat, P s t ∧ d[s]? = some (n - 1) ∧ G s t) ↔ (∃ s : Nat, P' s t ∧ d[s]? = some (n - 1) ∧ G s t) := exists_congr fun s => and_congr (hP s t hlt) Iff.rfl
  rw [← this]
  exact h.2 t v hv
theorem Jv.step {G : Int → Int → Prop} {P P' : Nat → Nat → Prop} {n : Int} {d e : List Int} (hn : 1 ≤ n) (h : Jv G P n d e) {s t : Nat} {x y : Int} (hx : e[s]? = some x) (hy : e[t]? = some y)
    (hP : ∀ s' t', P' s' t' ↔ P s' t' ∨ (s' = s ∧ t' = t)) :
    ((y < 0 ∧ x = n - 1 ∧ G s t) → Jv G P' n d (e.set t n)) ∧ (¬ (y < 0 ∧ x = n - 1 ∧ G s t) → Jv G P' n d e) := by
  have hsl := (List.getElem?_eq_some_iff.1 hx).1
  have htl := (List.getElem?_eq_some_iff.1 hy).1
  obtain ⟨p, hp⟩ : ∃ p, d[s]? = some p := ⟨_, List.getElem?_eq_getElem (by rw [← h.1]; exact hsl)⟩
  obtain ⟨q, hq⟩ : ∃ q, d[t]? = some q := ⟨_, List.getElem?_eq_getElem (by rw [← h.1]; exact htl)⟩
  have ex : x = n - 1 ↔ p = n - 1 := by
    by_cases c : (p < 0 ∧ ∃ s' : Nat, P s' s ∧ d[s']? = some (n - 1) ∧ G s' s)
    · have := (h.2 s p hp).1 c
      rw [hx] at this
      have := Option.some.inj this
      have := c.1
      omega
    · have := (h.2 s p hp).2 c
      rw [hx] at this
      rw [Option.some.inj this]
  constructor
  · rintro ⟨y0, x1, g⟩
    refine ⟨by rw [List.length_set, h.1], fun t' v hv => ?_⟩
    by_cases e' : t' = t
    · subst e'
      rw [hq] at hv
      obtain rfl := Option.some.inj hv
      have hc : ¬ (q < 0 ∧ ∃ s' : Nat, P s' t' ∧ d[s']? = some (n - 1) ∧ G s' t') := fun c => by
        have := (h.2 t' q hq).1 c
        rw [hy] at this
        have := Option.some.inj this
        omega
      have hyq : y = q := by
        have := (h.2 t' q hq).2 hc
        rw [hy] at this
        exact Option.some.inj this
      exact ⟨fun _ => List.getElem?_set_self htl, fun hn' => absurd ⟨by omega, s, (hP s t').2 (.inr ⟨rfl, rfl⟩), by rw [hp, ex.1 x1], g⟩ hn'⟩
    · have : (∃ s' : Nat, P' s' t' ∧ d[s']? = some (n - 1) ∧ G s' t') ↔ (∃ s' : Nat, P s' t' ∧ d[s']? = some (n - 1) ∧ G s' t') := exists_congr fun s' => and_congr ((hP s' t').trans ⟨fun k => k.resolve_right fun k => e' k.2, .inl⟩) Iff.rfl
      rw [this, List.getElem?_set_ne (Ne.symm e')]
      exact h.2 t' v hv
  · intro hno
    refine ⟨h.1, fun t' v hv => ?_⟩
    by_cases e' : t' = t
    · subst e'
      rw [hq] at hv
      obtain rfl := Option.some.inj hv
      by_cases c : (q < 0 ∧ ∃ s' : Nat, P s' t' ∧ d[s']? = some (n - 1) ∧ G s' t')
      · refine ⟨fun _ => (h.2 t' q hq).1 c, fun hn' => absurd ?_ hn'⟩
        obtain ⟨c0, s', c1, c2⟩ := c
        exact ⟨c0, s', (hP s' t').2 (.inl c1), c2⟩
      · have hyq : y = q := by
          have := (h.2 t' q hq).2 c
          rw [hy] at this
          exact Option.some.inj this
        refine ⟨?_, fun _ => (h.2 t' q hq).2 c⟩
        rintro ⟨q0, s', c1, c2, c3⟩
        rcases (hP s' t').1 c1 with h1 | ⟨rfl, _⟩
        · exact absurd ⟨q0, s', h1, c2, c3⟩ c
        · rw [hp] at c2
          exact absurd ⟨by omega, ex.2 (Option.some.inj c2), c3⟩ hno
    · have : (∃ s' : Nat, P' s' t' ∧ d[s']? = some (n - 1) ∧ G s' t') ↔ (∃ s' : Nat, P s' t' ∧ d[s']? = some (n - 1) ∧ G s' t') := exists_congr fun s' => and_congr ((hP s' t').trans ⟨fun k => k.resolve_right fun k => e' k.2, .inl⟩) Iff.rfl
      rw [this]
      exact h.2 t' v hv
open Classical in
theorem round_eq {l : LanT} {o : List (List Bool)} (hf : FewL l) (hs : Shp l o) {n : Nat} {d : List Int} (hn : 1 ≤ n ∧ n ≤ 8) (hd : d.length ≤ 8) :
    ∃ e, rangeN (ref17_Steps_b30 l o ((n : Int), d)) ((d.length : Nat) : Int) d = some (.nxt e) ∧ Rd (Jn (edO l o)) n d e := by
  obtain ⟨e, h1, h2⟩ := rangeN_inv (body := ref17_Steps_b30 l o ((n : Int), d)) (n := ((d.length : Nat) : Int)) (s0 := d) (by omega) (fun k e => Jv (Jn (edO l o)) (fun s _ => s < k) (n : Int) d e)
    ⟨rfl, fun t v hv => ⟨fun ⟨_, s, hs, _⟩ => absurd hs (Nat.not_lt_zero _), fun _ => hv⟩⟩ (fun k e hk he => by
      unfold ref17_Steps_b30
      have hel := he.1
      obtain ⟨e', h3, h4⟩ := rangeN_inv (body := ref17_Steps_b31 l o ((n : Int), d) k) (n := ((e.length : Nat) : Int)) (s0 := e) (by omega) (fun j e' => Jv (Jn (edO l o)) (fun s t => s < k ∨ (s = k ∧ t < j)) (n : Int) d e')
        (he.congr fun s t _ => by omega) (fun j e' hj he' => by
          have hel' := he'.1
          obtain ⟨y, hy⟩ : ∃ y, e'[j]? = some y := ⟨_, List.getElem?_eq_getElem (by omega)⟩
          obtain ⟨x, hx⟩ : ∃ x, e'[k]? = some x := ⟨_, List.getElem?_eq_getElem (by omega)⟩
          obtain ⟨s1, s2⟩ := he'.step (P' := fun s t => s < k ∨ (s = k ∧ t < j + 1)) (by omega) hx hy (fun s' t' => by omega)
          unfold ref17_Steps_b31
          rw [grd_true ⟨by omega, by omega⟩]
          unfold gixN
          rw [Int.toNat_natCast, Int.toNat_natCast, hy, Option.bind_some, grd_true (fun _ => ⟨by omega, by omega⟩), hx, Option.bind_some]
          dsimp only
          rw [w64_in (by omega) (by omega)]
          by_cases c : y < 0 ∧ x = (n : Int) - 1
          · have hkj : ((k : Nat) : Int) ≠ ((j : Nat) : Int) := fun h => by
              have : k = j := by omega
              subst this
              rw [hx] at hy
              have := Option.some.inj hy
              omega
            rw [decide_eq_true c.1, decide_eq_true c.2, cond_true, gd_true, Next_eq hf hs hkj, Option.bind_some]
            by_cases g : Jn (edO l o) k j
            · rw [decide_eq_true g, cond_true, cond_true, grd_true ⟨by omega, by omega⟩]
              exact ⟨_, rfl, s1 ⟨c.1, c.2, g⟩⟩
            · rw [decide_eq_false g]
              exact ⟨_, rfl, s2 fun h => g h.2.2⟩
          · have : (bif decide (y < 0) then decide (x = (n : Int) - 1) else false) = false := by
              by_cases c1 : y < 0
              · rw [decide_eq_true c1, decide_eq_false fun h => c ⟨c1, h⟩]; rfl
              · rw [decide_eq_false c1]; rfl
            rw [this, gd_false, Option.bind_some]
            exact ⟨_, rfl, s2 fun h => c ⟨h.1, h.2.1⟩⟩)
      refine ⟨e', by rw [h3]; rfl, h4.congr fun s t ht => ?_⟩
      rw [Int.toNat_natCast]; omega)
  refine ⟨e, h1, h2.1, fun t v hv => ?_⟩
  have := h2.2 t v hv
  have e1 : (∃ s : Nat, s < ((d.length : Nat) : Int).toNat ∧ d[s]? = some ((n : Int) - 1) ∧ Jn (edO l o) s t) ↔ (∃ s : Nat, d[s]? = some ((n : Int) - 1) ∧ Jn (edO l o) s t) :=
    exists_congr fun s => ⟨fun h => h.2, fun h => ⟨by have := (List.getElem?_eq_some_iff.1 h.1).1; omega, h⟩⟩
  rw [e1] at this
  exact this
theorem refSteps_eq {l : LanT} {o : List (List Bool)} (hf : FewL l) (h : LR l) (hs : Shp l o) {a : Int} (ha : 0 ≤ a ∧ a < l.Segs) : ref17_Steps l o a = some (stepsT l o a) := by
  have hseg := h.segs
  have hN : ((l.Segs.toNat : Nat) : Int) = l.Segs := by omega
  have hG := edO_bnd (o := o) h
  obtain ⟨_, e2⟩ := stepsT_eq hf h hs ha
  unfold ref17_Steps
  rw [loopF_count (ρ := List Int) (s0 := (([] : List Int), (0 : Int))) (body := ref17_Steps_b28 l) (fun k => (List.replicate k (-1), (k : Int))) l.Segs.toNat (List.replicate l.Segs.toNat (-1), l.Segs) rfl (by omega) (fun k hk => by
    unfold ref17_Steps_b28
    dsimp only
    rw [decide_eq_true (show (k : Int) < l.Segs by omega), cond_true, grd_true (fits_of (by rw [List.length_append, List.length_replicate]; simp; omega) (by decide)), w64_in (by omega) (by omega), List.replicate_succ']
    rfl) (by
    unfold ref17_Steps_b28
    dsimp only
    rw [decide_eq_false (show ¬ ((l.Segs.toNat : Nat) : Int) < l.Segs by omega), hN]; rfl), aft_some_nxt]
  dsimp only
  rw [grd_true ⟨by omega, by rw [List.length_replicate]; omega⟩]
  unfold gixN
  rw [List.getElem?_replicate, if_pos (by omega), Option.bind_some]
  obtain ⟨u, u1, u2⟩ := loopF_rec (ρ := List Int) (body := ref17_Steps_b29 l o) (fun s => (l.Segs - s.1).toNat) (fun s => ∃ n : Nat, s.1 = (n : Int) + 1 ∧ (n : Int) + 1 ≤ l.Segs ∧ Lv (Jn (edO l o)) a l.Segs.toNat n s.2) (fun _ => False)
    (fun s => s.2 = stepsT l o a) (fun s ⟨n, n1, n2, n3⟩ => by
      obtain ⟨m, d⟩ := s
      dsimp only at n1 n3
      subst n1
      unfold ref17_Steps_b29
      dsimp only
      have hdl := n3.1
      by_cases hc : (n : Int) + 1 < l.Segs
      · obtain ⟨e, r1, r2⟩ := round_eq (n := n + 1) (d := d) hf hs (by omega) (by omega)
        rw [show ((n + 1 : Nat) : Int) = (n : Int) + 1 by omega] at r1
        rw [decide_eq_true hc, cond_true, r1, aft_some_nxt, w64_in (by omega) (by omega)]
        exact ⟨_, rfl, ⟨n + 1, by dsimp only; omega, by omega, n3.round (by omega) (fun x y g => by have := hG x y g; omega) r2⟩, by dsimp only; omega⟩
      · rw [decide_eq_false hc]
        exact ⟨_, rfl, DT.uniq (n3.fin (by omega) (fun x y g => by have := hG x y g; omega) (by omega)) e2⟩)
    1000000 (1, (List.replicate l.Segs.toNat (-1)).set a.toNat 0) ⟨0, rfl, by omega, by
      have := Lv.start (G := Jn (edO l o)) (a := a.toNat) (N := l.Segs.toNat) (d := (List.replicate l.Segs.toNat (-1)).set a.toNat 0) (by rw [List.length_set, List.length_replicate]) (List.getElem?_set_self (by rw [List.length_replicate]; omega))
        (fun s h1 h2 => by rw [List.getElem?_set_ne (Ne.symm h2), List.getElem?_replicate, if_pos h1])
      rwa [Int.toNat_of_nonneg ha.1] at this⟩ (by dsimp only; omega)
  rw [u1]
  cases u with
  | ret r => exact u2.elim
  | brk s => exact u2.elim
  | nxt s => rw [aft_some_nxt]; exact congrArg some u2
theorem refReach_eq {l : LanT} {o : List (List Bool)} (hf : FewL l) (h : LR l) (hs : Shp l o) {a : Int} (ha : 0 ≤ a ∧ a < l.Segs) : ref17_Reach l o a = some (partI (edO l o) l.Segs a) := by
  have hseg := h.segs
  obtain ⟨_, e2⟩ := stepsT_eq hf h hs ha
  have hl := e2.1
  unfold ref17_Reach
  rw [refSteps_eq hf h hs ha, Option.bind_some, show (((stepsT l o a).length : Nat) : Int) = l.Segs by omega,
    reachRow (E := edO l o) (a := a) (d := stepsT l o a) (by omega) e2 (fun k v s hk hv hs => by
      unfold ref17_Reach_b32
      rw [grd_true ⟨by omega, by omega⟩, Int.toNat_natCast]
      unfold gixN
      rw [hv, Option.bind_some, grd_true (fits_of (by rw [List.length_append]; simp; omega) (by decide))]
      cases decide (0 ≤ v) <;> rfl)]
  rfl
/-- What a bridge copies. -/
def cpk (l : LanT) (o : List (List Bool)) (d : List Int) (k : Nat) : Int := match l.Plans[k]?, o[k]? with
  | some p, some q => bif (opn p q).any (fun s => decide (0 ≤ dv d s)) then (((opn p q).length : Nat) : Int) - 1 else 0
  | _, _ => 0
def tot (f : Nat → Int) : Nat → Int
  | 0 => 0
  | k + 1 => tot f k + f k
theorem cpk_bnd {l : LanT} {o : List (List Bool)} (hf : FewL l) (d : List Int) (k : Nat) : -1 ≤ cpk l o d k ∧ cpk l o d k ≤ 10 := by
  unfold cpk
  split
  · rename_i p q hp hq
    have h1 := hf.ports p (List.mem_of_getElem? hp)
    have h2 := opn_len p q
    cases (opn p q).any (fun s => decide (0 ≤ dv d s)) <;> simp <;> omega
  · omega
theorem tot_bnd {l : LanT} {o : List (List Bool)} (hf : FewL l) (d : List Int) (k : Nat) : -(k : Int) ≤ tot (cpk l o d) k ∧ tot (cpk l o d) k ≤ 10 * (k : Int) := by
  induction k with
  | zero => simp [tot]
  | succ k ih =>
    have := cpk_bnd (o := o) hf d k
    simp only [tot]
    omega
theorem Copies_eq {l : LanT} {o : List (List Bool)} (hf : FewL l) (h : LR l) (hs : Shp l o) {a : Int} (ha : 0 ≤ a ∧ a < l.Segs) : flood_Copies l o a = some (tot (cpk l o (stepsT l o a)) l.Plans.length, 0) := by
  have hseg := h.segs
  unfold flood_Copies
  obtain ⟨e1, e2⟩ := stepsT_eq hf h hs ha
  rw [fmay_eq l o [a] hf (by simp), if_pos ⟨h, hs⟩, if_pos (by simpa using ha), Option.bind_some, decide_eq_true rfl, Bool.not_true, cond_false, e1, Option.bind_some]
  obtain ⟨n, h1, h2⟩ := rangeL_inv (ρ := Int × Int) (body := flood_Copies_b22 l o (stepsT l o a)) (xs := l.Plans) (s0 := 0) (by have := hf.plans; omega) (fun k s => s = tot (cpk l o (stepsT l o a)) k) rfl (fun k p s hk hst => by
    have hkl := (List.getElem?_eq_some_iff.1 hk).1
    have hpn := hf.plans
    have hb := tot_bnd (o := o) hf (stepsT l o a) k
    have ho : o[k]? = some (o[k]'(by rw [hs.len]; exact hkl)) := List.getElem?_eq_getElem _
    have hpl := hf.ports p (List.mem_of_getElem? hk)
    unfold flood_Copies_b22
    rw [opens_eq l o hf hs hk ho, Option.bind_some]
    have hcp : cpk l o (stepsT l o a) k = bif (opn p (o[k]'(by rw [hs.len]; exact hkl))).any (fun s => decide (0 ≤ dv (stepsT l o a) s)) then (((opn p (o[k]'(by rw [hs.len]; exact hkl))).length : Nat) : Int) - 1 else 0 := by
      unfold cpk; rw [hk, ho]
    generalize o[k]'(by rw [hs.len]; exact hkl) = q at ho hcp
    have hol := opn_len p q
    have hc : slices_ContainsFunc_int (opn p q) (fun x => flood_Copies_1 x (stepsT l o a)) = some ((opn p q).any fun s => decide (0 ≤ dv (stepsT l o a) s)) :=
      (show slices_ContainsFunc_int (opn p q) (fun x => flood_Copies_1 x (stepsT l o a)) = conG (fun x => flood_Copies_1 x (stepsT l o a)) (opn p q) from rfl).trans (conG_eq (by omega) (fun x hx => by
        obtain ⟨m, y, hy, _, _, rfl⟩ := mem_opn.1 hx
        have hb := ((h.plan p (List.mem_of_getElem? hk)).2.2 y (List.mem_of_getElem? hy)).1
        unfold flood_Copies_1
        rw [gix_of hb.1 (dv_some (n := 0) hb.1 (by rw [e2.1]; omega)), Option.bind_some]))
    rw [hc, Option.bind_some]
    simp only [tot]
    rw [hcp]
    subst hst
    cases (opn p q).any fun s => decide (0 ≤ dv (stepsT l o a) s)
    · exact ⟨_, rfl, by simp⟩
    · refine ⟨_, rfl, ?_⟩
      rw [w64_in (x := ((opn p q).length : Int) - 1) (by omega) (by omega), w64_in (by omega) (by omega)]; rfl)
  rw [h1, h2]; rfl
theorem refCopies_eq {l : LanT} {o : List (List Bool)} (hf : FewL l) (h : LR l) (hs : Shp l o) {a : Int} (ha : 0 ≤ a ∧ a < l.Segs) : ref17_Copies l o a = some (tot (cpk l o (stepsT l o a)) l.Plans.length) := by
  have hseg := h.segs
  unfold ref17_Copies
  obtain ⟨e1, e2⟩ := stepsT_eq hf h hs ha
  have hdl := e2.1
  rw [refSteps_eq hf h hs ha, Option.bind_some]
  generalize stepsT l o a = d at hdl ⊢
  obtain ⟨n, h1, h2⟩ := rangeL_inv (ρ := Int) (body := ref17_Copies_b33 o d) (xs := l.Plans) (s0 := 0) (by have := hf.plans; omega) (fun k s => s = tot (cpk l o d) k) rfl (fun k p s hk hst => by
    have hkl := (List.getElem?_eq_some_iff.1 hk).1
    have hpn := hf.plans
    have hb := tot_bnd (o := o) hf d k
    have ho : o[k]? = some (o[k]'(by rw [hs.len]; exact hkl)) := List.getElem?_eq_getElem _
    have hpl := hf.ports p (List.mem_of_getElem? hk)
    have hrow := hs.row k p _ hk ho
    have hcp : cpk l o d k = bif (opn p (o[k]'(by rw [hs.len]; exact hkl))).any (fun s => decide (0 ≤ dv d s)) then (((opn p (o[k]'(by rw [hs.len]; exact hkl))).length : Nat) : Int) - 1 else 0 := by
      unfold cpk; rw [hk, ho]
    generalize o[k]'(by rw [hs.len]; exact hkl) = q at ho hcp hrow
    have hol := opn_len p q
    unfold ref17_Copies_b33
    let g : LinkT × Bool → Option Int := fun x => if x.1.Up = true ∧ x.2 = true then some x.1.Seg else none
    obtain ⟨t, t1, t2, t3⟩ := rangeL_inv (ρ := Step Int Int) (body := ref17_Copies_b34 o d k) (xs := p.Ports) (s0 := ((0 : Int), false)) (by omega)
      (fun j t => t.1 = ((((p.Ports.zip q).take j).filterMap g).length : Int) ∧ t.2 = (((p.Ports.zip q).take j).filterMap g).any (fun s => decide (0 ≤ dv d s))) ⟨by simp, by simp⟩ (fun j x t hx ⟨t1, t2⟩ => by
        obtain ⟨c, v⟩ := t
        dsimp only at t1 t2
        have hjl := (List.getElem?_eq_some_iff.1 hx).1
        obtain ⟨u, hu⟩ : ∃ u, q[j]? = some u := ⟨_, List.getElem?_eq_getElem (by omega)⟩
        have hz : (p.Ports.zip q)[j]? = some (x, u) := List.getElem?_zip_eq_some.2 ⟨hx, hu⟩
        have hbx := ((h.plan p (List.mem_of_getElem? hk)).2.2 x (List.mem_of_getElem? hx)).1
        have hle : (((p.Ports.zip q).take j).filterMap g).length ≤ 10 := by
          refine Nat.le_trans (List.length_filterMap_le _ _) ?_
          rw [List.length_take, List.length_zip]; omega
        have hcond : ref17_Copies_b34 o d k j x (c, v) = some (.nxt (bif x.Up && u then (c + 1, v || decide (0 ≤ dv d x.Seg)) else (c, v))) := by
          unfold ref17_Copies_b34
          dsimp only
          cases hxu : x.Up
          · simp [gd_false]
          · rw [gd_true, gix_nat, ho, Option.bind_some, gd_true, gix_nat, hu, Option.bind_some]
            cases u
            · rfl
            · simp only [cond_true, Bool.and_true]
              rw [grd_true (fun _ => ⟨hbx.1, by omega⟩)]
              unfold gixN
              rw [dv_some (n := 0) hbx.1 (by omega), Option.bind_some, w64_in (by omega) (by omega)]
              cases v <;> simp
        rw [hcond]
        refine ⟨_, rfl, ?_⟩
        rw [List.take_add_one, hz]
        simp only [Option.toList_some, List.filterMap_append, List.length_append, List.any_append]
        cases hxu : x.Up <;> cases u <;> simp [g, hxu, t1, t2])
    rw [t1, aft_some_nxt]
    have hfull : ((p.Ports.zip q).take p.Ports.length).filterMap g = opn p q := by
      rw [List.take_of_length_le (by rw [List.length_zip]; omega)]; rfl
    rw [hfull] at t2 t3
    rw [t2, t3]
    simp only [tot]
    rw [hcp]
    subst hst
    cases (opn p q).any fun s => decide (0 ≤ dv d s)
    · exact ⟨_, rfl, by simp⟩
    · refine ⟨_, rfl, ?_⟩
      rw [w64_in (x := tot (cpk l o d) k + ((opn p q).length : Int)) (by omega) (by omega), w64_in (by omega) (by omega)]
      simp only [cond_true]; omega)
  rw [h1, h2]; rfl
/-- The step back from t: the least one that is next to it and one nearer. -/
def Ch (E : List (List Int)) (d : List Int) (N t c : Int) : Prop := (0 ≤ c ∧ c < N) ∧ Jn E t c ∧ dv d c = dv d t - 1 ∧ ∀ x, 0 ≤ x → x < c → ¬ (Jn E t x ∧ dv d x = dv d t - 1)
theorem Ch.uniq {E : List (List Int)} {d : List Int} {N t c e : Int} (h : Ch E d N t c) (k : Ch E d N t e) : c = e := by
  by_cases h1 : c < e
  · exact absurd ⟨h.2.1, h.2.2.1⟩ (k.2.2.2 c h.1.1 h1)
  · by_cases h2 : e < c
    · exact absurd ⟨k.2.1, k.2.2.1⟩ (h.2.2.2 e k.1.1 h2)
    · omega
structure CI (E : List (List Int)) (d : List Int) (N b : Int) (n : Nat) (out : List Int) (t : Int) (m : Nat) : Prop where
  le : m ≤ n
  len : out.length = n - m + 1
  bnd : 0 ≤ t ∧ t < N
  val : dv d t = (m : Int)
  first : out[0]? = some b
  last : out[n - m]? = some t
  steps : ∀ (k : Nat) (x y : Int), out[k]? = some x → out[k + 1]? = some y → Ch E d N x y
theorem CI.start {E : List (List Int)} {d : List Int} {N b : Int} {n : Nat} (hb : 0 ≤ b ∧ b < N) (h1 : dv d b = (n : Int)) : CI E d N b n [b] b n where
  le := Nat.le_refl _
  len := by simp
  bnd := hb
  val := h1
  first := rfl
  last := by simp
  steps k x y hk hk' := by simp at hk'
theorem CI.ext {E : List (List Int)} {d : List Int} {N b : Int} {n : Nat} {out : List Int} {t c : Int} {m : Nat} (h : CI E d N b n out t (m + 1)) (hc : Ch E d N t c) : CI E d N b n (out ++ [c]) c m := by
  have h1 := h.le
  have h2 := h.len
  refine ⟨by omega, by rw [List.length_append]; simp; omega, hc.1, by rw [hc.2.2.1, h.val]; omega, by rw [List.getElem?_append_left (by omega)]; exact h.first, ?_, fun k x y hk hk' => ?_⟩
  · rw [List.getElem?_append_right (by omega), show n - m - out.length = 0 by omega]; rfl
  · have hl := (List.getElem?_eq_some_iff.1 hk').1
    rw [List.length_append, List.length_singleton] at hl
    rw [List.getElem?_append_left (by omega)] at hk
    by_cases e : k + 1 < out.length
    · rw [List.getElem?_append_left e] at hk'
      exact h.steps k x y hk hk'
    · rw [List.getElem?_append_right (by omega), show k + 1 - out.length = 0 by omega] at hk'
      have hy : c = y := Option.some.inj hk'
      have := h.last
      rw [show n - (m + 1) = k by omega, hk] at this
      rw [Option.some.inj this, ← hy]
      exact hc
theorem CI.uniq {E : List (List Int)} {d : List Int} {N b : Int} {n : Nat} {u w : List Int} {t s : Int} (h : CI E d N b n u t 0) (k : CI E d N b n w s 0) : u = w := by
  have h1 := h.len
  have k1 := k.len
  have : ∀ i, i < n + 1 → u[i]? = w[i]? := fun i => by
    induction i with
    | zero => intro _; rw [h.first, k.first]
    | succ i ih =>
      intro hi
      have hx : u[i]? = some (u[i]'(by omega)) := List.getElem?_eq_getElem _
      have hy : u[i + 1]? = some (u[i + 1]'(by omega)) := List.getElem?_eq_getElem _
      have hz : w[i + 1]? = some (w[i + 1]'(by omega)) := List.getElem?_eq_getElem _
      have hx' := hx
      rw [ih (by omega)] at hx'
      rw [hy, hz, (h.steps i _ _ hx hy).uniq (k.steps i _ _ hx' hz)]
  refine List.ext_getElem? fun i => ?_
  by_cases hi : i < n + 1
  · exact this i hi
  · rw [List.getElem?_eq_none (by omega), List.getElem?_eq_none (by omega)]
theorem CI.zero {E : List (List Int)} {d : List Int} {N : Nat} {a b : Int} {n : Nat} {u : List Int} {t : Int} {m : Nat} (h : CI E d N b n u t m) (hd : DT (Jn E) a N d) : t = a ↔ m = 0 := by
  have hb := h.bnd
  have hv := h.val
  have hD : Dist (Jn E) a m t := by
    rcases dt_dv hd hb.1 hb.2 with ⟨g1, _⟩ | ⟨q, g1, g2⟩
    · omega
    · have : q = m := by omega
      subst this; exact g2
  constructor
  · intro e
    have := hD.uniq (show Dist (Jn E) a 0 t by rw [e]; exact Dist.zero)
    omega
  · rintro rfl
    exact Dist.zero_iff.1 hD
/-- A step: the program's choice is that of Ch. -/
theorem progStep {E : List (List Int)} {d : List Int} {N : Nat} {a b : Int} {n m : Nat} {out : List Int} {t : Int} (hN : N ≤ 8) (hn : n < N) (hE1 : E.length ≤ 100) (hE2 : ∀ q ∈ E, q.length ≤ 100) (hG : ∀ x y, Jn E x y → 0 ≤ y ∧ y < (N : Int))
    (hd : DT (Jn E) a N d) (h : CI E d N b n out t (m + 1)) : ∃ c, Ch E d N t c ∧ flood_Path_b23 a d E (out, t) = some (.nxt (out ++ [c], c)) := by
  have hdl := hd.1
  have m3 := h.bnd
  have m4 := h.val
  have m2 := h.len
  have hle := h.le
  have hta : t ≠ a := fun e => by have := (h.zero hd).1 e; omega
  have hD : Dist (Jn E) a (m + 1) t := by
    rcases dt_dv hd m3.1 m3.2 with ⟨g1, _⟩ | ⟨q, g1, g2⟩
    · omega
    · have : q = m + 1 := by omega
      subst this; exact g2
  obtain ⟨c, c1, c2⟩ := hD.pred
  obtain ⟨nb, n1, n2, n3⟩ := near_eq t E hE1 hE2
  have hnl : nb.length ≤ 8 := by
    have := nodup_len (m := upI (N : Int)) (n2.imp fun h => by omega) fun x hx => mem_upI.2 (hG t x ((n3 x).1 hx))
    have hu : (upI (N : Int)).length = N := by simp [upI]
    omega
  have hcb : 0 ≤ c ∧ c < (N : Int) := hG t c c2.symm
  have hcv : dv d c = (m : Int) := by
    rcases dt_dv hd hcb.1 hcb.2 with ⟨_, g2⟩ | ⟨q, g1, g2⟩
    · exact absurd c1.1 (g2 _)
    · rw [g1, g2.uniq c1]
  unfold flood_Path_b23
  dsimp only
  rw [decide_eq_false hta, Bool.not_false, cond_true, n1, Option.bind_some]
  have hq : ∀ x ∈ nb, flood_Path_1 x d t = some (decide (dv d x = (m : Int))) := fun x hx => by
    have hxb := hG t x ((n3 x).1 hx)
    unfold flood_Path_1
    rw [gix_of hxb.1 (dv_some (n := 0) hxb.1 (by omega)), Option.bind_some, gix_of m3.1 (dv_some (n := 0) m3.1 (by omega)), Option.bind_some, m4, w64_in (by omega) (by omega), show (((m + 1 : Nat) : Int) - 1) = (m : Int) by omega]
  rw [show slices_IndexFunc_int nb (fun x => flood_Path_1 x d t) = idxG (fun x => flood_Path_1 x d t) nb from rfl]
  rcases idxG_eq (by omega) hq with ⟨k, x, k1, k2, k3, k4⟩ | ⟨k1, _⟩
  · have hkl := (List.getElem?_eq_some_iff.1 k1).1
    have hxj := (n3 x).1 (List.mem_of_getElem? k1)
    have hxb := hG t x hxj
    have hxv := of_decide_eq_true k2
    refine ⟨x, ⟨hxb, hxj, by rw [hxv, m4]; omega, fun y y0 yx ⟨y1, y2⟩ => ?_⟩, ?_⟩
    · obtain ⟨j, hj⟩ := List.getElem?_of_mem ((n3 y).2 y1)
      have hjk : j < k := by
        rcases Nat.lt_trichotomy j k with h1 | h1 | h1
        · exact h1
        · subst h1; rw [k1] at hj; have := Option.some.inj hj; omega
        · have hjl := (List.getElem?_eq_some_iff.1 hj).1
          have := List.pairwise_iff_getElem.1 n2 k j hkl hjl h1
          rw [List.getElem?_eq_getElem hkl] at k1
          rw [List.getElem?_eq_getElem hjl] at hj
          have := Option.some.inj k1
          have := Option.some.inj hj
          omega
      have := of_decide_eq_false (k3 j y hjk hj)
      rw [y2, m4] at this
      omega
    · rw [k4, Option.bind_some, grd_true ⟨by omega, by omega⟩]
      unfold gixN
      rw [Int.toNat_natCast, k1, Option.bind_some, grd_true (fits_of (by rw [List.length_append]; simp; omega) (by decide))]
  · have := k1 c ((n3 c).2 c2.symm)
    rw [decide_eq_true hcv] at this; cases this
open Classical in
theorem refStep {l : LanT} {o : List (List Bool)} (hf : FewL l) (hs : Shp l o) {d : List Int} {N : Nat} {a b : Int} {n m : Nat} {out : List Int} {t : Int} (hN : N ≤ 8) (hn : n < N) (hG : ∀ x y, Jn (edO l o) x y → 0 ≤ y ∧ y < (N : Int))
    (hd : DT (Jn (edO l o)) a N d) (h : CI (edO l o) d N b n out t (m + 1)) : ∃ c, Ch (edO l o) d N t c ∧ rangeN (ref17_Path_b36 l o d) ((d.length : Nat) : Int) t = some (.nxt c) := by
  have hdl := hd.1
  have m3 := h.bnd
  have m4 := h.val
  have hle := h.le
  have hD : Dist (Jn (edO l o)) a (m + 1) t := by
    rcases dt_dv hd m3.1 m3.2 with ⟨g1, _⟩ | ⟨q, g1, g2⟩
    · omega
    · have : q = m + 1 := by omega
      subst this; exact g2
  obtain ⟨c, c1, c2⟩ := hD.pred
  have hcb : 0 ≤ c ∧ c < (N : Int) := hG t c c2.symm
  have hcv : dv d c = (m : Int) := by
    rcases dt_dv hd hcb.1 hcb.2 with ⟨_, g2⟩ | ⟨q, g1, g2⟩
    · exact absurd c1.1 (g2 _)
    · rw [g1, g2.uniq c1]
  obtain ⟨u, u1, u2⟩ := rangeN_rec (ρ := Step (List Int) ((List Int) × Int)) (body := ref17_Path_b36 l o d) (n := ((d.length : Nat) : Int)) (s0 := t) (by omega) (fun k s => s = t ∧ ∀ x : Int, 0 ≤ x → x < (k : Int) → ¬ (Jn (edO l o) t x ∧ dv d x = (m : Int))) (fun _ => False) (fun s => Ch (edO l o) d N t s)
    ⟨rfl, fun x h1 h2 => by omega⟩ (fun k s hk ⟨s1, s2⟩ => by
      subst s1
      unfold ref17_Path_b36
      rw [grd_true ⟨by omega, by omega⟩]
      unfold gixN
      rw [dv_some (n := 0) (by omega) (by rw [Int.toNat_natCast]; omega), Option.bind_some, grd_true ⟨m3.1, by omega⟩, dv_some (n := 0) m3.1 (by omega), Option.bind_some, m4, w64_in (by omega) (by omega), show (((m + 1 : Nat) : Int) - 1) = (m : Int) by omega]
      by_cases e : dv d (k : Int) = (m : Int)
      · have hkt : (k : Int) ≠ s := fun h => by rw [h, m4] at e; omega
        rw [decide_eq_true e, gd_true, Next_eq hf hs hkt, Option.bind_some]
        by_cases g : Jn (edO l o) k s
        · rw [decide_eq_true g]
          exact ⟨_, rfl, ⟨by omega, by omega⟩, g.symm, by rw [e, m4]; omega, fun x x0 xk hx => s2 x x0 xk ⟨hx.1, by rw [hx.2, m4]; omega⟩⟩
        · rw [decide_eq_false g]
          refine ⟨_, rfl, rfl, fun x x0 xk hx => ?_⟩
          by_cases exk : x = (k : Int)
          · subst exk; exact g hx.1.symm
          · exact s2 x x0 (by omega) hx
      · rw [decide_eq_false e, gd_false, Option.bind_some]
        refine ⟨_, rfl, rfl, fun x x0 xk hx => ?_⟩
        by_cases exk : x = (k : Int)
        · subst exk; exact e hx.2
        · exact s2 x x0 (by omega) hx)
  cases u with
  | ret r => exact u2.elim
  | brk s => exact u2.elim
  | nxt s =>
    rcases u2 with u2 | u2
    · exact absurd ⟨c2.symm, hcv⟩ (u2.2 c hcb.1 (by omega))
    · exact ⟨s, u2, u1⟩
theorem progPath {l : LanT} {o : List (List Bool)} (hf : FewL l) (h : LR l) (hs : Shp l o) {a b : Int} (ha : 0 ≤ a ∧ a < l.Segs) (hb : 0 ≤ b ∧ b < l.Segs) {n : Nat} (h1 : dv (stepsT l o a) b = (n : Int)) :
    ∃ out t, flood_Path l o a b = some (out.reverse, 0) ∧ CI (edO l o) (stepsT l o a) l.Segs.toNat b n out t 0 := by
  have hseg := h.segs
  have hN : ((l.Segs.toNat : Nat) : Int) = l.Segs := by omega
  obtain ⟨e1, e2⟩ := stepsT_eq hf h hs ha
  have hE1 : (edO l o).length ≤ 100 := by unfold edO; rw [List.length_map, List.length_zip]; have := hf.plans; omega
  have hE2 : ∀ q ∈ edO l o, q.length ≤ 100 := fun q hq => by
    obtain ⟨x, hx, rfl⟩ := List.mem_map.1 hq
    have h1 := opn_len x.1 x.2
    have h2 := hf.ports x.1 (List.of_mem_zip hx).1
    omega
  have hG : ∀ x y, Jn (edO l o) x y → 0 ≤ y ∧ y < ((l.Segs.toNat : Nat) : Int) := by rw [hN]; exact edO_bnd (o := o) h
  have hdl := e2.1
  unfold flood_Path
  rw [fmay_eq l o [a, b] hf (by simp), if_pos ⟨h, hs⟩, if_pos (by simp; omega), Option.bind_some, decide_eq_true rfl, Bool.not_true, cond_false, e1, Option.bind_some]
  generalize stepsT l o a = d at *
  rw [grd_true ⟨hb.1, by omega⟩]
  unfold gixN
  rw [dv_some (n := 0) hb.1 (by omega), Option.bind_some, h1, decide_eq_false (show ¬ (n : Int) < 0 by omega), cond_false, neighbours_eq l o hf hs, Option.bind_some]
  have hnN : n < l.Segs.toNat := by
    rcases dt_dv e2 hb.1 (by omega) with ⟨g1, _⟩ | ⟨q, g1, g2⟩
    · omega
    · have : q = n := by omega
      subst this
      exact g2.lt (N := l.Segs.toNat) (by omega) hG
  obtain ⟨u, u1, u2⟩ := loopF_rec (ρ := (List Int) × Int) (body := flood_Path_b23 a d (edO l o)) (fun s => (dv d s.2).toNat) (fun s => ∃ m, CI (edO l o) d l.Segs.toNat b n s.1 s.2 m) (fun _ => False) (fun s => ∃ t, CI (edO l o) d l.Segs.toNat b n s.1 t 0)
    (fun s ⟨m, hm⟩ => by
      obtain ⟨out, t⟩ := s
      cases m with
      | zero =>
        have := (hm.zero e2).2 rfl
        unfold flood_Path_b23
        dsimp only
        rw [decide_eq_true this]
        exact ⟨_, rfl, t, hm⟩
      | succ m =>
        obtain ⟨c, c1, c2⟩ := progStep (by omega) hnN hE1 hE2 hG e2 hm
        have hx := hm.ext c1
        exact ⟨_, c2, ⟨m, hx⟩, by have := hm.val; have := hx.val; dsimp only at *; omega⟩) 1000000 ([b], b) ⟨n, CI.start (by omega) h1⟩ (by dsimp only; omega)
  rw [u1]
  cases u with
  | ret r => exact u2.elim
  | brk s => exact u2.elim
  | nxt s =>
    obtain ⟨t, ht⟩ := u2
    have := ht.len
    refine ⟨s.1, t, ?_, ht⟩
    rw [aft_some_nxt, reverse_eq _ (by omega), Option.bind_some]
theorem refPath {l : LanT} {o : List (List Bool)} (hf : FewL l) (h : LR l) (hs : Shp l o) {a b : Int} (ha : 0 ≤ a ∧ a < l.Segs) (hb : 0 ≤ b ∧ b < l.Segs) {n : Nat} (h1 : dv (stepsT l o a) b = (n : Int)) :
    ∃ out t, ref17_Path l o a b = some out.reverse ∧ CI (edO l o) (stepsT l o a) l.Segs.toNat b n out t 0 := by
  have hseg := h.segs
  have hN : ((l.Segs.toNat : Nat) : Int) = l.Segs := by omega
  obtain ⟨e1, e2⟩ := stepsT_eq hf h hs ha
  have hG : ∀ x y, Jn (edO l o) x y → 0 ≤ y ∧ y < ((l.Segs.toNat : Nat) : Int) := by rw [hN]; exact edO_bnd (o := o) h
  have hdl := e2.1
  unfold ref17_Path
  rw [refSteps_eq hf h hs ha, Option.bind_some]
  generalize stepsT l o a = d at *
  have hnN : n < l.Segs.toNat := by
    rcases dt_dv e2 hb.1 (by omega) with ⟨g1, _⟩ | ⟨q, g1, g2⟩
    · omega
    · have : q = n := by omega
      subst this
      exact g2.lt (N := l.Segs.toNat) (by omega) hG
  obtain ⟨u, u1, u2⟩ := loopF_rec (ρ := List Int) (body := ref17_Path_b35 l o d) (fun s => (dv d s.2).toNat) (fun s => ∃ m, CI (edO l o) d l.Segs.toNat b n s.1.reverse s.2 m) (fun _ => False) (fun s => ∃ t, CI (edO l o) d l.Segs.toNat b n s.1.reverse t 0)
    (fun s ⟨m, hm⟩ => by
      obtain ⟨out, t⟩ := s
      dsimp only at hm
      have hbn := hm.bnd
      have hl := hm.len
      rw [List.length_reverse] at hl
      unfold ref17_Path_b35
      dsimp only
      rw [grd_true ⟨hbn.1, by omega⟩]
      unfold gixN
      rw [dv_some (n := 0) hbn.1 (by omega), Option.bind_some, hm.val]
      cases m with
      | zero =>
        rw [decide_eq_false (by omega)]
        exact ⟨_, rfl, t, hm⟩
      | succ m =>
        obtain ⟨c, c1, c2⟩ := refStep hf hs (by omega) hnN hG e2 hm
        have hx := hm.ext c1
        rw [decide_eq_true (by omega), cond_true, c2, aft_some_nxt, grd_true (fits_of (by rw [List.length_append]; simp; omega) (by decide))]
        refine ⟨_, rfl, ⟨m, by simpa using hx⟩, by have := hm.val; have := hx.val; dsimp only at *; omega⟩) 1000000 ([b], b) ⟨n, CI.start (by omega) h1⟩ (by dsimp only; omega)
  rw [u1]
  cases u with
  | ret r => exact u2.elim
  | brk s => exact u2.elim
  | nxt s =>
    obtain ⟨t, ht⟩ := u2
    refine ⟨s.1.reverse, t, ?_, ht⟩
    rw [aft_some_nxt, List.reverse_reverse]
theorem in17_eq (s n : Int) : law17_in s n = some (decide (0 ≤ s ∧ s < n)) := by
  unfold law17_in
  by_cases h : 0 ≤ s <;> simp [h]
open Classical in
theorem Copies_may (l : LanT) (o : List (List Bool)) (a : Int) (hf : FewL l) (h : ¬ ((LR l ∧ Shp l o) ∧ (0 ≤ a ∧ a < l.Segs))) : flood_Copies l o a = some (0, if LR l ∧ Shp l o then 3 else 1) := by
  unfold flood_Copies
  rw [fmay_eq l o [a] hf (by simp), Option.bind_some]
  by_cases h1 : LR l ∧ Shp l o
  · rw [if_pos h1, if_pos h1, if_neg (by simp; intro h2; exact Int.not_lt.1 fun h3 => h ⟨h1, h2, h3⟩)]; rfl
  · rw [if_neg h1, if_neg h1]; rfl
open Classical in
theorem Path_may (l : LanT) (o : List (List Bool)) (a b : Int) (hf : FewL l) (h : ¬ ((LR l ∧ Shp l o) ∧ (0 ≤ a ∧ a < l.Segs) ∧ (0 ≤ b ∧ b < l.Segs))) : flood_Path l o a b = some ([], if LR l ∧ Shp l o then 3 else 1) := by
  unfold flood_Path
  rw [fmay_eq l o [a, b] hf (by simp), Option.bind_some]
  by_cases h1 : LR l ∧ Shp l o
  · rw [if_pos h1, if_pos h1, if_neg (fun h2 => h ⟨h1, h2 a (by simp), h2 b (by simp)⟩)]; rfl
  · rw [if_neg h1, if_neg h1]; rfl
open Classical in
theorem FloodTells_true (a0 : LanT) (a1 : List (List Bool)) (a2 a3 : Int) : law17_FloodTells a0 a1 a2 a3 = some true := by
  unfold law17_FloodTells
  rw [few17_eq, Option.bind_some, rows_eq, Option.bind_some]
  have hf := fewL_few a0
  generalize fewL a0 = l at hf ⊢
  generalize rowsL a1 = o
  rw [Reach_eq l o a2 hf, Option.bind_some, Steps_eq l o a2 hf, Option.bind_some]
  by_cases h : LR l ∧ Shp l o
  · have hseg := h.1.segs
    rw [if_pos h, if_pos h]
    by_cases ha : 0 ≤ a2 ∧ a2 < l.Segs
    · rw [if_pos ha, if_pos ha, Copies_eq hf h.1 h.2 ha, Option.bind_some]
      obtain ⟨e1, e2⟩ := stepsT_eq hf h.1 h.2 ha
      have hdl := e2.1
      have hpl := partI_len (edO l o) l.Segs a2
      by_cases hb : 0 ≤ a3 ∧ a3 < l.Segs
      · rcases Path_eq l o hf h ha hb with ⟨p1, p2⟩ | ⟨n, r, p1, p2, _⟩
        · rw [p2, Option.bind_some, refMay_eq l o hf, Option.bind_some, decide_eq_true h, in17_eq, decide_eq_true ha, refSteps_eq hf h.1 h.2 ha, refReach_eq hf h.1 h.2 ha, refCopies_eq hf h.1 h.2 ha]
          simp only [Option.bind_some, Bool.not_true, Bool.not_false, cond_false, cond_true, decide_true, gd_true, alive17, in17_eq, decide_eq_true hb, same_eq _ _ (show (partI (edO l o) l.Segs a2).length ≤ 1000000 by omega), same_eq _ _ (show (stepsT l o a2).length ≤ 1000000 by omega)]
          rw [gix_of hb.1 (dv_some (n := 0) hb.1 (by omega)), Option.bind_some, decide_eq_true p1]
          rfl
        · obtain ⟨u, t, u1, u2⟩ := progPath hf h.1 h.2 ha hb p1
          obtain ⟨w, s, w1, w2⟩ := refPath hf h.1 h.2 ha hb p1
          have huw := u2.uniq w2
          subst huw
          have hul := u2.len
          have hlt := u2.le
          have hn8 : n ≤ 1000 := by
            rcases dt_dv e2 hb.1 (by omega) with ⟨g1, _⟩ | ⟨q, g1, g2⟩
            · omega
            · have : q = n := by omega
              subst this
              have := g2.lt (N := l.Segs.toNat) (by omega) (by rw [show ((l.Segs.toNat : Nat) : Int) = l.Segs by omega]; exact edO_bnd (o := o) h.1)
              omega
          rw [u1, Option.bind_some, refMay_eq l o hf, Option.bind_some, decide_eq_true h, in17_eq, decide_eq_true ha, refSteps_eq hf h.1 h.2 ha, refReach_eq hf h.1 h.2 ha, refCopies_eq hf h.1 h.2 ha]
          simp only [Option.bind_some, Bool.not_true, Bool.not_false, cond_false, cond_true, decide_true, gd_true, alive17, in17_eq, decide_eq_true hb, same_eq _ _ (show (partI (edO l o) l.Segs a2).length ≤ 1000000 by omega), same_eq _ _ (show (stepsT l o a2).length ≤ 1000000 by omega)]
          rw [gix_of hb.1 (dv_some (n := 0) hb.1 (by omega)), Option.bind_some, decide_eq_false (show ¬ dv (stepsT l o a2) a3 < 0 by omega), cond_false, w1, Option.bind_some, same_eq _ _ (by rw [List.length_reverse]; omega), Option.bind_some, decide_eq_true rfl]
      · rw [Path_may l o a2 a3 hf (fun hh => hb hh.2.2), if_pos h, Option.bind_some, refMay_eq l o hf, Option.bind_some, decide_eq_true h, in17_eq, decide_eq_true ha, refSteps_eq hf h.1 h.2 ha, refReach_eq hf h.1 h.2 ha, refCopies_eq hf h.1 h.2 ha]
        simp only [Option.bind_some, Bool.not_true, Bool.not_false, cond_false, cond_true, decide_true, gd_true, alive17, in17_eq, decide_eq_false hb, same_eq _ _ (show (partI (edO l o) l.Segs a2).length ≤ 1000000 by omega), same_eq _ _ (show (stepsT l o a2).length ≤ 1000000 by omega)]
        rfl
    · rw [if_neg ha, if_neg ha, Copies_may l o a2 hf (fun hh => ha hh.2), if_pos h, Option.bind_some, Path_may l o a2 a3 hf (fun hh => ha hh.2.1), if_pos h, Option.bind_some, refMay_eq l o hf, Option.bind_some, decide_eq_true h, in17_eq, decide_eq_false ha, alive17]
      rfl
  · rw [if_neg h, if_neg h, Copies_may l o a2 hf (fun hh => h hh.1), if_neg h, Option.bind_some, Path_may l o a2 a3 hf (fun hh => h hh.1), if_neg h, Option.bind_some, refMay_eq l o hf, Option.bind_some, decide_eq_false h, alive17]
    rfl
end Go.RX
