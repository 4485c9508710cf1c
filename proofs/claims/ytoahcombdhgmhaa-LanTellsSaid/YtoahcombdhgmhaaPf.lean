/- The document's answer for plans, plainly: the second half. -/
import Derived.Test.YtoahcombdhgmhaaPe
set_option linter.unusedVariables false
set_option linter.unusedSimpArgs false
open Go Go.RX
namespace Go.RX
theorem refRight_eq (l : LanT) (hf : FewL l) : ref15_Right l = some (decide (LR l)) := by
  unfold ref15_Right
  rw [twice_eq l hf, gd_some, Option.bind_some]
  by_cases h : (1 ≤ l.Segs ∧ l.Segs ≤ 8) ∧ l.Plans.length ≤ 6 ∧ l.Hosts.length ≤ 8
  · have e : (bif (bif (bif (decide (l.Segs < 1)) then true else (decide (8 < l.Segs))) then true else (decide (6 < ((l.Plans.length : Nat) : Int)))) then true else (decide (8 < ((l.Hosts.length : Nat) : Int)))) = false := by
      rw [decide_eq_false (show ¬ l.Segs < 1 by omega), decide_eq_false (show ¬ 8 < l.Segs by omega), decide_eq_false (show ¬ 6 < ((l.Plans.length : Nat) : Int) by omega), decide_eq_false (show ¬ 8 < ((l.Hosts.length : Nat) : Int) by omega)]; rfl
    rw [e]
    simp only [Bool.not_false, cond_true, cond_false]
    by_cases h2 : (l.Plans.map (·.ID)).Nodup ∧ (l.Hosts.map (·.Mac)).Nodup
    · rw [decide_eq_true h2, Bool.not_true, cond_false]
      rcases rangeL_find (s0 := ()) (body := ref15_Right_b20 l) (xs := l.Plans) (by omega) (fun _ p => !decide (PlanOk l.Segs p)) (fun _ _ => false) (fun k p hp => by
        unfold ref15_Right_b20
        rw [refPlan_eq p _ (by have := hf.ports p (List.mem_of_getElem? hp); omega), Option.bind_some]; cases decide (PlanOk l.Segs p) <;> rfl) with ⟨k, p, hp, hq, _, h3⟩ | ⟨hq, h3⟩
      · rw [h3, aft_some_ret, decide_eq_false (fun hh => by
          have := hh.plan p (List.mem_of_getElem? hp)
          rw [decide_eq_true this] at hq; cases hq)]
      · rw [h3, aft_some_nxt]
        have hall : ∀ p ∈ l.Plans, PlanOk l.Segs p := fun p hp => by
          obtain ⟨k, hk⟩ := List.getElem?_of_mem hp
          simpa using hq k p hk
        rcases rangeL_find (s0 := ()) (body := ref15_Right_b22 l) (xs := l.Hosts) (by omega) (fun _ x => !decide (HostOk l.Segs x)) (fun _ _ => false) (fun k x hx => by
          unfold ref15_Right_b22
          rw [refMac_eq, Option.bind_some]
          have e : (bif (bif (!decide (Uni x.Mac)) then true else (decide (x.Seg < 0))) then true else (decide (l.Segs ≤ x.Seg))) = !decide (HostOk l.Segs x) := by
            rw [Bool.eq_iff_iff, Bool.not_eq_true', decide_eq_false_iff_not]
            unfold HostOk
            simp only [Bool.cond_eq_ite, Bool.if_true_left, Bool.or_eq_true, decide_eq_true_eq, Bool.not_eq_true', decide_eq_false_iff_not]
            by_cases hu : Uni x.Mac
            · simp only [hu, not_true_eq_false, false_or, true_and]; omega
            · simp only [hu, not_false_eq_true, true_or, false_and]
          rw [e]; cases decide (HostOk l.Segs x) <;> rfl) with ⟨k, x, hx, hq', _, h4⟩ | ⟨hq', h4⟩
        · rw [h4, aft_some_ret, decide_eq_false (fun hh => by
            have := hh.host x (List.mem_of_getElem? hx)
            rw [decide_eq_true this] at hq'; cases hq')]
        · have hall' : ∀ x ∈ l.Hosts, HostOk l.Segs x := fun x hx => by
            obtain ⟨k, hk⟩ := List.getElem?_of_mem hx
            simpa using hq' k x hk
          rw [h4, aft_some_nxt, decide_eq_true ((LR.iff l).2 ⟨h, ⟨h2.1, hall⟩, h2.2, hall'⟩)]
    · rw [decide_eq_false h2, decide_eq_false (fun hh => h2 ⟨hh.ids, hh.macs⟩)]; rfl
  · have e : (bif (bif (bif (decide (l.Segs < 1)) then true else (decide (8 < l.Segs))) then true else (decide (6 < ((l.Plans.length : Nat) : Int)))) then true else (decide (8 < ((l.Hosts.length : Nat) : Int)))) = true := by
      simp only [Bool.cond_eq_ite, Bool.if_true_left, Bool.or_eq_true, decide_eq_true_eq]
      omega
    rw [e, decide_eq_false (fun hh => h ((LR.iff l).1 hh).1)]; rfl
theorem joins_eq (p : PlanT) (s : Int) (hp : p.Ports.length ≤ 1000000) : ref15_joins p s = some (decide (s ∈ ups p)) := by
  unfold ref15_joins
  rcases rangeL_find (s0 := ()) (body := ref15_joins_b28 s) hp (fun _ x => x.Up && decide (x.Seg = s)) (fun _ _ => true) (fun k x hx => by
    unfold ref15_joins_b28; cases x.Up <;> cases decide (x.Seg = s) <;> rfl) with ⟨k, x, hx, hp, _, h⟩ | ⟨hp, h⟩
  · simp only [Bool.and_eq_true, decide_eq_true_eq] at hp
    rw [h, aft_some_ret, decide_eq_true (mem_ups.2 ⟨x, List.mem_of_getElem? hx, hp.1, hp.2⟩)]
  · rw [h, aft_some_nxt, decide_eq_false (fun hm => by
      obtain ⟨x, hx, hu, e⟩ := mem_ups.1 hm
      obtain ⟨k, hk⟩ := List.getElem?_of_mem hx
      have := hp k x hk
      simp [hu, e] at this)]
theorem next27 (p : PlanT) (a : List Bool) (hp : p.Ports.length ≤ 1000000) (ha : a.length ≤ 1000) : ∃ b : Bool, rangeL (ref15_next_b27 p) a false = some (.nxt b) ∧ (b = true ↔ ∃ t : Nat, On a t ∧ (t : Int) ∈ ups p) := by
  obtain ⟨b, h1, h2⟩ := rangeL_inv (ρ := Step (List Bool) (List Bool)) (body := ref15_next_b27 p) (xs := a) (s0 := false) (by omega) (fun k b => b = true ↔ ∃ t : Nat, t < k ∧ On a t ∧ (t : Int) ∈ ups p) (by simp) (fun k x b hx hb => by
    unfold ref15_next_b27
    rw [joins_eq p _ hp, gd_some, Option.bind_some]
    refine ⟨_, rfl, ?_⟩
    have key : (∃ t : Nat, t < k + 1 ∧ On a t ∧ (t : Int) ∈ ups p) ↔ b = true ∨ (x = true ∧ (k : Int) ∈ ups p) := by
      rw [hb]
      constructor
      · rintro ⟨t, h1, h2, h3⟩
        by_cases e : t = k
        · subst e; exact .inr ⟨by unfold On at h2; rw [hx] at h2; exact Option.some.inj h2, h3⟩
        · exact .inl ⟨t, by omega, h2, h3⟩
      · rintro (⟨t, h1, h2, h3⟩ | ⟨h1, h2⟩)
        · exact ⟨t, by omega, h2, h3⟩
        · exact ⟨k, by omega, by unfold On; rw [hx, h1], h2⟩
    rw [key]
    cases b <;> cases x <;> simp)
  exact ⟨b, h1, h2.trans ⟨fun ⟨t, _, h⟩ => ⟨t, h⟩, fun ⟨t, h⟩ => ⟨t, (List.getElem?_eq_some_iff.1 h.1).1, h⟩⟩⟩
theorem next26 (p : PlanT) (a s : List Bool) (k : Nat) (hp : p.Ports.length ≤ 1000000) (ha : a.length ≤ 1000) (hs : s.length = a.length) :
    ∃ s', ref15_next_b26 a k p s = some (.nxt s') ∧ s'.length = a.length ∧ ∀ j : Nat, j < a.length → (On s' j ↔ On s j ∨ (∃ t : Nat, On a t ∧ (t : Int) ∈ ups p) ∧ (j : Int) ∈ ups p) := by
  unfold ref15_next_b26
  obtain ⟨b, b1, b2⟩ := next27 p a hp ha
  rw [b1, aft_some_nxt]
  obtain ⟨s', h1, h2, h3⟩ := rangeL_inv (ρ := Step (List Bool) (List Bool)) (body := ref15_next_b28 p b) (xs := a) (s0 := s) (by omega)
    (fun m u => u.length = a.length ∧ ∀ j : Nat, j < a.length → (On u j ↔ On s j ∨ (j < m ∧ b = true ∧ (j : Int) ∈ ups p))) ⟨hs, fun j hj => by simp⟩ (fun m x u hm ⟨u1, u2⟩ => by
      have hml := (List.getElem?_eq_some_iff.1 hm).1
      unfold ref15_next_b28
      rw [grd_true ⟨by omega, by omega⟩, Int.toNat_natCast]
      unfold gixN
      have hmu : m < u.length := by omega
      rw [List.getElem?_eq_getElem hmu, Option.bind_some, joins_eq p _ hp, gd_some, Option.bind_some, grd_true ⟨by omega, by omega⟩]
      refine ⟨_, rfl, by rw [List.length_set, u1], fun j hj => ?_⟩
      by_cases e : m = j
      · subst e
        have h0 := u2 m hj
        have h0' : On u m ↔ u[m] = true := by unfold On; rw [List.getElem?_eq_getElem hmu]; simp
        rw [h0'] at h0
        unfold On at h0 ⊢
        rw [List.getElem?_set_self hmu]
        have : ¬ m < m := Nat.lt_irrefl m
        simp only [this, false_and, or_false] at h0
        rw [← h0]
        cases u[m] <;> cases b <;> simp
      · have := u2 j hj
        unfold On at this ⊢
        rw [List.getElem?_set_ne e, this]
        refine or_congr Iff.rfl (and_congr_left fun _ => ?_)
        omega)
  refine ⟨s', by rw [h1]; rfl, h2, fun j hj => ?_⟩
  rw [h3 j hj, b2]
  refine or_congr Iff.rfl ⟨fun h => h.2, fun h => ⟨hj, h⟩⟩
theorem next_eq (l : LanT) (hf : FewL l) (a : List Bool) (ha : a.length ≤ 1000) : ∃ s, ref15_next l a = some s ∧ Nx (ed l) a s := by
  unfold ref15_next
  obtain ⟨s, h1, h2, h3⟩ := rangeL_inv (ρ := List Bool) (body := ref15_next_b26 a) (xs := l.Plans) (s0 := [] ++ a) (by have := hf.plans; omega)
    (fun k s => s.length = a.length ∧ ∀ j : Nat, j < a.length → (On s j ↔ On a j ∨ ∃ p ∈ l.Plans.take k, (∃ t : Nat, On a t ∧ (t : Int) ∈ ups p) ∧ (j : Int) ∈ ups p)) ⟨rfl, fun j hj => by simp⟩ (fun k p s hp ⟨s1, s2⟩ => by
      have hm := List.mem_of_getElem? hp
      obtain ⟨s', h1, h2, h3⟩ := next26 p a s k (by have := hf.ports p hm; omega) ha s1
      refine ⟨s', h1, h2, fun j hj => ?_⟩
      rw [h3 j hj, s2 j hj, List.take_add_one, hp, or_assoc]
      refine or_congr Iff.rfl ?_
      constructor
      · rintro (⟨q, hq, h⟩ | h)
        · exact ⟨q, List.mem_append_left _ hq, h⟩
        · exact ⟨p, List.mem_append_right _ (List.mem_singleton.2 rfl), h⟩
      · rintro ⟨q, hq, h⟩
        rcases List.mem_append.1 hq with hq | hq
        · exact .inl ⟨q, hq, h⟩
        · obtain rfl := List.mem_singleton.1 hq; exact .inr h)
  refine ⟨s, by rw [grd_true (fits_of (by simpa using (by omega : a.length ≤ 1000000)) (by decide)), h1]; rfl, h2, fun j hj => ?_⟩
  rw [h3 j hj, List.take_length]
  refine or_congr Iff.rfl ?_
  constructor
  · rintro ⟨p, hp, ⟨t, h1, h2⟩, h3⟩; exact ⟨t, h1, jn_ed.2 ⟨p, hp, h2, h3⟩⟩
  · rintro ⟨t, h1, h2⟩
    obtain ⟨p, hp, h3, h4⟩ := jn_ed.1 h2
    exact ⟨p, hp, ⟨t, h1, h3⟩, h4⟩
/-- The rounds of the document's answer. -/
def rounds (l : LanT) (a : List Bool) : Nat → List Bool
  | 0 => a
  | k + 1 => (ref15_next l (rounds l a k)).getD []
theorem refPart_eq (l : LanT) (hf : FewL l) (h : LR l) (s : Int) (hs : 0 ≤ s ∧ s < l.Segs) : ref15_Part l s = some (partI (ed l) l.Segs s) := by
  have hseg := h.segs
  have hN : (l.Segs.toNat : Int) = l.Segs := by omega
  let a : List Bool := (List.range l.Segs.toNat).map fun j : Nat => decide ((j : Int) = s)
  have hal : a.length = l.Segs.toNat := by simp [a]
  have ha : ∀ j : Nat, j < l.Segs.toNat → (On a j ↔ j = s.toNat) := fun j hj => by
    unfold On
    simp only [a, List.getElem?_map, List.getElem?_range hj, Option.map_some, Option.some.injEq, decide_eq_true_eq]
    omega
  have hlen : ∀ k, (rounds l a k).length = l.Segs.toNat ∧ ref15_next l (rounds l a k) = some (rounds l a (k + 1)) ∧ Nx (ed l) (rounds l a k) (rounds l a (k + 1)) := by
    intro k
    induction k with
    | zero =>
      obtain ⟨u, h1, h2⟩ := next_eq l hf a (by omega)
      have : rounds l a 1 = u := by show (ref15_next l a).getD [] = u; rw [h1]; rfl
      rw [this]
      exact ⟨hal, h1, h2⟩
    | succ k ih =>
      have hk : (rounds l a (k + 1)).length = l.Segs.toNat := by rw [ih.2.2.1, ih.1]
      obtain ⟨u, h1, h2⟩ := next_eq l hf (rounds l a (k + 1)) (by omega)
      have : rounds l a (k + 1 + 1) = u := by show (ref15_next l (rounds l a (k + 1))).getD [] = u; rw [h1]; rfl
      rw [this]
      exact ⟨hk, h1, h2⟩
  obtain ⟨f1, f2⟩ := bfs (N := l.Segs.toNat) (E := ed l) h.bnd (a := s.toNat) (by omega) (f := rounds l a) hal ha (fun k _ => (hlen k).2.2)
  unfold ref15_Part
  rw [loopF_count (ρ := List Int) (body := ref15_Part_b24 l s) (s0 := (([] : List Bool), (0 : Int))) (fun k => ((List.range k).map fun j : Nat => decide ((j : Int) = s), (k : Int))) l.Segs.toNat (a, l.Segs) rfl (by omega) (fun k hk => by
      unfold ref15_Part_b24
      dsimp only
      rw [decide_eq_true (show ((k : Nat) : Int) < l.Segs by omega), cond_true, grd_true (fits_of (by simp; omega) (by decide)), w64_succ (by omega) (by omega), List.range_succ, List.map_append]
      rfl) (by
      unfold ref15_Part_b24
      dsimp only
      rw [decide_eq_false (by omega), hN]; rfl), aft_some_nxt,
    loopF_count (ρ := List Int) (body := ref15_Part_b25 l) (s0 := (a, (0 : Int))) (fun k => (rounds l a k, (k : Int))) l.Segs.toNat (rounds l a l.Segs.toNat, l.Segs) rfl (by omega) (fun k hk => by
      unfold ref15_Part_b25
      dsimp only
      rw [decide_eq_true (show ((k : Nat) : Int) < l.Segs by omega), cond_true, (hlen k).2.1, Option.bind_some, w64_succ (by omega) (by omega)]
      rfl) (by
      unfold ref15_Part_b25
      dsimp only
      rw [decide_eq_false (by omega), hN]; rfl), aft_some_nxt]
  generalize rounds l a l.Segs.toNat = z at f1 f2
  have hz := rangeN_up (ρ := List Int) (body := ref15_Part_b26 (z, l.Segs)) (n := ((z.length : Nat) : Int)) (s0 := []) (by omega) (fun k => ((List.range k).filter fun j => z[j]?.getD false).map fun j : Nat => (j : Int)) rfl (fun k hk => by
    have hk' : k < z.length := by omega
    unfold ref15_Part_b26
    dsimp only
    rw [grd_true ⟨by omega, by omega⟩, Int.toNat_natCast]
    unfold gixN
    have hle : (((List.range k).filter fun j => z[j]?.getD false).map fun j : Nat => (j : Int)).length ≤ 100 := by
      have := List.length_filter_le (fun j => z[j]?.getD false) (List.range k)
      rw [List.length_range] at this
      rw [List.length_map]; omega
    rw [List.getElem?_eq_getElem hk', Option.bind_some, grd_true (fits_of (by rw [List.length_append]; simp at hle ⊢; omega) (by decide)), List.range_succ, List.filter_append]
    have : (z[k]?.getD false) = z[k] := by rw [List.getElem?_eq_getElem hk']; rfl
    cases hzk : z[k] <;> simp [List.filter_cons, this, hzk])
  rw [hz, aft_some_nxt, Int.toNat_natCast]
  congr 1
  refine partI_eq ?_ fun t => ?_
  · rw [List.pairwise_map]
    exact (List.pairwise_lt_range.filter _).imp fun h => by omega
  · rw [List.mem_map]
    constructor
    · rintro ⟨j, hj, rfl⟩
      rw [List.mem_filter, List.mem_range] at hj
      have : On z j := by
        unfold On
        rw [List.getElem?_eq_getElem hj.1] at hj ⊢
        exact congrArg some hj.2
      obtain ⟨g1, g2⟩ := (f2 j).1 this
      refine ⟨⟨by omega, by omega⟩, ?_⟩
      rwa [Int.toNat_of_nonneg hs.1] at g2
    · rintro ⟨ht, hr⟩
      have : On z t.toNat := (f2 t.toNat).2 ⟨by omega, by rw [Int.toNat_of_nonneg hs.1, Int.toNat_of_nonneg ht.1]; exact hr⟩
      refine ⟨t.toNat, List.mem_filter.2 ⟨List.mem_range.2 (by omega), ?_⟩, by omega⟩
      unfold On at this
      rw [this]; rfl
theorem refParts_eq (l : LanT) (hf : FewL l) (h : LR l) : ref15_Parts l = some ((partsN l : Nat) : Int) := by
  have hseg := h.segs
  unfold ref15_Parts
  rw [loopF_count (ρ := Int) (body := ref15_Parts_b23 l) (s0 := ((0 : Int), (0 : Int))) (fun k => (((cnt (Rc (ed l)) k : Nat) : Int), (k : Int))) l.Segs.toNat (((partsN l : Nat) : Int), (l.Segs.toNat : Int)) rfl (by omega) (fun k hk => by
    unfold ref15_Parts_b23
    dsimp only
    have hc := cnt_le (R := Rc (ed l)) k
    obtain ⟨z, z1, z2⟩ := partI_head (E := ed l) (N := l.Segs) (s := k) (by omega)
    have hne : 0 < (partI (ed l) l.Segs k).length := (List.getElem?_eq_some_iff.1 z1).1
    rw [decide_eq_true (show ((k : Nat) : Int) < l.Segs by omega), cond_true, refPart_eq l hf h k ⟨by omega, by omega⟩, Option.bind_some, grd_true ⟨Int.le_refl 0, by omega⟩]
    unfold gixN
    rw [show (0 : Int).toNat = 0 from rfl, z1, Option.bind_some, w64_succ (n := (k : Int)) (by omega) (by omega)]
    by_cases hz : z = (k : Int)
    · rw [decide_eq_true hz, cond_true, w64_succ (by omega) (by omega)]; simp [cnt, z2.1 hz]
    · have : ¬ Lst (Rc (ed l)) k := fun h => hz (z2.2 h)
      rw [decide_eq_false hz]; simp [cnt, this]) (by
    unfold ref15_Parts_b23
    dsimp only
    rw [decide_eq_false (by omega)]; rfl), aft_some_nxt]
theorem upsCount3 (p : PlanT) (hp : p.Ports.length ≤ 1000) : rangeL ref15_Loops_b28 p.Ports 0 = some (.nxt (((ups p).length : Nat) : Int)) := by
  have := rangeL_foldI (ρ := Step Int Int) (body := ref15_Loops_b28) (xs := p.Ports) (s0 := 0) (by omega) (fun t => (((t.filter (·.Up)).length : Nat) : Int)) rfl (fun k x hx => by
    unfold ref15_Loops_b28
    have hle : ((p.Ports.take k).filter (·.Up)).length ≤ 1000 := by
      have := List.length_filter_le (fun x : LinkT => x.Up) (p.Ports.take k)
      rw [List.length_take] at this; omega
    rw [List.filter_append, List.length_append]
    cases hu : x.Up
    · simp [hu]
    · rw [cond_true, w64_succ (by omega) (by omega)]; simp [hu])
  rw [this]; unfold ups; rw [List.length_map]
theorem refLoops_eq (l : LanT) (hf : FewL l) (h : LR l) : ref15_Loops l = some (((partsN l : Nat) : Int) - l.Segs + ((slack l : Nat) : Int)) := by
  unfold ref15_Loops
  have hseg := h.segs
  have hc' : partsN l ≤ l.Segs.toNat := cnt_le _
  have hsl := slack_le l hf
  rw [refParts_eq l hf h, Option.bind_some, w64_in (by omega) (by omega)]
  have key : ∀ (t r : List PlanT), l.Plans = t ++ r → ((t.map ups).map fun p => p.length - 1).sum ≤ slack l := by
    intro t r e
    show _ ≤ ((l.Plans.map ups).map _).sum
    rw [e]; simp
  have := rangeL_foldI (ρ := Int) (body := ref15_Loops_b27) (xs := l.Plans) (s0 := ((partsN l : Nat) : Int) - l.Segs) (by have := hf.plans; omega)
    (fun t => ((partsN l : Nat) : Int) - l.Segs + ((((t.map ups).map fun p => p.length - 1).sum : Nat) : Int)) (by simp) (fun k p hp => by
      unfold ref15_Loops_b27
      have hm := List.mem_of_getElem? hp
      have hpl := hf.ports p hm
      have hul : (ups p).length ≤ p.Ports.length := by unfold ups; rw [List.length_map]; exact List.length_filter_le _ _
      have hk := key (l.Plans.take k) (l.Plans.drop k) (List.take_append_drop k l.Plans).symm
      have e : mn (((ups p).length : Nat) : Int) 1 = if (ups p).length = 0 then 0 else 1 := by unfold mn; split <;> split <;> omega
      rw [upsCount3 p (by omega), aft_some_nxt, w64_in (x := (_ : Int) + (((ups p).length : Nat) : Int)) (by omega) (by omega), e, w64_in (by split <;> omega) (by split <;> omega)]
      simp only [List.map_append, List.sum_append, List.map_cons, List.map_nil, List.sum_cons, List.sum_nil, Nat.add_zero]
      congr 2
      split <;> omega)
  rw [this, aft_some_nxt]
  rfl
end Go.RX
