/- Plans, plainly: parts and loops. -/
import Derived.Test.YtljecfgfbebjiaaOX
import Derived.Test.YtljecfgfbebjiaaSa
set_option linter.unusedVariables false
set_option linter.unusedSimpArgs false
open Go Go.RX
namespace Go.RX
theorem containsInt_eq (l : List Int) (a : Int) (hl : l.length ≤ 1000000) : slices_Contains_int l a = some (decide (a ∈ l)) := by
 unfold slices_Contains_int slices_Index_int
 rcases rangeL_find (s0 := ()) (body := slices_Index_int_c0 a) hl (fun _ x => decide (a = x)) (fun k _ => ((k : Nat) : Int)) (fun k x hx => by
  unfold slices_Index_int_c0; cases decide (a = x) <;> rfl) with ⟨k, x, hx, hp, _, h⟩ | ⟨hp, h⟩
 ·rw [h, aft_some_ret, Option.bind_some, decide_eq_true (Int.natCast_nonneg k), decide_eq_true (of_decide_eq_true hp ▸ List.mem_of_getElem? hx)]
 ·rw [h, aft_some_nxt, Option.bind_some, show decide (a ∈ l) = false from decide_eq_false (fun hx => by obtain ⟨k, hk⟩ := List.getElem?_of_mem hx; exact absurd rfl (of_decide_eq_false (hp k a hk)))]
  rfl
def ups (p : PlanT) : List Int := (p.Ports.filter (·.Up)).map (·.Seg)
def ed (l : LanT) : List (List Int) := l.Plans.map ups
theorem mem_ups {p : PlanT} {s : Int} : s ∈ ups p ↔ ∃ x ∈ p.Ports, x.Up = true ∧ x.Seg = s := by
 unfold ups
 rw [List.mem_map]
 constructor
 ·rintro ⟨x, hx, e⟩; rw [List.mem_filter] at hx; exact ⟨x, hx.1, hx.2, e⟩
 ·rintro ⟨x, hx, h, e⟩; exact ⟨x, List.mem_filter.2 ⟨hx, h⟩, e⟩
theorem jn_ed {l : LanT} {a b : Int} : Jn (ed l) a b ↔ ∃ p ∈ l.Plans, a ∈ ups p ∧ b ∈ ups p := by
 unfold Jn ed
 constructor
 ·rintro ⟨q, hq, h⟩; obtain ⟨p, hp, rfl⟩ := List.mem_map.1 hq; exact ⟨p, hp, h⟩
 ·rintro ⟨p, hp, h⟩; exact ⟨_, List.mem_map_of_mem hp, h⟩
theorem LR.bnd {l : LanT} (h : LR l) : Bnd l.Segs.toNat (ed l) := fun q hq x hx => by
 obtain ⟨p, hp, rfl⟩ := List.mem_map.1 hq
 obtain ⟨y, hy, _, rfl⟩ := mem_ups.1 hx
 have := ((h.plan p hp).2.2 y hy).1
 have := h.segs
 omega
theorem partB8 (p : PlanT) (s : List Int) (hp : p.Ports.length ≤ 1000000) (hs : s.length ≤ 1000) :
  (∃ y, y ∈ ups p ∧ y ∉ s ∧ rangeL lan_part_c2 p.Ports s = some (.ret (.ret (.nxt (s ++ [y]))))) ∨ ((∀ y ∈ ups p, y ∈ s) ∧ rangeL lan_part_c2 p.Ports s = some (.nxt s)) := by
 rcases rangeL_find (s0 := s) (body := lan_part_c2) hp (fun _ x => x.Up && !decide (x.Seg ∈ s)) (fun _ x => .ret (.nxt (s ++ [x.Seg]))) (fun k x hx => by
  unfold lan_part_c2
  rw [containsInt_eq _ _ (by omega), Option.bind_some, grd_true (fits_of (by simp; omega) (by decide))]
  cases x.Up <;> by_cases h : x.Seg ∈ s <;> simp [h]) with ⟨k, x, hx, hq, _, h⟩ | ⟨hq, h⟩
 ·simp only [Bool.and_eq_true, Bool.not_eq_true', decide_eq_false_iff_not] at hq
  exact .inl ⟨x.Seg, mem_ups.2 ⟨x, List.mem_of_getElem? hx, hq.1, rfl⟩, hq.2, h⟩
 ·refine .inr ⟨fun y hy => ?_, h⟩
  obtain ⟨x, hx, hu, rfl⟩ := mem_ups.1 hy
  obtain ⟨k, hk⟩ := List.getElem?_of_mem hx
  have := hq k x hk
  simpa [hu] using this
theorem partB7 (k : Nat) (p : PlanT) (s : List Int) (hp : p.Ports.length ≤ 1000000) (hs : s.length ≤ 1000) :
  (∃ a y, a ∈ ups p ∧ a ∈ s ∧ y ∈ ups p ∧ y ∉ s ∧ lan_part_c1 k p s = some (.ret (.nxt (s ++ [y])))) ∨ ((∀ a y, a ∈ ups p → a ∈ s → y ∈ ups p → y ∈ s) ∧ lan_part_c1 k p s = some (.nxt s)) := by
 unfold lan_part_c1
 rw [containsLink_eq _ _ (fun x => x.Up && decide (x.Seg ∈ s)) hp (fun x _ => by
  unfold lan_part_1
  rw [containsInt_eq _ _ (by omega), gd_some, Option.bind_some]
  cases x.Up <;> by_cases h : x.Seg ∈ s <;> simp [h]), Option.bind_some]
 by_cases ha : ∃ a ∈ ups p, a ∈ s
 ·obtain ⟨a, ha, has⟩ := ha
  have : p.Ports.any (fun x => x.Up && decide (x.Seg ∈ s)) = true := by
   obtain ⟨x, hx, hu, rfl⟩ := mem_ups.1 ha
   exact List.any_eq_true.2 ⟨x, hx, by simp [hu, has]⟩
  rw [this]
  rcases partB8 p s hp hs with ⟨y, h1, h2, h3⟩ | ⟨h1, h3⟩
  ·exact .inl ⟨a, y, ha, has, h1, h2, by rw [h3]; rfl⟩
  ·exact .inr ⟨fun _ y _ _ hy => h1 y hy, by rw [h3]; rfl⟩
 ·have : p.Ports.any (fun x => x.Up && decide (x.Seg ∈ s)) = false := by
   rw [List.any_eq_false]
   intro x hx hq
   simp only [Bool.and_eq_true, decide_eq_true_eq] at hq
   exact ha ⟨x.Seg, mem_ups.2 ⟨x, hx, hq.1, rfl⟩, hq.2⟩
  rw [this]
  exact .inr ⟨fun a y h1 h2 _ => absurd ⟨a, h1, h2⟩ ha, rfl⟩
theorem partB6 (l : LanT) (hf : FewL l) (s : List Int) (hs : s.length ≤ 1000) :
  (∃ a y, a ∈ s ∧ y ∉ s ∧ Jn (ed l) a y ∧ lan_part_c0 l s = some (.nxt (s ++ [y]))) ∨ ((∀ a y, a ∈ s → Jn (ed l) a y → y ∈ s) ∧ lan_part_c0 l s = some (.ret (s.mergeSort fun x y => decide (x ≤ y)))) := by
 unfold lan_part_c0
 obtain ⟨o, h1, h2⟩ := rangeL_rec (s0 := s) (body := lan_part_c1) (xs := l.Plans) (by have := hf.plans; omega)
  (fun k t => t = s ∧ ∀ p ∈ l.Plans.take k, ∀ a y, a ∈ ups p → a ∈ s → y ∈ ups p → y ∈ s)
  (fun r => ∃ a y, a ∈ s ∧ y ∉ s ∧ Jn (ed l) a y ∧ r = .nxt (s ++ [y])) (fun _ => False) ⟨rfl, by simp⟩ (fun k p t hp ⟨ht, hk⟩ => by
   subst ht
   have hm := List.mem_of_getElem? hp
   rcases partB7 k p t (by have := hf.ports p hm; omega) hs with ⟨a, y, h1, h2, h3, h4, h5⟩ | ⟨h1, h5⟩
   ·exact ⟨_, h5, a, y, h2, h4, jn_ed.2 ⟨p, hm, h1, h3⟩, rfl⟩
   ·refine ⟨_, h5, rfl, fun q hq => ?_⟩
    rw [List.take_add_one, hp] at hq
    rcases List.mem_append.1 hq with hq | hq
    ·exact hk q hq
    ·simp at hq; subst hq; exact h1)
 cases o with
 | ret r => obtain ⟨a, y, b1, b2, b3, rfl⟩ := h2; exact .inl ⟨a, y, b1, b2, b3, by rw [h1]; rfl⟩
 | brk t => exact h2.elim
 | nxt t =>
  obtain ⟨rfl, h3⟩ := h2.resolve_right id
  rw [List.take_length] at h3
  refine .inr ⟨fun a y ha hj => ?_, ?_⟩
  ·obtain ⟨p, hp, q1, q2⟩ := jn_ed.1 hj; exact h3 p hp a y q1 ha q2
  ·rw [h1, aft_some_nxt]
   unfold slices_Sort_int
   rw [grd_true (by omega)]; rfl
theorem part_eq (l : LanT) (hf : FewL l) (h : LR l) (s : Int) (hs : 0 ≤ s ∧ s < l.Segs) : lan_part l s = some (partI (ed l) l.Segs s) := by
 unfold lan_part
 have hb := h.bnd
 have hseg := h.segs
 obtain ⟨o, h1, h2⟩ := loopF_rec (body := lan_part_c0 l) (fun t => 100 - t.length) (fun t => t.Nodup ∧ (∀ x ∈ t, 0 ≤ x ∧ x < l.Segs) ∧ (∀ x ∈ t, Rc (ed l) s x) ∧ s ∈ t)
  (fun r => r = partI (ed l) l.Segs s) (fun _ => False) (fun t ⟨t1, t2, t3, t4⟩ => by
   have hlen : t.length ≤ 8 := by
    have := nodup_len (m := upI l.Segs) t1 fun x hx => mem_upI.2 (t2 x hx)
    have hu : (upI l.Segs).length = l.Segs.toNat := by simp [upI]
    omega
   rcases partB6 l hf t (by omega) with ⟨a, y, b1, b2, b3, b4⟩ | ⟨b1, b4⟩
   ·refine ⟨_, b4, ⟨?_, ?_, ?_, ?_⟩, ?_⟩
    ·rw [List.nodup_append]; exact ⟨t1, by simp, fun x hx z hz => by simp at hz; subst hz; exact fun e => b2 (e ▸ hx)⟩
    ·intro x hx
     rcases List.mem_append.1 hx with hx | hx
     ·exact t2 x hx
     ·simp at hx; subst hx
      obtain ⟨q, hq, _, hy⟩ := b3
      have := hb q hq x hy; omega
    ·intro x hx
     rcases List.mem_append.1 hx with hx | hx
     ·exact t3 x hx
     ·simp at hx; subst hx; exact (t3 a b1).step b3
    ·exact List.mem_append_left _ t4
    ·simp; omega
   ·refine ⟨_, b4, ?_⟩
    refine partI_eq (sort_asc t1) fun z => ?_
    rw [sort_mem]
    constructor
    ·exact fun hz => ⟨t2 z hz, t3 z hz⟩
    ·exact fun hz => Eqv.closed (p := fun z => z ∈ t) b1 hz.2 t4) 1000000 [s] ⟨by simp, fun x hx => by simp at hx; subst hx; exact hs, fun x hx => by simp at hx; subst hx; exact .refl, by simp⟩ (by simp)
 cases o with
 | ret r => subst h2; rw [h1]; rfl
 | brk t => exact h2.elim
 | nxt t => exact h2.elim
noncomputable def partsN (l : LanT) : Nat := cnt (Rc (ed l)) l.Segs.toNat
theorem lst_iff {l : LanT} {k : Nat} : Lst (Rc (ed l)) k ↔ ¬ ∃ t : Nat, t < k ∧ Rc (ed l) t k := by
 unfold Lst
 exact ⟨fun h ⟨t, h1, h2⟩ => h t h1 h2, fun h t h1 h2 => h ⟨t, h1, h2⟩⟩
theorem cnt_le {R : Int → Int → Prop} : ∀ n, cnt R n ≤ n
 | 0 => Nat.le_refl _
 | n + 1 => by
  have := cnt_le (R := R) n
  unfold cnt
  split <;> omega
theorem Parts_eq (l : LanT) (hf : FewL l) : lan_Parts l = some (if LR l then (((partsN l : Nat) : Int), 0) else (0, 1)) := by
 unfold lan_Parts
 rw [LanRight_eq l hf, Option.bind_some]
 by_cases h : LR l
 ·rw [decide_eq_true h, if_pos h]
  have hseg := h.segs
  obtain ⟨s, h1, h2⟩ := rangeN_inv (body := lan_Parts_c0 l) (n := l.Segs) (s0 := (0, [])) (by omega)
   (fun k s => s.1 = ((cnt (Rc (ed l)) k : Nat) : Int) ∧ ∀ x : Nat, (x : Int) < l.Segs → (mget s.2 (x : Int) false = true ↔ ∃ t : Nat, t < k ∧ Rc (ed l) t x)) ⟨rfl, fun x _ => by simp [mget_nil]⟩ (fun k s hk ⟨i1, i2⟩ => by
    unfold lan_Parts_c0
    have hm := i2 k hk
    have hc := cnt_le (R := Rc (ed l)) k
    cases hg : mget s.2 ((k : Nat) : Int) false with
    | true =>
     have hx := hm.1 hg
     have hl : ¬ Lst (Rc (ed l)) k := fun h => lst_iff.1 h hx
     refine ⟨_, rfl, ?_, fun x hx' => ?_⟩
     ·show s.1 = _; rw [i1]; simp [cnt, hl]
     ·rw [i2 x hx']
      constructor
      ·rintro ⟨t, a1, a2⟩; exact ⟨t, by omega, a2⟩
      ·rintro ⟨t, a1, a2⟩
       by_cases e : t = k
       ·subst e; obtain ⟨u, b1, b2⟩ := hx; exact ⟨u, b1, b2.trans a2⟩
       ·exact ⟨t, by omega, a2⟩
    | false =>
     have hl : Lst (Rc (ed l)) k := lst_iff.2 fun h => by rw [hm.2 h] at hg; cases hg
     rw [cond_false, part_eq l hf h _ ⟨by omega, hk⟩, Option.bind_some]
     have hpm : ∀ t, t ∈ partI (ed l) l.Segs k ↔ (0 ≤ t ∧ t < l.Segs) ∧ Rc (ed l) k t := fun t => partI_mem
     have hpl : (partI (ed l) l.Segs k).length ≤ 1000 := by
      have := List.length_filter_le (fun t => @decide (Rc (ed l) k t) (Classical.propDecidable _)) (upI l.Segs)
      have hu : (upI l.Segs).length = l.Segs.toNat := by simp [upI]
      show (List.filter _ _).length ≤ _
      omega
     generalize partI (ed l) l.Segs k = y at hpm hpl
     obtain ⟨m, m1, m2⟩ := rangeN_inv (ρ := Step (Int × Int) (Int × List (Int × Bool))) (body := lan_Parts_c1 y) (n := ((y.length : Nat) : Int)) (s0 := s.2) (by omega)
      (fun j m => ∀ x, mget m x false = true ↔ mget s.2 x false = true ∨ x ∈ y.take j) (fun x => by simp) (fun j m hj hm => by
       unfold lan_Parts_c1
       have hj' : j < y.length := by omega
       rw [grd_true ⟨by omega, by omega⟩, Int.toNat_natCast]
       unfold gixN
       rw [List.getElem?_eq_getElem hj', Option.bind_some]
       refine ⟨_, rfl, fun x => ?_⟩
       rw [List.take_add_one, List.getElem?_eq_getElem hj']
       by_cases e : y[j] = x
       ·subst e; rw [mget_mput]
        exact ⟨fun _ => .inr (List.mem_append_right _ (List.mem_singleton.2 rfl)), fun _ => rfl⟩
       ·rw [mget_mput_ne e, hm x]
        refine or_congr Iff.rfl ⟨fun h => List.mem_append_left _ h, fun h => ?_⟩
        rcases List.mem_append.1 h with h | h
        ·exact h
        ·exact absurd (List.mem_singleton.1 h).symm e)
     rw [m1, aft_some_nxt]
     refine ⟨_, rfl, ?_, fun x hx => ?_⟩
     ·show IntKind.i64.wrap (s.1 + 1) = _
      rw [i1, w64_succ (by omega) (by omega)]; simp [cnt, hl]
     ·show mget m (x : Int) false = true ↔ _
      rw [m2 x, Int.toNat_natCast, List.take_length, i2 x hx, hpm]
      constructor
      ·rintro (⟨t, a1, a2⟩ | ⟨_, a2⟩)
       ·exact ⟨t, by omega, a2⟩
       ·exact ⟨k, by omega, a2⟩
      ·rintro ⟨t, a1, a2⟩
       by_cases e : t = k
       ·subst e; exact .inr ⟨⟨by omega, hx⟩, a2⟩
       ·exact .inl ⟨t, by omega, a2⟩)
  rw [Bool.not_true, cond_false, h1, aft_some_nxt, h2.1]
  rfl
 ·rw [decide_eq_false h, if_neg h]; rfl
def slack (l : LanT) : Nat := ((ed l).map fun p => p.length - 1).sum
theorem slack_le (l : LanT) (hf : FewL l) : slack l ≤ 80 := by
 have key : ∀ ps : List PlanT, (∀ p ∈ ps, p.Ports.length ≤ 10) → ((ps.map ups).map fun p => p.length - 1).sum ≤ 10 * ps.length := by
  intro ps
  induction ps with
  | nil => intro _; simp
  | cons p ps ih =>
   intro h
   have h1 := ih fun q hq => h q (List.mem_cons_of_mem _ hq)
   have h2 := h p (List.mem_cons_self ..)
   have h3 : (ups p).length ≤ p.Ports.length := by unfold ups; rw [List.length_map]; exact List.length_filter_le _ _
   simp only [List.map_cons, List.sum_cons, List.length_cons]
   omega
 have := key l.Plans hf.ports
 have := hf.plans
 show ((l.Plans.map ups).map _).sum ≤ 80
 omega
theorem upsCount (p : PlanT) (hp : p.Ports.length ≤ 1000) : rangeL lan_Loops_c1 p.Ports 0 = some (.nxt (((ups p).length : Nat) : Int)) := by
 have := rangeL_foldI (ρ := Step (Int × Int) Int) (body := lan_Loops_c1) (xs := p.Ports) (s0 := 0) (by omega) (fun t => (((t.filter (·.Up)).length : Nat) : Int)) rfl (fun k x hx => by
  unfold lan_Loops_c1
  have hle : ((p.Ports.take k).filter (·.Up)).length ≤ 1000 := by
   have := List.length_filter_le (fun x : LinkT => x.Up) (p.Ports.take k)
   rw [List.length_take] at this; omega
  rw [List.filter_append, List.length_append]
  cases hu : x.Up
  ·simp [hu]
  ·rw [cond_true, w64_succ (by omega) (by omega)]; simp [hu])
 rw [this]; unfold ups; rw [List.length_map]
theorem Loops_eq (l : LanT) (hf : FewL l) : lan_Loops l = some (if LR l then (((partsN l : Nat) : Int) - l.Segs + ((slack l : Nat) : Int), 0) else (0, 1)) := by
 unfold lan_Loops
 rw [Parts_eq l hf, Option.bind_some]
 by_cases h : LR l
 ·rw [if_pos h, if_pos h]
  have hseg := h.segs
  have hc := cnt_le (R := Rc (ed l)) l.Segs.toNat
  have hc' : partsN l ≤ l.Segs.toNat := hc
  have hsl := slack_le l hf
  dsimp only
  rw [decide_eq_true rfl, Bool.not_true, cond_false, w64_in (by omega) (by omega)]
  have key : ∀ (t r : List PlanT) (k : Nat), l.Plans = t ++ r → ((t.map ups).map fun p => p.length - 1).sum ≤ slack l := by
   intro t r k e
   show _ ≤ ((l.Plans.map ups).map _).sum
   rw [e]; simp
  have := rangeL_foldI (ρ := Int × Int) (body := lan_Loops_c0) (xs := l.Plans) (s0 := ((partsN l : Nat) : Int) - l.Segs) (by have := hf.plans; omega)
   (fun t => ((partsN l : Nat) : Int) - l.Segs + ((((t.map ups).map fun p => p.length - 1).sum : Nat) : Int)) (by simp) (fun k p hp => by
    unfold lan_Loops_c0
    have hm := List.mem_of_getElem? hp
    have hpl := hf.ports p hm
    have hul : (ups p).length ≤ p.Ports.length := by unfold ups; rw [List.length_map]; exact List.length_filter_le _ _
    have hk := key (l.Plans.take k) (l.Plans.drop k) k (List.take_append_drop k l.Plans).symm
    rw [upsCount p (by omega), aft_some_nxt, w64_in (x := (((ups p).length : Nat) : Int) - 1) (by omega) (by omega)]
    have e : mx ((((ups p).length : Nat) : Int) - 1) 0 = (((ups p).length - 1 : Nat) : Int) := by unfold mx; split <;> omega
    rw [e, w64_in (by omega) (by omega)]
    simp only [List.map_append, List.sum_append, List.map_cons, List.map_nil, List.sum_cons, List.sum_nil, Nat.add_zero]
    congr 2
    omega)
  rw [this, aft_some_nxt]
  rfl
 ·rw [if_neg h, if_neg h]; rfl
theorem rc2 : Rc [[0, 1], [0, 1]] 0 1 := .one ⟨[0, 1], by simp, by simp, by simp⟩
theorem Part_eq (l : LanT) (hf : FewL l) (s : Int) : lan_Part l s = some (if LR l then (if 0 ≤ s ∧ s < l.Segs then (partI (ed l) l.Segs s, 0) else ([], 3)) else ([], 1)) := by
 unfold lan_Part
 rw [may_eq l hf, Option.bind_some]
 by_cases h : LR l
 ·rw [if_pos h, if_pos h]
  by_cases k : 0 ≤ s ∧ s < l.Segs
  ·rw [if_pos k, if_pos k, part_eq l hf h s k]; rfl
  ·rw [if_neg k, if_neg k]; rfl
 ·rw [if_neg h, if_neg h]; rfl

end Go.RX
