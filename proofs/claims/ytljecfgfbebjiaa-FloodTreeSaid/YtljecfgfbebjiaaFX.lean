/- Plans, plainly: parts and loops. -/
import Derived.Test.YtljecfgfbebjiaaOX
import Derived.Test.YtljecfgfbebjiaaSa
import Derived.Test.YtljecfgfbebjiaaDX
import Derived.Test.YtljecfgfbebjiaaSe
set_option linter.unusedVariables false
set_option linter.unusedSimpArgs false
open Go Go.RX
namespace Go.RX
section
theorem containsInt_eq (l : List Int) (a : Int) (hl : l.length ≤ 1000000) : slices_Contains_int l a = some (decide (a ∈ l)) := by
 unfold slices_Contains_int slices_Index_int
 rcases rangeL_find (s0 := ()) (body := slices_Index_int_c0 a) hl (fun _ x => decide (a = x)) (fun k _ => ((k : Nat) : Int)) (fun k x hx => by
  unfold slices_Index_int_c0; cases decide (a = x) <;> rfl) with ⟨k, x, hx, hp, _, h⟩ | ⟨hp, h⟩
 ·rw [h, aft_some_ret, Option.bind_some, decide_eq_true (Int.natCast_nonneg k), decide_eq_true (of_decide_eq_true hp ▸ List.mem_of_getElem? hx)]
 ·rw [h, aft_some_nxt, Option.bind_some, show decide (a ∈ l) = false from decide_eq_false (fun hx => by obtain ⟨k, hk⟩ := List.getElem?_of_mem hx; exact absurd rfl (of_decide_eq_false (hp k a hk)))]
  rfl
def ups (p : PlanT) : List Int := (p.Ports.filter (·.Up)).map (·.Seg)
def ed (l : LanT) : List (List Int) := l.Plans.map ups
theorem mem_ups {p : PlanT} {s : Int} : s ∈ ups p ↔ ∃ x ∈ p.Ports, x.Up = true ∧ x.Seg = s := by
 unfold ups
 rw [List.mem_map]
 constructor
 ·rintro ⟨x, hx, e⟩; rw [List.mem_filter] at hx; exact ⟨x, hx.1, hx.2, e⟩
 ·rintro ⟨x, hx, h, e⟩; exact ⟨x, List.mem_filter.2 ⟨hx, h⟩, e⟩
theorem jn_ed {l : LanT} {a b : Int} : Jn (ed l) a b ↔ ∃ p ∈ l.Plans, a ∈ ups p ∧ b ∈ ups p := by
 unfold Jn ed
 constructor
 ·rintro ⟨q, hq, h⟩; obtain ⟨p, hp, rfl⟩ := List.mem_map.1 hq; exact ⟨p, hp, h⟩
 ·rintro ⟨p, hp, h⟩; exact ⟨_, List.mem_map_of_mem hp, h⟩
theorem LR.bnd {l : LanT} (h : LR l) : Bnd l.Segs.toNat (ed l) := fun q hq x hx => by
 obtain ⟨p, hp, rfl⟩ := List.mem_map.1 hq
 obtain ⟨y, hy, _, rfl⟩ := mem_ups.1 hx
 have := ((h.plan p hp).2.2 y hy).1
 have := h.segs
 omega
theorem partB8 (p : PlanT) (s : List Int) (hp : p.Ports.length ≤ 1000000) (hs : s.length ≤ 1000) :
  (∃ y, y ∈ ups p ∧ y ∉ s ∧ rangeL lan_part_c2 p.Ports s = some (.ret (.ret (.nxt (s ++ [y]))))) ∨ ((∀ y ∈ ups p, y ∈ s) ∧ rangeL lan_part_c2 p.Ports s = some (.nxt s)) := by
 rcases rangeL_find (s0 := s) (body := lan_part_c2) hp (fun _ x => x.Up && !decide (x.Seg ∈ s)) (fun _ x => .ret (.nxt (s ++ [x.Seg]))) (fun k x hx => by
  unfold lan_part_c2
  rw [containsInt_eq _ _ (by omega), Option.bind_some, grd_true (fits_of (by simp; omega) (by decide))]
  cases x.Up <;> by_cases h : x.Seg ∈ s <;> simp [h]) with ⟨k, x, hx, hq, _, h⟩ | ⟨hq, h⟩
 ·simp only [Bool.and_eq_true, Bool.not_eq_true', decide_eq_false_iff_not] at hq
  exact .inl ⟨x.Seg, mem_ups.2 ⟨x, List.mem_of_getElem? hx, hq.1, rfl⟩, hq.2, h⟩
 ·refine .inr ⟨fun y hy => ?_, h⟩
  obtain ⟨x, hx, hu, rfl⟩ := mem_ups.1 hy
  obtain ⟨k, hk⟩ := List.getElem?_of_mem hx
  have := hq k x hk
  simpa [hu] using this
theorem partB7 (k : Nat) (p : PlanT) (s : List Int) (hp : p.Ports.length ≤ 1000000) (hs : s.length ≤ 1000) :
  (∃ a y, a ∈ ups p ∧ a ∈ s ∧ y ∈ ups p ∧ y ∉ s ∧ lan_part_c1 k p s = some (.ret (.nxt (s ++ [y])))) ∨ ((∀ a y, a ∈ ups p → a ∈ s → y ∈ ups p → y ∈ s) ∧ lan_part_c1 k p s = some (.nxt s)) := by
 unfold lan_part_c1
 rw [containsLink_eq _ _ (fun x => x.Up && decide (x.Seg ∈ s)) hp (fun x _ => by
  unfold lan_part_1
  rw [containsInt_eq _ _ (by omega), gd_some, Option.bind_some]
  cases x.Up <;> by_cases h : x.Seg ∈ s <;> simp [h]), Option.bind_some]
 by_cases ha : ∃ a ∈ ups p, a ∈ s
 ·obtain ⟨a, ha, has⟩ := ha
  have : p.Ports.any (fun x => x.Up && decide (x.Seg ∈ s)) = true := by
   obtain ⟨x, hx, hu, rfl⟩ := mem_ups.1 ha
   exact List.any_eq_true.2 ⟨x, hx, by simp [hu, has]⟩
  rw [this]
  rcases partB8 p s hp hs with ⟨y, h1, h2, h3⟩ | ⟨h1, h3⟩
  ·exact .inl ⟨a, y, ha, has, h1, h2, by rw [h3]; rfl⟩
  ·exact .inr ⟨fun _ y _ _ hy => h1 y hy, by rw [h3]; rfl⟩
 ·have : p.Ports.any (fun x => x.Up && decide (x.Seg ∈ s)) = false := by
   rw [List.any_eq_false]
   intro x hx hq
   simp only [Bool.and_eq_true, decide_eq_true_eq] at hq
   exact ha ⟨x.Seg, mem_ups.2 ⟨x, hx, hq.1, rfl⟩, hq.2⟩
  rw [this]
  exact .inr ⟨fun a y h1 h2 _ => absurd ⟨a, h1, h2⟩ ha, rfl⟩
theorem partB6 (l : LanT) (hf : FewL l) (s : List Int) (hs : s.length ≤ 1000) :
  (∃ a y, a ∈ s ∧ y ∉ s ∧ Jn (ed l) a y ∧ lan_part_c0 l s = some (.nxt (s ++ [y]))) ∨ ((∀ a y, a ∈ s → Jn (ed l) a y → y ∈ s) ∧ lan_part_c0 l s = some (.ret (s.mergeSort fun x y => decide (x ≤ y)))) := by
 unfold lan_part_c0
 obtain ⟨o, h1, h2⟩ := rangeL_rec (s0 := s) (body := lan_part_c1) (xs := l.Plans) (by have := hf.plans; omega)
  (fun k t => t = s ∧ ∀ p ∈ l.Plans.take k, ∀ a y, a ∈ ups p → a ∈ s → y ∈ ups p → y ∈ s)
  (fun r => ∃ a y, a ∈ s ∧ y ∉ s ∧ Jn (ed l) a y ∧ r = .nxt (s ++ [y])) (fun _ => False) ⟨rfl, by simp⟩ (fun k p t hp ⟨ht, hk⟩ => by
   subst ht
   have hm := List.mem_of_getElem? hp
   rcases partB7 k p t (by have := hf.ports p hm; omega) hs with ⟨a, y, h1, h2, h3, h4, h5⟩ | ⟨h1, h5⟩
   ·exact ⟨_, h5, a, y, h2, h4, jn_ed.2 ⟨p, hm, h1, h3⟩, rfl⟩
   ·refine ⟨_, h5, rfl, fun q hq => ?_⟩
    rw [List.take_add_one, hp] at hq
    rcases List.mem_append.1 hq with hq | hq
    ·exact hk q hq
    ·simp at hq; subst hq; exact h1)
 cases o with
 | ret r => obtain ⟨a, y, b1, b2, b3, rfl⟩ := h2; exact .inl ⟨a, y, b1, b2, b3, by rw [h1]; rfl⟩
 | brk t => exact h2.elim
 | nxt t =>
  obtain ⟨rfl, h3⟩ := h2.resolve_right id
  rw [List.take_length] at h3
  refine .inr ⟨fun a y ha hj => ?_, ?_⟩
  ·obtain ⟨p, hp, q1, q2⟩ := jn_ed.1 hj; exact h3 p hp a y q1 ha q2
  ·rw [h1, aft_some_nxt]
   unfold slices_Sort_int
   rw [grd_true (by omega)]; rfl
theorem part_eq (l : LanT) (hf : FewL l) (h : LR l) (s : Int) (hs : 0 ≤ s ∧ s < l.Segs) : lan_part l s = some (partI (ed l) l.Segs s) := by
 unfold lan_part
 have hb := h.bnd
 have hseg := h.segs
 obtain ⟨o, h1, h2⟩ := loopF_rec (body := lan_part_c0 l) (fun t => 100 - t.length) (fun t => t.Nodup ∧ (∀ x ∈ t, 0 ≤ x ∧ x < l.Segs) ∧ (∀ x ∈ t, Rc (ed l) s x) ∧ s ∈ t)
  (fun r => r = partI (ed l) l.Segs s) (fun _ => False) (fun t ⟨t1, t2, t3, t4⟩ => by
   have hlen : t.length ≤ 8 := by
    have := nodup_len (m := upI l.Segs) t1 fun x hx => mem_upI.2 (t2 x hx)
    have hu : (upI l.Segs).length = l.Segs.toNat := by simp [upI]
    omega
   rcases partB6 l hf t (by omega) with ⟨a, y, b1, b2, b3, b4⟩ | ⟨b1, b4⟩
   ·refine ⟨_, b4, ⟨?_, ?_, ?_, ?_⟩, ?_⟩
    ·rw [List.nodup_append]; exact ⟨t1, by simp, fun x hx z hz => by simp at hz; subst hz; exact fun e => b2 (e ▸ hx)⟩
    ·intro x hx
     rcases List.mem_append.1 hx with hx | hx
     ·exact t2 x hx
     ·simp at hx; subst hx
      obtain ⟨q, hq, _, hy⟩ := b3
      have := hb q hq x hy; omega
    ·intro x hx
     rcases List.mem_append.1 hx with hx | hx
     ·exact t3 x hx
     ·simp at hx; subst hx; exact (t3 a b1).step b3
    ·exact List.mem_append_left _ t4
    ·simp; omega
   ·refine ⟨_, b4, ?_⟩
    refine partI_eq (sort_asc t1) fun z => ?_
    rw [sort_mem]
    constructor
    ·exact fun hz => ⟨t2 z hz, t3 z hz⟩
    ·exact fun hz => Eqv.closed (p := fun z => z ∈ t) b1 hz.2 t4) 1000000 [s] ⟨by simp, fun x hx => by simp at hx; subst hx; exact hs, fun x hx => by simp at hx; subst hx; exact .refl, by simp⟩ (by simp)
 cases o with
 | ret r => subst h2; rw [h1]; rfl
 | brk t => exact h2.elim
 | nxt t => exact h2.elim
noncomputable def partsN (l : LanT) : Nat := cnt (Rc (ed l)) l.Segs.toNat
theorem lst_iff {l : LanT} {k : Nat} : Lst (Rc (ed l)) k ↔ ¬ ∃ t : Nat, t < k ∧ Rc (ed l) t k := by
 unfold Lst
 exact ⟨fun h ⟨t, h1, h2⟩ => h t h1 h2, fun h t h1 h2 => h ⟨t, h1, h2⟩⟩
theorem cnt_le {R : Int → Int → Prop} : ∀ n, cnt R n ≤ n
 | 0 => Nat.le_refl _
 | n + 1 => by
  have := cnt_le (R := R) n
  unfold cnt
  split <;> omega
theorem Parts_eq (l : LanT) (hf : FewL l) : lan_Parts l = some (if LR l then (((partsN l : Nat) : Int), 0) else (0, 1)) := by
 unfold lan_Parts
 rw [LanRight_eq l hf, Option.bind_some]
 by_cases h : LR l
 ·rw [decide_eq_true h, if_pos h]
  have hseg := h.segs
  obtain ⟨s, h1, h2⟩ := rangeN_inv (body := lan_Parts_c0 l) (n := l.Segs) (s0 := (0, [])) (by omega)
   (fun k s => s.1 = ((cnt (Rc (ed l)) k : Nat) : Int) ∧ ∀ x : Nat, (x : Int) < l.Segs → (mget s.2 (x : Int) false = true ↔ ∃ t : Nat, t < k ∧ Rc (ed l) t x)) ⟨rfl, fun x _ => by simp [mget_nil]⟩ (fun k s hk ⟨i1, i2⟩ => by
    unfold lan_Parts_c0
    have hm := i2 k hk
    have hc := cnt_le (R := Rc (ed l)) k
    cases hg : mget s.2 ((k : Nat) : Int) false with
    | true =>
     have hx := hm.1 hg
     have hl : ¬ Lst (Rc (ed l)) k := fun h => lst_iff.1 h hx
     refine ⟨_, rfl, ?_, fun x hx' => ?_⟩
     ·show s.1 = _; rw [i1]; simp [cnt, hl]
     ·rw [i2 x hx']
      constructor
      ·rintro ⟨t, a1, a2⟩; exact ⟨t, by omega, a2⟩
      ·rintro ⟨t, a1, a2⟩
       by_cases e : t = k
       ·subst e; obtain ⟨u, b1, b2⟩ := hx; exact ⟨u, b1, b2.trans a2⟩
       ·exact ⟨t, by omega, a2⟩
    | false =>
     have hl : Lst (Rc (ed l)) k := lst_iff.2 fun h => by rw [hm.2 h] at hg; cases hg
     rw [cond_false, part_eq l hf h _ ⟨by omega, hk⟩, Option.bind_some]
     have hpm : ∀ t, t ∈ partI (ed l) l.Segs k ↔ (0 ≤ t ∧ t < l.Segs) ∧ Rc (ed l) k t := fun t => partI_mem
     have hpl : (partI (ed l) l.Segs k).length ≤ 1000 := by
      have := List.length_filter_le (fun t => @decide (Rc (ed l) k t) (Classical.propDecidable _)) (upI l.Segs)
      have hu : (upI l.Segs).length = l.Segs.toNat := by simp [upI]
      show (List.filter _ _).length ≤ _
      omega
     generalize partI (ed l) l.Segs k = y at hpm hpl
     obtain ⟨m, m1, m2⟩ := rangeN_inv (ρ := Step (Int × Int) (Int × List (Int × Bool))) (body := lan_Parts_c1 y) (n := ((y.length : Nat) : Int)) (s0 := s.2) (by omega)
      (fun j m => ∀ x, mget m x false = true ↔ mget s.2 x false = true ∨ x ∈ y.take j) (fun x => by simp) (fun j m hj hm => by
       unfold lan_Parts_c1
       have hj' : j < y.length := by omega
       rw [grd_true ⟨by omega, by omega⟩, Int.toNat_natCast]
       unfold gixN
       rw [List.getElem?_eq_getElem hj', Option.bind_some]
       refine ⟨_, rfl, fun x => ?_⟩
       rw [List.take_add_one, List.getElem?_eq_getElem hj']
       by_cases e : y[j] = x
       ·subst e; rw [mget_mput]
        exact ⟨fun _ => .inr (List.mem_append_right _ (List.mem_singleton.2 rfl)), fun _ => rfl⟩
       ·rw [mget_mput_ne e, hm x]
        refine or_congr Iff.rfl ⟨fun h => List.mem_append_left _ h, fun h => ?_⟩
        rcases List.mem_append.1 h with h | h
        ·exact h
        ·exact absurd (List.mem_singleton.1 h).symm e)
     rw [m1, aft_some_nxt]
     refine ⟨_, rfl, ?_, fun x hx => ?_⟩
     ·show IntKind.i64.wrap (s.1 + 1) = _
      rw [i1, w64_succ (by omega) (by omega)]; simp [cnt, hl]
     ·show mget m (x : Int) false = true ↔ _
      rw [m2 x, Int.toNat_natCast, List.take_length, i2 x hx, hpm]
      constructor
      ·rintro (⟨t, a1, a2⟩ | ⟨_, a2⟩)
       ·exact ⟨t, by omega, a2⟩
       ·exact ⟨k, by omega, a2⟩
      ·rintro ⟨t, a1, a2⟩
       by_cases e : t = k
       ·subst e; exact .inr ⟨⟨by omega, hx⟩, a2⟩
       ·exact .inl ⟨t, by omega, a2⟩)
  rw [Bool.not_true, cond_false, h1, aft_some_nxt, h2.1]
  rfl
 ·rw [decide_eq_false h, if_neg h]; rfl
def slack (l : LanT) : Nat := ((ed l).map fun p => p.length - 1).sum
theorem slack_le (l : LanT) (hf : FewL l) : slack l ≤ 80 := by
 have key : ∀ ps : List PlanT, (∀ p ∈ ps, p.Ports.length ≤ 10) → ((ps.map ups).map fun p => p.length - 1).sum ≤ 10 * ps.length := by
  intro ps
  induction ps with
  | nil => intro _; simp
  | cons p ps ih =>
   intro h
   have h1 := ih fun q hq => h q (List.mem_cons_of_mem _ hq)
   have h2 := h p (List.mem_cons_self ..)
   have h3 : (ups p).length ≤ p.Ports.length := by unfold ups; rw [List.length_map]; exact List.length_filter_le _ _
   simp only [List.map_cons, List.sum_cons, List.length_cons]
   omega
 have := key l.Plans hf.ports
 have := hf.plans
 show ((l.Plans.map ups).map _).sum ≤ 80
 omega
theorem upsCount (p : PlanT) (hp : p.Ports.length ≤ 1000) : rangeL lan_Loops_c1 p.Ports 0 = some (.nxt (((ups p).length : Nat) : Int)) := by
 have := rangeL_foldI (ρ := Step (Int × Int) Int) (body := lan_Loops_c1) (xs := p.Ports) (s0 := 0) (by omega) (fun t => (((t.filter (·.Up)).length : Nat) : Int)) rfl (fun k x hx => by
  unfold lan_Loops_c1
  have hle : ((p.Ports.take k).filter (·.Up)).length ≤ 1000 := by
   have := List.length_filter_le (fun x : LinkT => x.Up) (p.Ports.take k)
   rw [List.length_take] at this; omega
  rw [List.filter_append, List.length_append]
  cases hu : x.Up
  ·simp [hu]
  ·rw [cond_true, w64_succ (by omega) (by omega)]; simp [hu])
 rw [this]; unfold ups; rw [List.length_map]
theorem Loops_eq (l : LanT) (hf : FewL l) : lan_Loops l = some (if LR l then (((partsN l : Nat) : Int) - l.Segs + ((slack l : Nat) : Int), 0) else (0, 1)) := by
 unfold lan_Loops
 rw [Parts_eq l hf, Option.bind_some]
 by_cases h : LR l
 ·rw [if_pos h, if_pos h]
  have hseg := h.segs
  have hc := cnt_le (R := Rc (ed l)) l.Segs.toNat
  have hc' : partsN l ≤ l.Segs.toNat := hc
  have hsl := slack_le l hf
  dsimp only
  rw [decide_eq_true rfl, Bool.not_true, cond_false, w64_in (by omega) (by omega)]
  have key : ∀ (t r : List PlanT) (k : Nat), l.Plans = t ++ r → ((t.map ups).map fun p => p.length - 1).sum ≤ slack l := by
   intro t r k e
   show _ ≤ ((l.Plans.map ups).map _).sum
   rw [e]; simp
  have := rangeL_foldI (ρ := Int × Int) (body := lan_Loops_c0) (xs := l.Plans) (s0 := ((partsN l : Nat) : Int) - l.Segs) (by have := hf.plans; omega)
   (fun t => ((partsN l : Nat) : Int) - l.Segs + ((((t.map ups).map fun p => p.length - 1).sum : Nat) : Int)) (by simp) (fun k p hp => by
    unfold lan_Loops_c0
    have hm := List.mem_of_getElem? hp
    have hpl := hf.ports p hm
    have hul : (ups p).length ≤ p.Ports.length := by unfold ups; rw [List.length_map]; exact List.length_filter_le _ _
    have hk := key (l.Plans.take k) (l.Plans.drop k) k (List.take_append_drop k l.Plans).symm
    rw [upsCount p (by omega), aft_some_nxt, w64_in (x := (((ups p).length : Nat) : Int) - 1) (by omega) (by omega)]
    have e : mx ((((ups p).length : Nat) : Int) - 1) 0 = (((ups p).length - 1 : Nat) : Int) := by unfold mx; split <;> omega
    rw [e, w64_in (by omega) (by omega)]
    simp only [List.map_append, List.sum_append, List.map_cons, List.map_nil, List.sum_cons, List.sum_nil, Nat.add_zero]
    congr 2
    omega)
  rw [this, aft_some_nxt]
  rfl
 ·rw [if_neg h, if_neg h]; rfl
theorem rc2 : Rc [[0, 1], [0, 1]] 0 1 := .one ⟨[0, 1], by simp, by simp, by simp⟩
theorem Part_eq (l : LanT) (hf : FewL l) (s : Int) : lan_Part l s = some (if LR l then (if 0 ≤ s ∧ s < l.Segs then (partI (ed l) l.Segs s, 0) else ([], 3)) else ([], 1)) := by
 unfold lan_Part
 rw [may_eq l hf, Option.bind_some]
 by_cases h : LR l
 ·rw [if_pos h, if_pos h]
  by_cases k : 0 ≤ s ∧ s < l.Segs
  ·rw [if_pos k, if_pos k, part_eq l hf h s k]; rfl
  ·rw [if_neg k, if_neg k]; rfl
 ·rw [if_neg h, if_neg h]; rfl
end
section
theorem repeat_eq (n : Int) (h : 1 ≤ n ∧ n ≤ 8) : slices_Repeat_int [-1] n = some (List.replicate n.toNat (-1)) := by
  have : n = 1 ∨ n = 2 ∨ n = 3 ∨ n = 4 ∨ n = 5 ∨ n = 6 ∨ n = 7 ∨ n = 8 := by omega
  rcases this with rfl | rfl | rfl | rfl | rfl | rfl | rfl | rfl <;> decide +kernel
theorem get_lt {l : List Int} {k : Nat} (h : k < l.length) : l[k]? = some l[k] := List.getElem?_eq_getElem h
theorem compact_in {l : List Int} (hl : l.length ≤ 900000) (hs : l.Pairwise (· ≤ ·)) {k : Nat} (hk0 : 1 ≤ k) (hk : k < l.length) (hasc : (l.take k).Pairwise (· < ·)) (he : l[k]? = l[k - 1]?) :
    ∃ (i : Nat) (L : List Int), loopF 1000000 (slices_Compact_int_c1 ((k : Int), l)) ((k : Int), 1, l) = some (.nxt (((i : Nat) : Int), ((l.length - k : Nat) : Int), L)) ∧ i < l.length ∧ L.length = l.length ∧ (L.take i).Pairwise (· < ·) ∧ ∀ x, x ∈ L.take i ↔ x ∈ l := by
  have hle : ∀ {a b : Nat} (hb : b < l.length) (hab : a ≤ b), l[a]'(by omega) ≤ l[b] := fun {a b} hb hab => by
    rcases Nat.lt_or_eq_of_le hab with h | h
    · exact List.pairwise_iff_getElem.1 hs a b (by omega) hb h
    · subst h; exact Int.le_refl _
  obtain ⟨o, h1, h2⟩ := loopF_rec (body := slices_Compact_int_c1 ((k : Int), l)) (fun s => l.length - s.2.1.toNat)
    (fun s => ∃ (i m : Nat), s.1 = (i : Int) ∧ s.2.1 = (m : Int) ∧ 1 ≤ m ∧ k + m ≤ l.length ∧ k ≤ i ∧ i + 1 ≤ k + m ∧ s.2.2.length = l.length ∧ (∀ j, i ≤ j → s.2.2[j]? = l[j]?) ∧ (s.2.2.take i).Pairwise (· < ·) ∧
      (∀ x, x ∈ s.2.2.take i ↔ x ∈ l.take (k + m)) ∧ s.2.2[i - 1]? = l[k + m - 1]?)
    (fun _ => False) (fun s => ∃ (i : Nat), s.1 = (i : Int) ∧ s.2.1 = ((l.length - k : Nat) : Int) ∧ i < l.length ∧ s.2.2.length = l.length ∧ (s.2.2.take i).Pairwise (· < ·) ∧ ∀ x, x ∈ s.2.2.take i ↔ x ∈ l)
    (fun s ⟨i, m, e1, e2, m1, m2, i1, i2, hL, hun, has, hmem, hlast⟩ => by
      obtain ⟨s1, s2, L⟩ := s
      dsimp only at e1 e2 hL hun has hmem hlast
      subst e1; subst e2
      unfold slices_Compact_int_c1
      dsimp only
      rw [Int.toNat_natCast]
      by_cases hm : k + m < l.length
      · have u1 : L[k + m]? = some l[k + m] := by rw [hun _ (by omega), get_lt hm]
        have u2 : L[k + (m - 1)]? = some (l[k + (m - 1)]'(by omega)) := by
          rw [hun _ (by omega), get_lt (by omega)]
        rw [decide_eq_true (show ((m : Nat) : Int) < ((L.length - k : Nat) : Int) by omega), cond_true, grd_true ⟨by omega, by omega⟩]
        unfold gixN
        rw [Int.toNat_natCast, u1, Option.bind_some, w64_in (x := ((m : Nat) : Int) - 1) (by omega) (by omega), grd_true ⟨by omega, by omega⟩, show (((m : Nat) : Int) - 1).toNat = m - 1 by omega, u2, Option.bind_some]
        have hidx : k + (m - 1) = k + m - 1 := by omega
        have htk : l.take (k + (m + 1)) = l.take (k + m) ++ [l[k + m]] := by rw [show k + (m + 1) = k + m + 1 by omega, List.take_add_one, get_lt hm]; rfl
        have hlast' : L[i - 1]? = some (l[k + (m - 1)]'(by omega)) := by rw [hlast, ← hidx, get_lt (by omega)]
        by_cases e : l[k + m] = l[k + (m - 1)]'(by omega)
        · rw [decide_eq_true e, Bool.not_true, cond_false, w64_in (by omega) (by omega)]
          refine ⟨_, rfl, ⟨i, m + 1, rfl, by show ((m : Nat) : Int) + 1 = _; omega, by omega, by omega, i1, by omega, hL, hun, has, fun x => ?_, ?_⟩, ?_⟩
          · show x ∈ L.take i ↔ _
            rw [htk, hmem x]
            constructor
            · exact fun h => List.mem_append_left _ h
            · intro h
              rcases List.mem_append.1 h with h | h
              · exact h
              · obtain rfl := List.mem_singleton.1 h
                rw [e]
                exact List.mem_of_getElem? (i := k + (m - 1)) (by rw [List.getElem?_take, if_pos (by omega), get_lt (by omega)])
          · show L[i - 1]? = _
            rw [hlast', show k + (m + 1) - 1 = k + m by omega, get_lt hm, e]
          · show l.length - (((m : Nat) : Int) + 1).toNat < l.length - (((m : Nat) : Int)).toNat; omega
        · rw [decide_eq_false e, Bool.not_false, cond_true, grd_true ⟨by omega, by omega⟩, grd_true ⟨by omega, by omega⟩, Int.toNat_natCast, get_lt (show i < L.length by omega), Option.bind_some, w64_in (by omega) (by omega), w64_in (by omega) (by omega)]
          have hnew : (L.set i l[k + m]).take (i + 1) = L.take i ++ [l[k + m]] := by
            rw [List.take_add_one, List.getElem?_set_self (by omega), List.take_set_of_le (Nat.le_refl i)]; rfl
          refine ⟨_, rfl, ⟨i + 1, m + 1, by show ((i : Nat) : Int) + 1 = _; omega, by show ((m : Nat) : Int) + 1 = _; omega, by omega, by omega, by omega, by omega, ?_, fun j hj => ?_, ?_, fun x => ?_, ?_⟩, ?_⟩
          · show (L.set _ _).length = _; rw [List.length_set, hL]
          · show (L.set i _)[j]? = _; rw [List.getElem?_set_ne (by omega)]; exact hun j (by omega)
          · show ((L.set i l[k + m]).take (i + 1)).Pairwise _
            rw [hnew, List.pairwise_append]
            refine ⟨has, by simp, fun x hx y hy => ?_⟩
            obtain rfl := List.mem_singleton.1 hy
            have hx' := (hmem x).1 hx
            obtain ⟨j, hj⟩ := List.getElem?_of_mem hx'
            have hjl : j < k + m := by have := (List.getElem?_eq_some_iff.1 hj).1; rw [List.length_take] at this; omega
            rw [List.getElem?_take, if_pos hjl, get_lt (by omega)] at hj
            obtain rfl := Option.some.inj hj
            have a1 := hle (a := j) (b := k + (m - 1)) (by omega) (by omega)
            have a2 := hle (a := k + (m - 1)) (b := k + m) hm (by omega)
            omega
          · show x ∈ (L.set i l[k + m]).take (i + 1) ↔ _
            rw [hnew, htk, List.mem_append, List.mem_append, hmem x]
          · show (L.set i l[k + m])[i + 1 - 1]? = _
            rw [show i + 1 - 1 = i by omega, List.getElem?_set_self (by omega), show k + (m + 1) - 1 = k + m by omega, get_lt hm]
          · show l.length - (((m : Nat) : Int) + 1).toNat < l.length - (((m : Nat) : Int)).toNat; omega
      · rw [decide_eq_false (show ¬ ((m : Nat) : Int) < ((L.length - k : Nat) : Int) by omega)]
        have hkm : k + m = l.length := by omega
        refine ⟨_, rfl, i, rfl, by show ((m : Nat) : Int) = _; omega, by omega, hL, has, fun x => ?_⟩
        rw [hmem x, hkm, List.take_length]) 1000000 ((k : Int), 1, l)
    ⟨k, 1, rfl, rfl, Nat.le_refl _, by omega, Nat.le_refl _, by omega, rfl, fun j _ => rfl, hasc, fun x => by
      show x ∈ l.take k ↔ _
      rw [List.take_add_one, get_lt hk]
      constructor
      · exact fun h => List.mem_append_left _ h
      · intro h
        rcases List.mem_append.1 h with h | h
        · exact h
        · have h : x ∈ [l[k]] := h
          obtain rfl := List.mem_singleton.1 h
          rw [get_lt hk] at he
          exact List.mem_of_getElem? (i := k - 1) (by rw [List.getElem?_take, if_pos (by omega), ← he]), by
      show l[k - 1]? = _
      rw [show k + 1 - 1 = k by omega, he]⟩ (by show l.length - _ < _; omega)
  cases o with
  | ret r => exact h2.elim
  | brk s => exact h2.elim
  | nxt s =>
    obtain ⟨s1, s2, L⟩ := s
    obtain ⟨i, e1, e2, h3, h4, h5, h6⟩ := h2
    dsimp only at e1 e2
    subst e1; subst e2
    exact ⟨i, L, h1, h3, h4, h5, h6⟩
theorem compact_eq (l : List Int) (hl : l.length ≤ 900000) (hs : l.Pairwise (· ≤ ·)) : ∃ r, slices_Compact_int l = some r ∧ r.Pairwise (· < ·) ∧ ∀ x, x ∈ r ↔ x ∈ l := by
  unfold slices_Compact_int
  by_cases h2 : ((l.length : Nat) : Int) < 2
  · rw [decide_eq_true h2]
    refine ⟨l, rfl, ?_, fun x => Iff.rfl⟩
    match l, h2 with
    | [], _ => exact List.Pairwise.nil
    | [a], _ => simp
    | _ :: _ :: _, h => simp at h; omega
  · rw [decide_eq_false h2, cond_false]
    obtain ⟨o, h1, h2⟩ := loopF_rec (body := slices_Compact_int_c0) (fun s => l.length - s.1.toNat)
      (fun s => ∃ k : Nat, s = ((k : Int), l) ∧ 1 ≤ k ∧ k ≤ l.length ∧ (l.take k).Pairwise (· < ·)) (fun r => r.Pairwise (· < ·) ∧ ∀ x, x ∈ r ↔ x ∈ l) (fun s => s.2 = l ∧ l.Pairwise (· < ·))
      (fun s ⟨k, e, k1, k2, k3⟩ => by
        subst e
        unfold slices_Compact_int_c0
        dsimp only
        by_cases hk : k < l.length
        · rw [decide_eq_true (show ((k : Nat) : Int) < ((l.length : Nat) : Int) by omega), cond_true, grd_true ⟨by omega, by omega⟩]
          unfold gixN
          rw [Int.toNat_natCast, get_lt hk, Option.bind_some, w64_in (x := ((k : Nat) : Int) - 1) (by omega) (by omega), grd_true ⟨by omega, by omega⟩, show (((k : Nat) : Int) - 1).toNat = k - 1 by omega, get_lt (show k - 1 < l.length by omega), Option.bind_some]
          by_cases e : l[k] = l[k - 1]
          · obtain ⟨i, L, g1, g2, g3, g4, g5⟩ := compact_in hl hs k1 hk k3 (by rw [get_lt hk, get_lt (show k - 1 < l.length by omega), e])
            rw [decide_eq_true e, cond_true, grd_true ⟨by omega, by omega⟩, g1, aft_some_nxt]
            dsimp only
            rw [grd_true ⟨by omega, by omega⟩, grd_true ⟨by omega, by omega⟩, Int.toNat_natCast]
            exact ⟨_, rfl, g4, g5⟩
          · rw [decide_eq_false e, w64_in (by omega) (by omega)]
            refine ⟨_, rfl, ⟨k + 1, by show (((k : Nat) : Int) + 1, l) = _; rfl, by omega, by omega, ?_⟩, by show l.length - (((k : Nat) : Int) + 1).toNat < l.length - (((k : Nat) : Int)).toNat; omega⟩
            rw [List.take_add_one, get_lt hk]
            show (l.take k ++ [l[k]]).Pairwise _
            rw [List.pairwise_append]
            refine ⟨k3, by simp, fun x hx y hy => ?_⟩
            obtain rfl := List.mem_singleton.1 hy
            obtain ⟨j, hj⟩ := List.getElem?_of_mem hx
            have hjl : j < k := by have := (List.getElem?_eq_some_iff.1 hj).1; rw [List.length_take] at this; omega
            rw [List.getElem?_take, if_pos hjl, get_lt (by omega)] at hj
            obtain rfl := Option.some.inj hj
            have a1 := List.pairwise_iff_getElem.1 hs (k - 1) k (by omega) hk (by omega)
            rcases Nat.lt_or_ge j (k - 1) with h | h
            · have := List.pairwise_iff_getElem.1 hs j (k - 1) (by omega) (by omega) h; omega
            · have : j = k - 1 := by omega
              subst this; omega
        · rw [decide_eq_false (show ¬ ((k : Nat) : Int) < ((l.length : Nat) : Int) by omega)]
          refine ⟨_, rfl, rfl, ?_⟩
          have : k = l.length := by omega
          subst this
          rwa [List.take_length] at k3) 1000000 (1, l) ⟨1, rfl, Nat.le_refl _, by omega, by
        cases l with
        | nil => simp
        | cons a t => simp⟩ (by show l.length - _ < _; omega)
    cases o with
    | ret r => exact ⟨r, by rw [h1]; rfl, h2.1, h2.2⟩
    | brk s => exact h2.elim
    | nxt s => exact ⟨l, by rw [h1, aft_some_nxt, h2.1], h2.2, fun x => Iff.rfl⟩
theorem sort_le (l : List Int) : (l.mergeSort fun x y => decide (x ≤ y)).Pairwise (· ≤ ·) :=
  (List.pairwise_mergeSort (le := fun x y : Int => decide (x ≤ y)) (fun a b c h1 h2 => by rw [decide_eq_true_eq] at *; omega) (fun a b => by rw [Bool.or_eq_true, decide_eq_true_eq, decide_eq_true_eq]; omega) l).imp fun h => of_decide_eq_true h
theorem near_eq (s : Int) (E : List (List Int)) (hE : E.length ≤ 100) (hq : ∀ q ∈ E, q.length ≤ 100) : ∃ r, flood_neighbours_1 s E = some r ∧ r.Pairwise (· < ·) ∧ ∀ t, t ∈ r ↔ Jn E s t := by
  unfold flood_neighbours_1
  obtain ⟨u, h1, h2, h3⟩ := rangeL_inv (ρ := List Int) (body := flood_neighbours_1_c0 s) (xs := E) (s0 := []) (by omega) (fun k u => u.length ≤ 100 * k ∧ ∀ t, t ∈ u ↔ Jn (E.take k) s t) ⟨by simp, fun t => by
    simp [Jn]⟩ (fun k q u hk ⟨u1, u2⟩ => by
      have hkl := (List.getElem?_eq_some_iff.1 hk).1
      have hqm := hq q (List.mem_of_getElem? hk)
      unfold flood_neighbours_1_c0
      rw [containsInt_eq _ _ (by omega), Option.bind_some]
      have ht : E.take (k + 1) = E.take k ++ [q] := by rw [List.take_add_one, hk]; rfl
      have key : ∀ t, Jn (E.take (k + 1)) s t ↔ Jn (E.take k) s t ∨ (s ∈ q ∧ t ∈ q) := fun t => by
        unfold Jn
        rw [ht]
        constructor
        · rintro ⟨p, hp, h⟩
          rcases List.mem_append.1 hp with hp | hp
          · exact .inl ⟨p, hp, h⟩
          · obtain rfl := List.mem_singleton.1 hp; exact .inr h
        · rintro (⟨p, hp, h⟩ | h)
          · exact ⟨p, List.mem_append_left _ hp, h⟩
          · exact ⟨q, List.mem_append_right _ (List.mem_singleton.2 rfl), h⟩
      by_cases hs : s ∈ q
      · rw [decide_eq_true hs, cond_true, grd_true (fits_of (by rw [List.length_append]; omega) (by decide))]
        refine ⟨_, rfl, by rw [List.length_append]; omega, fun t => ?_⟩
        rw [key, List.mem_append, u2 t]
        simp [hs]
      · rw [decide_eq_false hs]
        refine ⟨_, rfl, by omega, fun t => ?_⟩
        rw [key, u2 t]; simp [hs])
  rw [List.take_length] at h3
  rw [h1, aft_some_nxt]
  unfold slices_Sort_int
  have hlen : u.length ≤ 10000 := by
    have := Nat.mul_le_mul_left 100 hE
    omega
  rw [grd_true (by omega), Option.bind_some]
  obtain ⟨r, r1, r2, r3⟩ := compact_eq (u.mergeSort fun x y => decide (x ≤ y)) (by rw [List.length_mergeSort]; omega) (sort_le u)
  exact ⟨r, by rw [r1]; rfl, r2, fun t => (r3 t).trans (sort_mem.trans (h3 t))⟩
def opn (p : PlanT) (o : List Bool) : List Int := (p.Ports.zip o).filterMap fun x => if x.1.Up = true ∧ x.2 = true then some x.1.Seg else none
def edO (l : LanT) (open_ : List (List Bool)) : List (List Int) := (l.Plans.zip open_).map fun x => opn x.1 x.2
structure Shp (l : LanT) (o : List (List Bool)) : Prop where
  len : o.length = l.Plans.length
  row : ∀ (b : Nat) (p : PlanT) (q : List Bool), l.Plans[b]? = some p → o[b]? = some q → q.length = p.Ports.length
theorem opn_len (p : PlanT) (o : List Bool) : (opn p o).length ≤ p.Ports.length := by
  unfold opn
  refine Nat.le_trans (List.length_filterMap_le _ _) ?_
  rw [List.length_zip]; omega
theorem mem_opn {p : PlanT} {o : List Bool} {s : Int} : s ∈ opn p o ↔ ∃ (k : Nat) (x : LinkT), p.Ports[k]? = some x ∧ o[k]? = some true ∧ x.Up = true ∧ x.Seg = s := by
  unfold opn
  rw [List.mem_filterMap]
  constructor
  · rintro ⟨x, hx, he⟩
    obtain ⟨k, hk⟩ := List.getElem?_of_mem hx
    rw [List.getElem?_zip_eq_some] at hk
    split at he
    · rename_i hc
      exact ⟨k, x.1, hk.1, by rw [hk.2, hc.2], hc.1, Option.some.inj he⟩
    · cases he
  · rintro ⟨k, x, hx, ho, hu, hs⟩
    exact ⟨(x, true), List.mem_of_getElem? (i := k) (List.getElem?_zip_eq_some.2 ⟨hx, ho⟩), by simp [hu, hs]⟩
theorem jn_edO {l : LanT} {o : List (List Bool)} {a b : Int} : Jn (edO l o) a b ↔ ∃ (c : Nat) (p : PlanT) (q : List Bool), l.Plans[c]? = some p ∧ o[c]? = some q ∧ a ∈ opn p q ∧ b ∈ opn p q := by
  unfold Jn edO
  constructor
  · rintro ⟨r, hr, h1, h2⟩
    obtain ⟨x, hx, rfl⟩ := List.mem_map.1 hr
    obtain ⟨c, hc⟩ := List.getElem?_of_mem hx
    rw [List.getElem?_zip_eq_some] at hc
    exact ⟨c, x.1, x.2, hc.1, hc.2, h1, h2⟩
  · rintro ⟨c, p, q, h1, h2, h3, h4⟩
    exact ⟨opn p q, List.mem_map.2 ⟨(p, q), List.mem_of_getElem? (i := c) (List.getElem?_zip_eq_some.2 ⟨h1, h2⟩), rfl⟩, h3, h4⟩
theorem opens_eq (l : LanT) (o : List (List Bool)) (hf : FewL l) (hs : Shp l o) {b : Nat} {p : PlanT} {q : List Bool} (hp : l.Plans[b]? = some p) (hq : o[b]? = some q) : flood_opens l o (b : Int) = some (opn p q) := by
  unfold flood_opens
  rw [gix_nat, hp, Option.bind_some]
  have hpl := hf.ports p (List.mem_of_getElem? hp)
  have hlen := hs.row b p q hp hq
  obtain ⟨u, h1, h2⟩ := rangeL_inv (ρ := List Int) (body := flood_opens_c0 o (b : Int)) (xs := p.Ports) (s0 := []) (by omega) (fun k u => u = ((p.Ports.zip q).take k).filterMap (fun x => if x.1.Up = true ∧ x.2 = true then some x.1.Seg else none) ∧ u.length ≤ k) ⟨by simp, by simp⟩ (fun k x u hk ⟨hu, hul⟩ => by
    have hkl := (List.getElem?_eq_some_iff.1 hk).1
    have hqk : q[k]? = some (q[k]'(by omega)) := List.getElem?_eq_getElem (by omega)
    have hz : (p.Ports.zip q)[k]? = some (x, q[k]'(by omega)) := List.getElem?_zip_eq_some.2 ⟨hk, hqk⟩
    generalize q[k]'(by omega) = v at hqk hz
    unfold flood_opens_c0
    rw [gix_nat, hq, gd_some, Option.bind_some, List.take_add_one, hz, List.filterMap_append, ← hu, grd_true (fits_of (by rw [List.length_append]; simp; omega) (by decide))]
    cases hx : x.Up with
    | false => exact ⟨_, rfl, by simp [hx], by omega⟩
    | true =>
      simp only [gd_true, cond_true]
      rw [gix_nat, hqk, Option.bind_some]
      cases v with
      | false => exact ⟨_, rfl, by simp [hx], by omega⟩
      | true => exact ⟨_, rfl, by simp [hx], by rw [List.length_append]; simp; omega⟩)
  rw [h1, aft_some_nxt, h2.1]
  unfold opn
  have : p.Ports.length = (p.Ports.zip q).length := by rw [List.length_zip]; omega
  rw [this, List.take_length]
theorem neighbours_eq (l : LanT) (o : List (List Bool)) (hf : FewL l) (hs : Shp l o) : flood_neighbours l o = some (edO l o) := by
  unfold flood_neighbours
  have hpl := hf.plans
  obtain ⟨u, h1, h2⟩ := rangeL_inv (ρ := List (List Int)) (body := flood_neighbours_c0 l o) (xs := l.Plans) (s0 := []) (by omega) (fun k u => u = ((l.Plans.zip o).take k).map (fun x => opn x.1 x.2) ∧ u.length ≤ k) ⟨by simp, by simp⟩ (fun k p u hk ⟨hu, hul⟩ => by
    have hkl := (List.getElem?_eq_some_iff.1 hk).1
    have hok : o[k]? = some (o[k]'(by rw [hs.len]; exact hkl)) := List.getElem?_eq_getElem (by rw [hs.len]; exact hkl)
    have hz : (l.Plans.zip o)[k]? = some (p, o[k]'(by rw [hs.len]; exact hkl)) := List.getElem?_zip_eq_some.2 ⟨hk, hok⟩
    generalize o[k]'(by rw [hs.len]; exact hkl) = q at hok hz
    unfold flood_neighbours_c0
    rw [opens_eq l o hf hs hk hok, Option.bind_some, grd_true (fits_of (by rw [List.length_append]; simp; omega) (by decide))]
    exact ⟨_, rfl, by rw [hu, List.take_add_one, hz, List.map_append]; rfl, by rw [List.length_append]; simp; omega⟩)
  rw [h1, aft_some_nxt, h2.1]
  unfold edO
  have : l.Plans.length = (l.Plans.zip o).length := by rw [List.length_zip, hs.len]; omega
  rw [this, List.take_length]
theorem edO_bnd {l : LanT} {o : List (List Bool)} (h : LR l) : ∀ a b, Jn (edO l o) a b → 0 ≤ b ∧ b < l.Segs := fun a b hj => by
  obtain ⟨c, p, q, h1, _, _, h4⟩ := jn_edO.1 hj
  obtain ⟨k, x, hx, _, _, rfl⟩ := mem_opn.1 h4
  exact ((h.plan p (List.mem_of_getElem? h1)).2.2 x (List.mem_of_getElem? hx)).1
theorem dv_some {d : List Int} {s : Int} {n : Nat} (h0 : 0 ≤ s) (hs : s.toNat < d.length) : d[s.toNat]? = some (dv d s) := by
  unfold dv; rw [List.getElem?_eq_getElem hs]; rfl
theorem steps_eq (l : LanT) (o : List (List Bool)) (hf : FewL l) (h : LR l) (hs : Shp l o) (a : Int) (ha : 0 ≤ a ∧ a < l.Segs) : ∃ d, flood_steps l o a = some d ∧ DT (Jn (edO l o)) a l.Segs.toNat d := by
  have hseg := h.segs
  have hN : ((l.Segs.toNat : Nat) : Int) = l.Segs := by omega
  have hG : ∀ x y, Jn (edO l o) x y → 0 ≤ y ∧ y < ((l.Segs.toNat : Nat) : Int) := by rw [hN]; exact edO_bnd h
  have hE1 : (edO l o).length ≤ 100 := by unfold edO; rw [List.length_map, List.length_zip]; have := hf.plans; omega
  have hE2 : ∀ q ∈ edO l o, q.length ≤ 100 := fun q hq => by
    obtain ⟨x, hx, rfl⟩ := List.mem_map.1 hq
    have h1 := opn_len x.1 x.2
    have h2 := hf.ports x.1 (List.of_mem_zip hx).1
    omega
  unfold flood_steps
  rw [repeat_eq l.Segs hseg, Option.bind_some, List.length_replicate, grd_true ⟨ha.1, by omega⟩]
  unfold gixN
  rw [List.getElem?_replicate, if_pos (by omega), Option.bind_some, neighbours_eq l o hf hs, Option.bind_some]
  generalize edO l o = E at hG hE1 hE2
  obtain ⟨u, h1, h2⟩ := loopF_rec (ρ := List Int) (body := flood_steps_c0 E) (fun s => 100 - s.2.1.toNat)
    (fun s => ∃ i : Nat, s.2.1 = (i : Int) ∧ i ≤ s.1.length ∧ QI (Jn E) a l.Segs.toNat i (fun _ => False) s.2.2 s.1) (fun _ => False) (fun s => DT (Jn E) a l.Segs.toNat s.2.2)
    (fun s ⟨i, e, hi, hq⟩ => by
      obtain ⟨q, s2, d⟩ := s
      dsimp only at e hi hq
      subst e
      have hsz := hq.size
      unfold flood_steps_c0
      dsimp only
      by_cases hil : i < q.length
      · rw [decide_eq_true (show ((i : Nat) : Int) < ((q.length : Nat) : Int) by omega), cond_true, grd_true ⟨by omega, by omega⟩]
        unfold gixN
        rw [Int.toNat_natCast]
        have hu : q[i]? = some q[i] := List.getElem?_eq_getElem hil
        rw [hu, Option.bind_some]
        generalize q[i] = w at hu
        obtain ⟨nb, n1, n2, n3⟩ := near_eq w E hE1 hE2
        rw [n1, Option.bind_some]
        have hnl : nb.length ≤ 8 := by
          have := nodup_len (m := upI l.Segs) (n2.imp fun h => by omega) fun x hx => mem_upI.2 (by have := hG w x ((n3 x).1 hx); omega)
          have hu : (upI l.Segs).length = l.Segs.toNat := by simp [upI]
          omega
        obtain ⟨t, t1, t2, t3, t4⟩ := rangeN_inv (ρ := Step (List Int) ((List Int) × Int × (List Int))) (body := flood_steps_c1 (q, (i : Int), d) nb) (n := ((nb.length : Nat) : Int)) (s0 := (q, d)) (by omega)
          (fun m t => QI (Jn E) a l.Segs.toNat i (fun x => x ∈ nb.take m) t.2 t.1 ∧ t.1[i]? = some w ∧ i < t.1.length) ⟨by
            have : (fun x : Int => x ∈ nb.take 0) = fun _ => False := by funext x; simp
            rw [this]; exact hq, hu, hil⟩ (fun m t hm ⟨tq, tw, tl⟩ => by
            obtain ⟨q', d'⟩ := t
            dsimp only at tq tw tl
            have hm' : m < nb.length := by omega
            unfold flood_steps_c1
            rw [grd_true ⟨by omega, by omega⟩, Int.toNat_natCast]
            unfold gixN
            rw [List.getElem?_eq_getElem hm', Option.bind_some]
            have hmem : nb[m] ∈ nb := List.getElem_mem hm'
            have htk : (fun x : Int => x ∈ nb.take (m + 1)) = fun x => x ∈ nb.take m ∨ x = nb[m] := by
              funext x
              rw [List.take_add_one, List.getElem?_eq_getElem hm']
              exact propext (List.mem_append.trans (or_congr Iff.rfl List.mem_singleton))
            have hPb : ∀ x, x ∈ nb.take m → 0 ≤ x ∧ x < ((l.Segs.toNat : Nat) : Int) := fun x hx => hG w x ((n3 x).1 (List.mem_of_mem_take hx))
            rw [htk]
            generalize nb[m] = z at hmem
            have hz := (n3 z).1 hmem
            have hzb := hG w z hz
            have hdl := tq.len
            dsimp only
            rw [grd_true ⟨hzb.1, by omega⟩, dv_some (n := 0) hzb.1 (by omega), Option.bind_some]
            by_cases hv : dv d' z < 0
            · have hwq : w ∈ q' := List.mem_of_getElem? tw
              have hwb := tq.bnd w hwq
              have hwv : ∃ k : Nat, dv d' w = k ∧ Wk (Jn E) a k w := by
                rcases tq.mem w hwb.1 hwb.2 with h1 | h1
                · exact h1.2
                · exact absurd hwq h1.1
              obtain ⟨k, hk, _⟩ := hwv
              have hk8 : (k : Int) ≤ 1000 := by
                have := tq.lvl i w tw
                have := tq.size
                omega
              have hqs := tq.size
              rw [decide_eq_true hv, cond_true, grd_true ⟨by omega, by omega⟩, Int.toNat_natCast, tw, Option.bind_some, grd_true ⟨hwb.1, by omega⟩, dv_some (n := 0) hwb.1 (by omega), Option.bind_some, grd_true ⟨hzb.1, by omega⟩, grd_true (fits_of (by rw [List.length_append]; simp; omega) (by decide)), w64_in (by omega) (by omega)]
              exact ⟨_, rfl, tq.new hG hPb tw hz hv, by show (q' ++ [z])[i]? = some w; rw [List.getElem?_append_left tl]; exact tw, by show i < (q' ++ [z]).length; rw [List.length_append]; omega⟩
            · rw [decide_eq_false hv]
              exact ⟨_, rfl, tq.old tw hzb (by omega), tw, tl⟩)
        rw [t1, aft_some_nxt, w64_in (by omega) (by omega)]
        refine ⟨_, rfl, ⟨i + 1, by show ((i : Nat) : Int) + 1 = _; omega, t4, ?_⟩, ?_⟩
        · refine t2.next t3 fun x hx => ?_
          rw [Int.toNat_natCast, List.take_length]; exact (n3 x).2 hx
        · show 100 - (((i : Nat) : Int) + 1).toNat < 100 - (((i : Nat) : Int)).toNat; omega
      · rw [decide_eq_false (show ¬ ((i : Nat) : Int) < ((q.length : Nat) : Int) by omega)]
        exact ⟨_, rfl, hq.fin (by omega) hG (by omega)⟩) 1000000 ([a], 0, (List.replicate l.Segs.toNat (-1)).set a.toNat 0)
    ⟨0, rfl, by simp, QI.start (by omega) (by rw [List.length_set, List.length_replicate]) (dv_eq ha.1 (by rw [List.length_replicate]; omega)) (fun s s1 s2 s3 => by
      rw [dv_ne s1 ha.1 s3]
      unfold dv; rw [List.getElem?_replicate, if_pos (by omega)]; rfl)⟩ (by show 100 - _ < _; omega)
  cases u with
  | ret r => exact h2.elim
  | brk s => exact h2.elim
  | nxt s => exact ⟨s.2.2, by rw [h1]; rfl, h2⟩
end
section
theorem few17_eq (l : LanT) : law17_few l = some (fewL l) := by
  unfold law17_few
  rw [grd_true (mn_ok _ _ (by decide)), show (8 : Int) = ((8 : Nat) : Int) from rfl, take_mn,
    rangeL_map (f := fun p : PlanT => (⟨p.ID, p.Ports.take 10⟩ : PlanT)) (by rw [List.length_take]; omega) (fun k x s hx hk => by
      have hk8 : k < 8 := by have := (List.getElem?_eq_some_iff.1 hx).1; rw [List.length_take] at this; omega
      unfold law17_few_c0
      rw [grd_true (mn_ok _ _ (by decide)), grd_true (fits_of (by simp; omega) (by decide)), show (10 : Int) = ((10 : Nat) : Int) from rfl, take_mn]),
    aft_some_nxt, grd_true (mn_ok _ _ (by decide)), show (12 : Int) = ((12 : Nat) : Int) from rfl, take_mn]
  rfl
def rowsL (o : List (List Bool)) : List (List Bool) := (o.take 8).map fun x => x.take 10
structure FewO (o : List (List Bool)) : Prop where
  len : o.length ≤ 8
  row : ∀ x ∈ o, x.length ≤ 10
theorem rowsL_few (o : List (List Bool)) : FewO (rowsL o) where
  len := by unfold rowsL; rw [List.length_map, List.length_take]; omega
  row x hx := by
    obtain ⟨y, _, rfl⟩ := List.mem_map.1 hx
    rw [List.length_take]; omega
open Classical in
theorem fmay_eq (l : LanT) (o : List (List Bool)) (ss : List Int) (hf : FewL l) (hss : ss.length ≤ 100) : flood_may l o ss = some (if LR l ∧ Shp l o then (if ∀ s ∈ ss, 0 ≤ s ∧ s < l.Segs then 0 else 3) else 1) := by
  unfold flood_may
  rw [LanRight_eq l hf, Option.bind_some]
  have hpl := hf.plans
  by_cases h : LR l
  · rw [decide_eq_true h]
    by_cases hl : o.length = l.Plans.length
    · rw [decide_eq_true (show ((o.length : Nat) : Int) = ((l.Plans.length : Nat) : Int) by omega)]
      simp only [Bool.not_true, cond_false]
      rcases rangeL_find (s0 := ()) (body := flood_may_c0 o) (xs := l.Plans) (by omega) (fun k p => !decide ((o[k]?.getD []).length = p.Ports.length)) (fun _ _ => 1) (fun k p hk => by
        have hkl := (List.getElem?_eq_some_iff.1 hk).1
        unfold flood_may_c0
        rw [gix_nat, List.getElem?_eq_getElem (show k < o.length by omega), Option.bind_some]
        have : (decide ((((o[k]'(by omega)).length : Nat) : Int) = ((p.Ports.length : Nat) : Int))) = decide ((o[k]'(by omega)).length = p.Ports.length) := decide_eq_decide.2 (by omega)
        rw [this]
        simp only [Option.getD_some]
        cases decide ((o[k]'(by omega)).length = p.Ports.length) <;> rfl) with ⟨k, p, hk, hp, _, h2⟩ | ⟨hp, h2⟩
      · rw [h2, aft_some_ret, if_neg]
        rintro ⟨_, hs⟩
        have hkl := (List.getElem?_eq_some_iff.1 hk).1
        have hok : o[k]? = some (o[k]'(by omega)) := List.getElem?_eq_getElem (by omega)
        have := hs.row k p _ hk hok
        rw [hok] at hp
        simp [this] at hp
      · have hS : Shp l o := ⟨hl, fun b p q h3 h4 => by
          have := hp b p h3
          rw [h4] at this
          simpa using this⟩
        rw [h2, aft_some_nxt, if_pos ⟨h, hS⟩]
        have hc : slices_ContainsFunc_int ss (fun x => flood_may_1 x l) = some (ss.any fun s => (bif (decide (s < 0)) then true else (decide (l.Segs ≤ s)))) :=
          (show slices_ContainsFunc_int ss (fun x => flood_may_1 x l) = conG (fun x => flood_may_1 x l) ss from rfl).trans (conG_eq (by omega) (fun x _ => rfl))
        rw [hc, Option.bind_some]
        by_cases ha : ∀ s ∈ ss, 0 ≤ s ∧ s < l.Segs
        · rw [if_pos ha, List.any_eq_false.2 fun s hs => by
            have := ha s hs
            rw [decide_eq_false (show ¬ s < 0 by omega), decide_eq_false (show ¬ l.Segs ≤ s by omega)]; simp]
          rfl
        · rw [if_neg ha]
          have : ss.any (fun s => (bif (decide (s < 0)) then true else (decide (l.Segs ≤ s)))) = true := by
            rw [List.any_eq_true]
            simp only [Classical.not_forall] at ha
            obtain ⟨s, hs, hn⟩ := ha
            refine ⟨s, hs, ?_⟩
            by_cases h1 : s < 0
            · rw [decide_eq_true h1]; rfl
            · rw [decide_eq_false h1, decide_eq_true (show l.Segs ≤ s by omega)]; rfl
          rw [this]; rfl
    · rw [decide_eq_false (show ¬ ((o.length : Nat) : Int) = ((l.Plans.length : Nat) : Int) by omega), if_neg (fun hh => hl hh.2.len)]; rfl
  · rw [decide_eq_false h, if_neg (fun hh => h hh.1)]; rfl
def stepsT (l : LanT) (o : List (List Bool)) (a : Int) : List Int := (flood_steps l o a).getD []
theorem stepsT_eq {l : LanT} {o : List (List Bool)} (hf : FewL l) (h : LR l) (hs : Shp l o) {a : Int} (ha : 0 ≤ a ∧ a < l.Segs) : flood_steps l o a = some (stepsT l o a) ∧ DT (Jn (edO l o)) a l.Segs.toNat (stepsT l o a) := by
  obtain ⟨d, h1, h2⟩ := steps_eq l o hf h hs a ha
  have : stepsT l o a = d := by unfold stepsT; rw [h1]; rfl
  rw [this]; exact ⟨h1, h2⟩
open Classical in
theorem Steps_eq (l : LanT) (o : List (List Bool)) (a : Int) (hf : FewL l) : flood_Steps l o a = some (if LR l ∧ Shp l o then (if 0 ≤ a ∧ a < l.Segs then (stepsT l o a, 0) else ([], 3)) else ([], 1)) := by
  unfold flood_Steps
  rw [fmay_eq l o [a] hf (by simp), Option.bind_some]
  by_cases h : LR l ∧ Shp l o
  · rw [if_pos h, if_pos h]
    by_cases ha : 0 ≤ a ∧ a < l.Segs
    · rw [if_pos (by simpa using ha), if_pos ha, (stepsT_eq hf h.1 h.2 ha).1]; rfl
    · rw [if_neg (by simpa using ha), if_neg ha]; rfl
  · rw [if_neg h, if_neg h]; rfl
theorem dt_reach {G : Int → Int → Prop} {a : Int} {N : Nat} {d : List Int} (h : DT G a N d) {s : Nat} (hs : s < N) : ∃ v, d[s]? = some v ∧ (0 ≤ v ↔ Eqv G a s) := by
  rcases h.2 s hs with ⟨h1, h2⟩ | ⟨n, h1, h2⟩
  · exact ⟨-1, h1, ⟨fun h => by omega, fun hr => by obtain ⟨n, hn⟩ := Wk.eqv.1 hr; exact absurd hn (h2 n)⟩⟩
  · exact ⟨n, h1, ⟨fun _ => Wk.eqv.2 ⟨n, h2.1⟩, fun _ => by omega⟩⟩
theorem reachRow {ρ : Type} {body : Nat → List Int → Option (Step ρ (List Int))} {E : List (List Int)} {a N : Int} {d : List Int} (hN : 0 ≤ N ∧ N ≤ 8) (h : DT (Jn E) a N.toNat d)
    (hb : ∀ (k : Nat) (v : Int) (s : List Int), (k : Int) < N → d[k]? = some v → s.length ≤ 100 → body k s = some (bif decide (0 ≤ v) then .nxt (s ++ [(k : Int)]) else .nxt s)) : rangeN body N [] = some (.nxt (partI E N a)) := by
  obtain ⟨t, h1, h2, h3, h4⟩ := rangeN_inv (body := body) (n := N) (s0 := []) (by omega) (fun k t => t.length ≤ k ∧ t.Pairwise (· < ·) ∧ ∀ x, x ∈ t ↔ (0 ≤ x ∧ x < (k : Int)) ∧ Rc E a x) ⟨by simp, by simp, fun x => by simp; omega⟩ (fun k t hk ⟨t1, t2, t3⟩ => by
    obtain ⟨v, hv, hr⟩ := dt_reach h (s := k) (by omega)
    rw [hb k v t hk hv (by omega)]
    by_cases h0 : 0 ≤ v
    · rw [decide_eq_true h0]
      refine ⟨_, rfl, by rw [List.length_append]; simp; omega, ?_, fun x => ?_⟩
      · rw [List.pairwise_append]
        refine ⟨t2, by simp, fun x hx y hy => ?_⟩
        obtain rfl := List.mem_singleton.1 hy
        have := ((t3 x).1 hx).1; omega
      · rw [List.mem_append, List.mem_singleton, t3]
        constructor
        · rintro (h1 | rfl)
          · exact ⟨⟨h1.1.1, by omega⟩, h1.2⟩
          · exact ⟨⟨by omega, by omega⟩, hr.1 h0⟩
        · rintro ⟨h1, h2⟩
          by_cases e : x = (k : Int)
          · exact .inr e
          · exact .inl ⟨⟨h1.1, by omega⟩, h2⟩
    · rw [decide_eq_false h0]
      refine ⟨_, rfl, by omega, t2, fun x => ?_⟩
      rw [t3]
      constructor
      · rintro ⟨h1, h2⟩; exact ⟨⟨h1.1, by omega⟩, h2⟩
      · rintro ⟨h1, h2⟩
        by_cases e : x = (k : Int)
        · subst e; exact absurd (hr.2 h2) h0
        · exact ⟨⟨h1.1, by omega⟩, h2⟩)
  rw [h1]
  have : t = partI E N a := partI_eq h3 fun x => by rw [h4]; rw [Int.toNat_of_nonneg hN.1]
  rw [this]
open Classical in
theorem Reach_eq (l : LanT) (o : List (List Bool)) (a : Int) (hf : FewL l) : flood_Reach l o a = some (if LR l ∧ Shp l o then (if 0 ≤ a ∧ a < l.Segs then (partI (edO l o) l.Segs a, 0) else ([], 3)) else ([], 1)) := by
  unfold flood_Reach
  rw [fmay_eq l o [a] hf (by simp), Option.bind_some]
  by_cases h : LR l ∧ Shp l o
  · rw [if_pos h, if_pos h]
    by_cases ha : 0 ≤ a ∧ a < l.Segs
    · have hseg := h.1.segs
      obtain ⟨e1, e2⟩ := stepsT_eq hf h.1 h.2 ha
      rw [if_pos (by simpa using ha), if_pos ha, e1, decide_eq_true rfl, Bool.not_true, cond_false, Option.bind_some,
        reachRow (E := edO l o) (a := a) (d := stepsT l o a) (by omega) e2 (fun k v s hk hv hs => by
          unfold flood_Reach_c0
          have hl := e2.1
          rw [grd_true ⟨by omega, by omega⟩, Int.toNat_natCast]
          unfold gixN
          rw [hv, Option.bind_some, grd_true (fits_of (by rw [List.length_append]; simp; omega) (by decide))]
          cases decide (0 ≤ v) <;> rfl)]
      rfl
    · rw [if_neg (by simpa using ha), if_neg ha]; rfl
  · rw [if_neg h, if_neg h]; rfl
theorem has_eq (l : List Int) (a : Int) (hl : l.length ≤ 1000000) : ref06_Has l a = some (decide (a ∈ l)) := by
  unfold ref06_Has
  rcases rangeL_find (s0 := ()) (body := ref06_Has_c0 a) hl (fun _ x => decide (x = a)) (fun _ _ => true) (fun k x hx => by
    unfold ref06_Has_c0; cases decide (x = a) <;> rfl) with ⟨k, x, hx, hp, _, h⟩ | ⟨hp, h⟩
  · rw [h, aft_some_ret, decide_eq_true (of_decide_eq_true hp ▸ List.mem_of_getElem? hx)]
  · rw [h, aft_some_nxt, decide_eq_false (fun hx => by obtain ⟨k, hk⟩ := List.getElem?_of_mem hx; exact absurd rfl (of_decide_eq_false (hp k a hk)))]
theorem same_eq (x y : List Int) (hl : x.length ≤ 1000000) : ref06_Same x y = some (decide (x = y)) := by
  unfold ref06_Same
  by_cases h : x.length = y.length
  · rw [decide_eq_true (show ((x.length : Nat) : Int) = ((y.length : Nat) : Int) by omega), Bool.not_true, cond_false]
    rcases rangeL_find (s0 := ()) (body := ref06_Same_c0 y) hl (fun k a => !decide (y[k]? = some a)) (fun _ _ => false) (fun k a hk => by
      have hlt : k < y.length := by have := (List.getElem?_eq_some_iff.1 hk).1; omega
      unfold ref06_Same_c0
      rw [gix_lt hlt, Option.bind_some, List.getElem?_eq_getElem hlt]
      by_cases e : a = y[k]
      · subst e; simp
      · have e' : ¬ y[k] = a := fun h => e h.symm
        simp [e, e']) with ⟨k, a, hx, hp, _, h2⟩ | ⟨hp, h2⟩
    · rw [h2, aft_some_ret]
      have : ¬ x = y := fun e => by subst e; rw [hx] at hp; simp at hp
      rw [decide_eq_false this]
    · rw [h2, aft_some_nxt]
      have : x = y := List.ext_getElem? fun k => by
        by_cases hk : k < x.length
        · have := hp k x[k] (List.getElem?_eq_getElem hk)
          simp only [Bool.not_eq_false', decide_eq_true_eq] at this
          rw [List.getElem?_eq_getElem hk, this]
        · rw [List.getElem?_eq_none (by omega), List.getElem?_eq_none (by omega)]
      rw [decide_eq_true this]
  · have : ¬ x = y := fun e => h (by rw [e])
    rw [decide_eq_false (show ¬ ((x.length : Nat) : Int) = ((y.length : Nat) : Int) by omega), decide_eq_false this]; rfl
theorem partI_len (E : List (List Int)) (N s : Int) : (partI E N s).length ≤ N.toNat := by
  have := List.length_filter_le (fun t => @decide (Rc E s t) (Classical.propDecidable _)) (upI N)
  have hu : (upI N).length = N.toNat := by simp [upI]
  show (List.filter _ _).length ≤ _
  omega
theorem alive17 : law17_alive = some true := by
  unfold law17_alive
  have hf : FewL (⟨2, [⟨1, [⟨0, 1, true⟩, ⟨1, 1, true⟩]⟩], []⟩ : LanT) := ⟨by simp, by simp, by simp⟩
  have hl : LR (⟨2, [⟨1, [⟨0, 1, true⟩, ⟨1, 1, true⟩]⟩], []⟩ : LanT) := by decide
  have hs : Shp (⟨2, [⟨1, [⟨0, 1, true⟩, ⟨1, 1, true⟩]⟩], []⟩ : LanT) [[true, true]] := ⟨rfl, fun b p q h1 h2 => by
    match b, h1, h2 with
    | 0, h1, h2 => simp at h1 h2; subst h1; subst h2; rfl
    | b + 1, h1, _ => simp at h1⟩
  rw [Steps_eq _ _ _ hf, if_pos ⟨hl, hs⟩, if_pos (by decide), Option.bind_some]
  have h2 := (stepsT_eq hf hl hs (a := 0) (by decide)).2
  have hd : stepsT (⟨2, [⟨1, [⟨0, 1, true⟩, ⟨1, 1, true⟩]⟩], []⟩ : LanT) [[true, true]] 0 = [0, 1] := by
    refine h2.uniq ⟨rfl, fun s hs => ?_⟩
    have hs : s < 2 := hs
    match s, hs with
    | 0, _ => exact .inr ⟨0, rfl, .zero⟩
    | 1, _ =>
      refine .inr ⟨1, rfl, .succ .zero ⟨[0, 1], by simp [edO, opn], by simp, by simp⟩, fun m hm hw => ?_⟩
      obtain rfl : m = 0 := by omega
      have := Dist.zero_iff.1 (show Dist _ 0 0 ((1 : Nat) : Int) from ⟨hw, fun m hm => absurd hm (Nat.not_lt_zero _)⟩)
      simp at this
  dsimp only
  rw [hd, same_eq _ _ (by simp)]
  rfl
end
section
open Classical in
theorem Copies_ex (l : LanT) (o : List (List Bool)) (hf : FewL l) (h : LR l ∧ Shp l o) : ∃ n, flood_Copies l o 0 = some (n, 0) := by
  have hseg := h.1.segs
  unfold flood_Copies
  obtain ⟨e1, e2⟩ := stepsT_eq hf h.1 h.2 (a := 0) (by omega)
  rw [fmay_eq l o [0] hf (by simp), if_pos h, if_pos (by simp; omega), Option.bind_some, decide_eq_true rfl, Bool.not_true, cond_false, e1, Option.bind_some]
  obtain ⟨n, h1, _⟩ := rangeL_inv (ρ := Int × Int) (body := flood_Copies_c0 l o (stepsT l o 0)) (xs := l.Plans) (s0 := 0) (by have := hf.plans; omega) (fun _ _ => True) trivial (fun k p s hk _ => by
    have hkl := (List.getElem?_eq_some_iff.1 hk).1
    have ho : o[k]? = some (o[k]'(by rw [h.2.len]; exact hkl)) := List.getElem?_eq_getElem _
    have hpl := hf.ports p (List.mem_of_getElem? hk)
    unfold flood_Copies_c0
    rw [opens_eq l o hf h.2 hk ho, Option.bind_some]
    generalize o[k]'(by rw [h.2.len]; exact hkl) = q at ho
    have hol := opn_len p q
    have hc : slices_ContainsFunc_int (opn p q) (fun x => flood_Copies_1 x (stepsT l o 0)) = some ((opn p q).any fun s => decide (0 ≤ dv (stepsT l o 0) s)) :=
      (show slices_ContainsFunc_int (opn p q) (fun x => flood_Copies_1 x (stepsT l o 0)) = conG (fun x => flood_Copies_1 x (stepsT l o 0)) (opn p q) from rfl).trans (conG_eq (by omega) (fun x hx => by
        obtain ⟨m, y, hy, _, _, rfl⟩ := mem_opn.1 hx
        have hb := ((h.1.plan p (List.mem_of_getElem? hk)).2.2 y (List.mem_of_getElem? hy)).1
        unfold flood_Copies_1
        rw [gix_of hb.1 (dv_some (n := 0) hb.1 (by rw [e2.1]; omega)), Option.bind_some]))
    rw [hc, Option.bind_some]
    cases (opn p q).any fun s => decide (0 ≤ dv (stepsT l o 0) s) <;> exact ⟨_, rfl, trivial⟩)
  exact ⟨n, by rw [h1]; rfl⟩
theorem dt_dv {G : Int → Int → Prop} {a : Int} {N : Nat} {d : List Int} (h : DT G a N d) {s : Int} (h0 : 0 ≤ s) (hs : s < N) : (dv d s = -1 ∧ ∀ n, ¬ Wk G a n s) ∨ ∃ n : Nat, dv d s = n ∧ Dist G a n s := by
  have := h.2 s.toNat (by omega)
  rw [Int.toNat_of_nonneg h0, dv_some (n := 0) h0 (by rw [h.1]; omega)] at this
  rcases this with ⟨h1, h2⟩ | ⟨n, h1, h2⟩
  · exact .inl ⟨Option.some.inj h1, h2⟩
  · exact .inr ⟨n, Option.some.inj h1, h2⟩
structure PathOk (d : List Int) (a b : Int) (N : Int) (n : Nat) (r : List Int) : Prop where
  len : r.length = n + 1
  first : r[0]? = some a
  last : r[n]? = some b
  at_ : ∀ (k : Nat) (x : Int), r[k]? = some x → (0 ≤ x ∧ x < N) ∧ dv d x = (k : Int)
end
section
theorem twiceLoop {α : Type} {body : Nat → α → Unit → Option (Step Bool Unit)} {xs : List α} (hl : xs.length ≤ 1000) (key : α → Int)
    (hb : ∀ k x, xs[k]? = some x → body k x () = some (bif (xs.take k).any (fun y => decide (key x = key y)) then .ret true else .nxt ())) :
    ((xs.map key).Nodup ∧ rangeL body xs () = some (.nxt ())) ∨ (¬ (xs.map key).Nodup ∧ rangeL body xs () = some (.ret true)) := by
  rcases rangeL_find (s0 := ()) (body := body) (by omega) (fun k x => (xs.take k).any (fun y => decide (key x = key y))) (fun _ _ => true) hb with ⟨k, x, hx, hp, _, h⟩ | ⟨hp, h⟩
  · refine .inr ⟨fun hn => ?_, h⟩
    obtain ⟨y, hy, e⟩ := List.any_eq_true.1 hp
    have := (List.take_sublist (k + 1) xs).map key |>.nodup hn
    rw [List.take_add_one, hx, List.map_append, List.nodup_append] at this
    exact this.2.2 _ (List.mem_map_of_mem hy) (key x) (by simp) (of_decide_eq_true e).symm
  · refine .inl ⟨?_, h⟩
    rw [List.nodup_iff_pairwise_ne, List.pairwise_map, List.pairwise_iff_getElem]
    intro i j hi hj hij e
    have := hp j xs[j] (List.getElem?_eq_getElem hj)
    rw [List.any_eq_false] at this
    exact this xs[i] (List.mem_of_getElem? (i := i) (by rw [List.getElem?_take, if_pos hij, List.getElem?_eq_getElem hi])) (decide_eq_true e.symm)
theorem twiceIn {α : Type} {body : Int → Option (Step (Step Bool Unit) Int)} {xs : List α} {k : Nat} {x : α} (hl : xs.length ≤ 1000) (hk : k < xs.length) (key : α → Int)
    (hb : ∀ j : Nat, body (j : Int) = (bif decide ((j : Int) < (k : Int)) then (gix xs (j : Int)).bind fun y => (bif decide (key x = key y) then some (.ret (.ret true)) else some (.nxt (IntKind.i64.wrap ((j : Int) + 1)))) else some (.brk (j : Int)))) :
    (aft (loopF 1000000 body 0) fun _ => some (.nxt ())) = some (bif (xs.take k).any (fun y => decide (key x = key y)) then Step.ret true else .nxt ()) := by
  obtain ⟨o, h1, h2⟩ := loopF_rec (body := body) (fun s => k - s.toNat) (fun s => ∃ j : Nat, s = (j : Int) ∧ j ≤ k ∧ ∀ y ∈ xs.take j, key x ≠ key y)
    (fun r => r = .ret true ∧ ∃ y ∈ xs.take k, key x = key y) (fun s => ∀ y ∈ xs.take k, key x ≠ key y) (fun s ⟨j, hs, hj, hy⟩ => by
      subst hs
      rw [hb j]
      by_cases hjk : j < k
      · have hjl : j < xs.length := by omega
        rw [decide_eq_true (show ((j : Nat) : Int) < (k : Int) by omega), cond_true, gix_lt hjl, Option.bind_some]
        by_cases e : key x = key xs[j]
        · rw [decide_eq_true e]
          exact ⟨_, rfl, rfl, xs[j], List.mem_of_getElem? (i := j) (by rw [List.getElem?_take, if_pos hjk, List.getElem?_eq_getElem hjl]), e⟩
        · rw [decide_eq_false e, w64_succ (by omega) (by omega)]
          refine ⟨_, rfl, ⟨j + 1, by omega, by omega, fun y hy' => ?_⟩, by omega⟩
          rw [List.take_add_one, List.getElem?_eq_getElem hjl] at hy'
          rcases List.mem_append.1 hy' with hy' | hy'
          · exact hy y hy'
          · simp at hy'; subst hy'; exact e
      · obtain rfl : j = k := by omega
        rw [decide_eq_false (by omega)]
        exact ⟨_, rfl, hy⟩) 1000000 0 ⟨0, rfl, Nat.zero_le _, by simp⟩ (by omega)
  cases o with
  | ret r =>
    obtain ⟨rfl, y, hy, e⟩ := h2
    rw [h1, aft_some_ret, show (xs.take k).any (fun y => decide (key x = key y)) = true from List.any_eq_true.2 ⟨y, hy, decide_eq_true e⟩]; rfl
  | brk s => exact h2.elim
  | nxt s =>
    rw [h1, aft_some_nxt, show (xs.take k).any (fun y => decide (key x = key y)) = false from List.any_eq_false.2 fun y hy => by simpa using h2 y hy]; rfl
def Jv (G : Int → Int → Prop) (P : Nat → Nat → Prop) (n : Int) (d e : List Int) : Prop :=
  e.length = d.length ∧ ∀ (t : Nat) (v : Int), d[t]? = some v →
    ((v < 0 ∧ ∃ s : Nat, P s t ∧ d[s]? = some (n - 1) ∧ G s t) → e[t]? = some n) ∧ (¬ (v < 0 ∧ ∃ s : Nat, P s t ∧ d[s]? = some (n - 1) ∧ G s t) → e[t]? = some v)
theorem Jv.congr {G : Int → Int → Prop} {P P' : Nat → Nat → Prop} {n : Int} {d e : List Int} (hP : ∀ s t, t < d.length → (P s t ↔ P' s t)) (h : Jv G P n d e) : Jv G P' n d e := by
  refine ⟨h.1, fun t v hv => ?_⟩
  have hlt := (List.getElem?_eq_some_iff.1 hv).1
  have : (∃ s : Nat, P s t ∧ d[s]? = some (n - 1) ∧ G s t) ↔ (∃ s : Nat, P' s t ∧ d[s]? = some (n - 1) ∧ G s t) := exists_congr fun s => and_congr (hP s t hlt) Iff.rfl
  rw [← this]
  exact h.2 t v hv
theorem Jv.step {G : Int → Int → Prop} {P P' : Nat → Nat → Prop} {n : Int} {d e : List Int} (hn : 1 ≤ n) (h : Jv G P n d e) {s t : Nat} {x y : Int} (hx : e[s]? = some x) (hy : e[t]? = some y)
    (hP : ∀ s' t', P' s' t' ↔ P s' t' ∨ (s' = s ∧ t' = t)) :
    ((y < 0 ∧ x = n - 1 ∧ G s t) → Jv G P' n d (e.set t n)) ∧ (¬ (y < 0 ∧ x = n - 1 ∧ G s t) → Jv G P' n d e) := by
  have hsl := (List.getElem?_eq_some_iff.1 hx).1
  have htl := (List.getElem?_eq_some_iff.1 hy).1
  obtain ⟨p, hp⟩ : ∃ p, d[s]? = some p := ⟨_, List.getElem?_eq_getElem (by rw [← h.1]; exact hsl)⟩
  obtain ⟨q, hq⟩ : ∃ q, d[t]? = some q := ⟨_, List.getElem?_eq_getElem (by rw [← h.1]; exact htl)⟩
  have ex : x = n - 1 ↔ p = n - 1 := by
    by_cases c : (p < 0 ∧ ∃ s' : Nat, P s' s ∧ d[s']? = some (n - 1) ∧ G s' s)
    · have := (h.2 s p hp).1 c
      rw [hx] at this
      have := Option.some.inj this
      have := c.1
      omega
    · have := (h.2 s p hp).2 c
      rw [hx] at this
      rw [Option.some.inj this]
  constructor
  · rintro ⟨y0, x1, g⟩
    refine ⟨by rw [List.length_set, h.1], fun t' v hv => ?_⟩
    by_cases e' : t' = t
    · subst e'
      rw [hq] at hv
      obtain rfl := Option.some.inj hv
      have hc : ¬ (q < 0 ∧ ∃ s' : Nat, P s' t' ∧ d[s']? = some (n - 1) ∧ G s' t') := fun c => by
        have := (h.2 t' q hq).1 c
        rw [hy] at this
        have := Option.some.inj this
        omega
      have hyq : y = q := by
        have := (h.2 t' q hq).2 hc
        rw [hy] at this
        exact Option.some.inj this
      exact ⟨fun _ => List.getElem?_set_self htl, fun hn' => absurd ⟨by omega, s, (hP s t').2 (.inr ⟨rfl, rfl⟩), by rw [hp, ex.1 x1], g⟩ hn'⟩
    · have : (∃ s' : Nat, P' s' t' ∧ d[s']? = some (n - 1) ∧ G s' t') ↔ (∃ s' : Nat, P s' t' ∧ d[s']? = some (n - 1) ∧ G s' t') := exists_congr fun s' => and_congr ((hP s' t').trans ⟨fun k => k.resolve_right fun k => e' k.2, .inl⟩) Iff.rfl
      rw [this, List.getElem?_set_ne (Ne.symm e')]
      exact h.2 t' v hv
  · intro hno
    refine ⟨h.1, fun t' v hv => ?_⟩
    by_cases e' : t' = t
    · subst e'
      rw [hq] at hv
      obtain rfl := Option.some.inj hv
      by_cases c : (q < 0 ∧ ∃ s' : Nat, P s' t' ∧ d[s']? = some (n - 1) ∧ G s' t')
      · refine ⟨fun _ => (h.2 t' q hq).1 c, fun hn' => absurd ?_ hn'⟩
        obtain ⟨c0, s', c1, c2⟩ := c
        exact ⟨c0, s', (hP s' t').2 (.inl c1), c2⟩
      · have hyq : y = q := by
          have := (h.2 t' q hq).2 c
          rw [hy] at this
          exact Option.some.inj this
        refine ⟨?_, fun _ => (h.2 t' q hq).2 c⟩
        rintro ⟨q0, s', c1, c2, c3⟩
        rcases (hP s' t').1 c1 with h1 | ⟨rfl, _⟩
        · exact absurd ⟨q0, s', h1, c2, c3⟩ c
        · rw [hp] at c2
          exact absurd ⟨by omega, ex.2 (Option.some.inj c2), c3⟩ hno
    · have : (∃ s' : Nat, P' s' t' ∧ d[s']? = some (n - 1) ∧ G s' t') ↔ (∃ s' : Nat, P s' t' ∧ d[s']? = some (n - 1) ∧ G s' t') := exists_congr fun s' => and_congr ((hP s' t').trans ⟨fun k => k.resolve_right fun k => e' k.2, .inl⟩) Iff.rfl
      rw [this]
      exact h.2 t' v hv
def cpk (l : LanT) (o : List (List Bool)) (d : List Int) (k : Nat) : Int := match l.Plans[k]?, o[k]? with
  | some p, some q => bif (opn p q).any (fun s => decide (0 ≤ dv d s)) then (((opn p q).length : Nat) : Int) - 1 else 0
  | _, _ => 0
def tot (f : Nat → Int) : Nat → Int
  | 0 => 0
  | k + 1 => tot f k + f k
theorem cpk_bnd {l : LanT} {o : List (List Bool)} (hf : FewL l) (d : List Int) (k : Nat) : -1 ≤ cpk l o d k ∧ cpk l o d k ≤ 10 := by
  unfold cpk
  split
  · rename_i p q hp hq
    have h1 := hf.ports p (List.mem_of_getElem? hp)
    have h2 := opn_len p q
    cases (opn p q).any (fun s => decide (0 ≤ dv d s)) <;> simp <;> omega
  · omega
theorem tot_bnd {l : LanT} {o : List (List Bool)} (hf : FewL l) (d : List Int) (k : Nat) : -(k : Int) ≤ tot (cpk l o d) k ∧ tot (cpk l o d) k ≤ 10 * (k : Int) := by
  induction k with
  | zero => simp [tot]
  | succ k ih =>
    have := cpk_bnd (o := o) hf d k
    simp only [tot]
    omega
theorem Copies_eq {l : LanT} {o : List (List Bool)} (hf : FewL l) (h : LR l) (hs : Shp l o) {a : Int} (ha : 0 ≤ a ∧ a < l.Segs) : flood_Copies l o a = some (tot (cpk l o (stepsT l o a)) l.Plans.length, 0) := by
  have hseg := h.segs
  unfold flood_Copies
  obtain ⟨e1, e2⟩ := stepsT_eq hf h hs ha
  rw [fmay_eq l o [a] hf (by simp), if_pos ⟨h, hs⟩, if_pos (by simpa using ha), Option.bind_some, decide_eq_true rfl, Bool.not_true, cond_false, e1, Option.bind_some]
  obtain ⟨n, h1, h2⟩ := rangeL_inv (ρ := Int × Int) (body := flood_Copies_c0 l o (stepsT l o a)) (xs := l.Plans) (s0 := 0) (by have := hf.plans; omega) (fun k s => s = tot (cpk l o (stepsT l o a)) k) rfl (fun k p s hk hst => by
    have hkl := (List.getElem?_eq_some_iff.1 hk).1
    have hpn := hf.plans
    have hb := tot_bnd (o := o) hf (stepsT l o a) k
    have ho : o[k]? = some (o[k]'(by rw [hs.len]; exact hkl)) := List.getElem?_eq_getElem _
    have hpl := hf.ports p (List.mem_of_getElem? hk)
    unfold flood_Copies_c0
    rw [opens_eq l o hf hs hk ho, Option.bind_some]
    have hcp : cpk l o (stepsT l o a) k = bif (opn p (o[k]'(by rw [hs.len]; exact hkl))).any (fun s => decide (0 ≤ dv (stepsT l o a) s)) then (((opn p (o[k]'(by rw [hs.len]; exact hkl))).length : Nat) : Int) - 1 else 0 := by
      unfold cpk; rw [hk, ho]
    generalize o[k]'(by rw [hs.len]; exact hkl) = q at ho hcp
    have hol := opn_len p q
    have hc : slices_ContainsFunc_int (opn p q) (fun x => flood_Copies_1 x (stepsT l o a)) = some ((opn p q).any fun s => decide (0 ≤ dv (stepsT l o a) s)) :=
      (show slices_ContainsFunc_int (opn p q) (fun x => flood_Copies_1 x (stepsT l o a)) = conG (fun x => flood_Copies_1 x (stepsT l o a)) (opn p q) from rfl).trans (conG_eq (by omega) (fun x hx => by
        obtain ⟨m, y, hy, _, _, rfl⟩ := mem_opn.1 hx
        have hb := ((h.plan p (List.mem_of_getElem? hk)).2.2 y (List.mem_of_getElem? hy)).1
        unfold flood_Copies_1
        rw [gix_of hb.1 (dv_some (n := 0) hb.1 (by rw [e2.1]; omega)), Option.bind_some]))
    rw [hc, Option.bind_some]
    simp only [tot]
    rw [hcp]
    subst hst
    cases (opn p q).any fun s => decide (0 ≤ dv (stepsT l o a) s)
    · exact ⟨_, rfl, by simp⟩
    · refine ⟨_, rfl, ?_⟩
      rw [w64_in (x := ((opn p q).length : Int) - 1) (by omega) (by omega), w64_in (by omega) (by omega)]; rfl)
  rw [h1, h2]; rfl
def Ch (E : List (List Int)) (d : List Int) (N t c : Int) : Prop := (0 ≤ c ∧ c < N) ∧ Jn E t c ∧ dv d c = dv d t - 1 ∧ ∀ x, 0 ≤ x → x < c → ¬ (Jn E t x ∧ dv d x = dv d t - 1)
theorem Ch.uniq {E : List (List Int)} {d : List Int} {N t c e : Int} (h : Ch E d N t c) (k : Ch E d N t e) : c = e := by
  by_cases h1 : c < e
  · exact absurd ⟨h.2.1, h.2.2.1⟩ (k.2.2.2 c h.1.1 h1)
  · by_cases h2 : e < c
    · exact absurd ⟨k.2.1, k.2.2.1⟩ (h.2.2.2 e k.1.1 h2)
    · omega
structure CI (E : List (List Int)) (d : List Int) (N b : Int) (n : Nat) (out : List Int) (t : Int) (m : Nat) : Prop where
  le : m ≤ n
  len : out.length = n - m + 1
  bnd : 0 ≤ t ∧ t < N
  val : dv d t = (m : Int)
  first : out[0]? = some b
  last : out[n - m]? = some t
  steps : ∀ (k : Nat) (x y : Int), out[k]? = some x → out[k + 1]? = some y → Ch E d N x y
theorem CI.start {E : List (List Int)} {d : List Int} {N b : Int} {n : Nat} (hb : 0 ≤ b ∧ b < N) (h1 : dv d b = (n : Int)) : CI E d N b n [b] b n where
  le := Nat.le_refl _
  len := by simp
  bnd := hb
  val := h1
  first := rfl
  last := by simp
  steps k x y hk hk' := by simp at hk'
theorem CI.ext {E : List (List Int)} {d : List Int} {N b : Int} {n : Nat} {out : List Int} {t c : Int} {m : Nat} (h : CI E d N b n out t (m + 1)) (hc : Ch E d N t c) : CI E d N b n (out ++ [c]) c m := by
  have h1 := h.le
  have h2 := h.len
  refine ⟨by omega, by rw [List.length_append]; simp; omega, hc.1, by rw [hc.2.2.1, h.val]; omega, by rw [List.getElem?_append_left (by omega)]; exact h.first, ?_, fun k x y hk hk' => ?_⟩
  · rw [List.getElem?_append_right (by omega), show n - m - out.length = 0 by omega]; rfl
  · have hl := (List.getElem?_eq_some_iff.1 hk').1
    rw [List.length_append, List.length_singleton] at hl
    rw [List.getElem?_append_left (by omega)] at hk
    by_cases e : k + 1 < out.length
    · rw [List.getElem?_append_left e] at hk'
      exact h.steps k x y hk hk'
    · rw [List.getElem?_append_right (by omega), show k + 1 - out.length = 0 by omega] at hk'
      have hy : c = y := Option.some.inj hk'
      have := h.last
      rw [show n - (m + 1) = k by omega, hk] at this
      rw [Option.some.inj this, ← hy]
      exact hc
theorem CI.uniq {E : List (List Int)} {d : List Int} {N b : Int} {n : Nat} {u w : List Int} {t s : Int} (h : CI E d N b n u t 0) (k : CI E d N b n w s 0) : u = w := by
  have h1 := h.len
  have k1 := k.len
  have : ∀ i, i < n + 1 → u[i]? = w[i]? := fun i => by
    induction i with
    | zero => intro _; rw [h.first, k.first]
    | succ i ih =>
      intro hi
      have hx : u[i]? = some (u[i]'(by omega)) := List.getElem?_eq_getElem _
      have hy : u[i + 1]? = some (u[i + 1]'(by omega)) := List.getElem?_eq_getElem _
      have hz : w[i + 1]? = some (w[i + 1]'(by omega)) := List.getElem?_eq_getElem _
      have hx' := hx
      rw [ih (by omega)] at hx'
      rw [hy, hz, (h.steps i _ _ hx hy).uniq (k.steps i _ _ hx' hz)]
  refine List.ext_getElem? fun i => ?_
  by_cases hi : i < n + 1
  · exact this i hi
  · rw [List.getElem?_eq_none (by omega), List.getElem?_eq_none (by omega)]
theorem CI.zero {E : List (List Int)} {d : List Int} {N : Nat} {a b : Int} {n : Nat} {u : List Int} {t : Int} {m : Nat} (h : CI E d N b n u t m) (hd : DT (Jn E) a N d) : t = a ↔ m = 0 := by
  have hb := h.bnd
  have hv := h.val
  have hD : Dist (Jn E) a m t := by
    rcases dt_dv hd hb.1 hb.2 with ⟨g1, _⟩ | ⟨q, g1, g2⟩
    · omega
    · have : q = m := by omega
      subst this; exact g2
  constructor
  · intro e
    have := hD.uniq (show Dist (Jn E) a 0 t by rw [e]; exact Dist.zero)
    omega
  · rintro rfl
    exact Dist.zero_iff.1 hD
open Classical in
theorem Copies_may (l : LanT) (o : List (List Bool)) (a : Int) (hf : FewL l) (h : ¬ ((LR l ∧ Shp l o) ∧ (0 ≤ a ∧ a < l.Segs))) : flood_Copies l o a = some (0, if LR l ∧ Shp l o then 3 else 1) := by
  unfold flood_Copies
  rw [fmay_eq l o [a] hf (by simp), Option.bind_some]
  by_cases h1 : LR l ∧ Shp l o
  · rw [if_pos h1, if_pos h1, if_neg (by simp; intro h2; exact Int.not_lt.1 fun h3 => h ⟨h1, h2, h3⟩)]; rfl
  · rw [if_neg h1, if_neg h1]; rfl
end
section
set_option maxHeartbeats 1000000
def VR (v : VecT) : Prop := (0 ≤ v.Root ∧ v.Root ≤ 65535) ∧ (0 ≤ v.Bridge ∧ v.Bridge ≤ 65535) ∧ (0 ≤ v.Cost ∧ v.Cost ≤ 2147483647) ∧ 0 ≤ v.Port ∧ v.Port ≤ 7
def vlt (a b : VecT) : Prop := a.Root < b.Root ∨ (a.Root = b.Root ∧ (a.Cost < b.Cost ∨ (a.Cost = b.Cost ∧ (a.Bridge < b.Bridge ∨ (a.Bridge = b.Bridge ∧ a.Port < b.Port)))))
instance (a b : VecT) : Decidable (vlt a b) := by unfold vlt; infer_instance
theorem vlt.trans {a b c : VecT} (h : vlt a b) (k : vlt b c) : vlt a c := by unfold vlt at *; omega
theorem vlt.irr {a : VecT} : ¬ vlt a a := by unfold vlt; omega
theorem vlt.le_trans {a b c : VecT} (h : ¬ vlt b a) (k : vlt b c ∨ ¬ vlt c b) : ¬ vlt c a := by unfold vlt at *; omega
theorem vlt.tri {a b : VecT} (h : ¬ vlt a b) (k : ¬ (a.Bridge = b.Bridge ∧ a.Port = b.Port)) : vlt b a := by unfold vlt at *; omega
theorem vin_eq (a n : Int) : vec_in a n = some (decide (0 ≤ a ∧ a ≤ n)) := by
  unfold vec_in
  by_cases h : 0 ≤ a <;> simp [h]
theorem gd_bool (g : Bool) (b : Bool) : gd g (some b) = some (bif g then b else false) := by cases g <;> rfl
theorem vRight_true {v : VecT} (h : VR v) : vec_Right v = some true := by
  unfold vec_Right
  simp only [vin_eq, Option.bind_some, gd_bool, decide_eq_true h.1, decide_eq_true h.2.1, decide_eq_true h.2.2.1, decide_eq_true h.2.2.2, cond_true]
theorem Or4 (a b c d : Int) : cmp_Or_int [a, b, c, d] = some (if a ≠ 0 then a else if b ≠ 0 then b else if c ≠ 0 then c else if d ≠ 0 then d else 0) := by
  unfold cmp_Or_int rangeL
  simp only [List.length_cons, List.length_nil]
  rw [if_pos (by decide)]
  have st : ∀ (k : Nat) (x : Int) (t : List Int), forR cmp_Or_int_c0 (x :: t) k () = if x ≠ 0 then some (.ret x) else forR cmp_Or_int_c0 t (k + 1) () := fun k x t => by
    simp only [forR, cmp_Or_int_c0]
    by_cases h : x = 0
    · simp [h]
    · simp [h]
  rw [st, st, st, st]
  by_cases h1 : a = 0
  · by_cases h2 : b = 0
    · by_cases h3 : c = 0
      · by_cases h4 : d = 0
        · simp [h1, h2, h3, h4, forR]
        · simp [h1, h2, h3, h4]
      · simp [h1, h2, h3]
    · simp [h1, h2]
  · simp [h1]
theorem ahead_eq {a b : VecT} (ha : VR a) (hb : VR b) : vec_ahead_vec_oneT ⟨a⟩ ⟨b⟩ = some (decide (vlt a b)) := by
  obtain ⟨a1, a2, a3, a4⟩ := ha
  obtain ⟨b1, b2, b3, b4⟩ := hb
  have w : ∀ x y : Int, 0 ≤ x → x ≤ 2147483647 → 0 ≤ y → y ≤ 2147483647 → IntKind.i64.wrap (x - y) = x - y := fun x y h1 h2 h3 h4 => w64_in (by omega) (by omega)
  unfold vec_ahead_vec_oneT _vec_one_rank
  dsimp only
  rw [w _ _ a1.1 (by omega) b1.1 (by omega), w _ _ a3.1 (by omega) b3.1 (by omega), w _ _ a2.1 (by omega) b2.1 (by omega), w _ _ a4.1 (by omega) b4.1 (by omega), Or4]
  by_cases h : a.Root = b.Root ∧ a.Cost = b.Cost ∧ a.Bridge = b.Bridge ∧ a.Port = b.Port
  · obtain ⟨h1, h2, h3, h4⟩ := h
    rw [decide_eq_true h1, decide_eq_true h2, decide_eq_true h3, decide_eq_true h4]
    simp only [Bool.and_true, cond_true, Option.bind_some]
    congr 1
    exact decide_eq_decide.2 (by unfold vlt; omega)
  · have : (((decide (a.Root = b.Root)) && ((decide (a.Cost = b.Cost)) && ((decide (a.Bridge = b.Bridge)) && ((decide (a.Port = b.Port)) && true)))) && true) = false := by
      rw [Bool.eq_false_iff]
      intro e
      simp only [Bool.and_eq_true, decide_eq_true_eq, and_true] at e
      exact h e
    rw [this, cond_false, Option.bind_some, Option.bind_some]
    congr 1
    refine decide_eq_decide.2 ?_
    unfold vlt
    split
    · omega
    · split
      · omega
      · split
        · omega
        · split <;> omega
theorem vBest_eq {l : List VecT} (hl : l.length ≤ 1000) (hr : ∀ v ∈ l, VR v) (h0 : l ≠ []) : ∃ (i : Nat) (v : VecT), vec_Best l = some ((i : Int), 0) ∧ l[i]? = some v ∧ (∀ w ∈ l, ¬ vlt w v) ∧ ∀ j w, j < i → l[j]? = some w → vlt v w := by
  have hall : vec_allRight l = some true := by
    unfold vec_allRight slices_ContainsFunc_Vec slices_IndexFunc_Vec
    rcases rangeL_find (s0 := ()) (body := slices_IndexFunc_Vec_c0 fun x0_ => vec_allRight_1 x0_) (xs := l) (by omega) (fun _ _ => false) (fun k _ => (k : Int)) (fun k x hx => by
      unfold slices_IndexFunc_Vec_c0 vec_allRight_1
      dsimp only
      rw [vRight_true (hr x (List.mem_of_getElem? hx))]; rfl) with ⟨k, x, _, hp, _⟩ | ⟨_, h⟩
    · cases hp
    · rw [h]; rfl
  have hn : 0 < l.length := List.length_pos_iff.2 h0
  obtain ⟨s, h1, h2⟩ := rangeL_inv (s0 := (0 : Int)) (body := vec_Best_c0 l) (xs := l) (by omega)
    (fun k s => ∃ (i : Nat) (v : VecT), s = (i : Int) ∧ l[i]? = some v ∧ (∀ j w, j < k → l[j]? = some w → ¬ vlt w v) ∧ ∀ j w, j < i → l[j]? = some w → vlt v w)
    ⟨0, l[0], rfl, List.getElem?_eq_getElem hn, fun j w hj => absurd hj (Nat.not_lt_zero _), fun j w hj => absurd hj (Nat.not_lt_zero _)⟩ fun k x s hk ⟨i, v, e, hv, q1, q2⟩ => by
    subst e
    unfold vec_Best_c0
    rw [gix_nat, hv, Option.bind_some, ahead_eq (hr x (List.mem_of_getElem? hk)) (hr v (List.mem_of_getElem? hv)), Option.bind_some]
    by_cases hc : vlt x v
    · rw [decide_eq_true hc]
      refine ⟨_, rfl, k, x, rfl, hk, fun j w hj hw => ?_, fun j w hj hw => ?_⟩
      · by_cases hjk : j = k
        · subst hjk; rw [hk] at hw; cases hw; exact vlt.irr
        · have := q1 j w (by omega) hw
          intro e; exact this (e.trans hc)
      · have := q1 j w hj hw
        unfold vlt at *; omega
    · rw [decide_eq_false hc]
      refine ⟨_, rfl, i, v, rfl, hv, fun j w hj hw => ?_, q2⟩
      by_cases hjk : j = k
      · subst hjk; rw [hk] at hw; cases hw; exact hc
      · exact q1 j w (by omega) hw
  obtain ⟨i, v, e, hv, q1, q2⟩ := h2
  refine ⟨i, v, ?_, hv, fun w hw => ?_, q2⟩
  · unfold vec_Best
    rw [hall, Option.bind_some, Bool.not_true, cond_false, decide_eq_false (show ¬ ((l.length : Nat) : Int) = 0 by omega), cond_false, h1, aft_some_nxt, e]
  · obtain ⟨j, hj⟩ := List.mem_iff_getElem?.1 hw
    exact q1 j w (List.getElem?_eq_some_iff.1 hj).1 hj
theorem vBest_nil : vec_Best [] = some (0, 4) := rfl
def tol (l : LanT) (q : A2_Int) : VecT := ⟨(bw l q.c0.toNat).1, (bw l q.c0.toNat).2, IDn l q.c0.toNat, q.c1⟩
theorem told_eq {l : LanT} (hf : FewL l) (h : LR l) {b : Nat} (hb : b < l.Plans.length) (k : Int) : tree_told l (bst l) ⟨(b : Int), k⟩ = some (tol l ⟨(b : Int), k⟩) := by
  unfold tree_told tol IDn
  dsimp only
  rw [gix_nat, bst_get hf h hb, Option.bind_some, gix_nat, List.getElem?_eq_getElem hb, Option.bind_some, Int.toNat_natCast, List.getElem?_eq_getElem hb]; rfl
theorem IDn_bnd {l : LanT} (h : LR l) {b : Nat} (hb : b < l.Plans.length) : 0 ≤ IDn l b ∧ IDn l b ≤ 65535 := by
  unfold IDn; rw [List.getElem?_eq_getElem hb]; exact (h.planOk (List.getElem?_eq_getElem hb)).1
theorem IDn_inj {l : LanT} (h : LR l) {b c : Nat} (hb : b < l.Plans.length) (hc : c < l.Plans.length) (e : IDn l b = IDn l c) : b = c := by
  unfold IDn at e
  rw [List.getElem?_eq_getElem hb, List.getElem?_eq_getElem hc] at e
  have hb' : b < (l.Plans.map (·.ID)).length := by rw [List.length_map]; exact hb
  have hc' : c < (l.Plans.map (·.ID)).length := by rw [List.length_map]; exact hc
  exact (List.getElem_inj (h₀ := hb') (h₁ := hc') h.ids).1 (by rw [List.getElem_map, List.getElem_map]; exact e)
theorem PWroot {l : LanT} {j b : Nat} {w : Wt} (hw : PW (IDn l) (Ed l) j b w) (hb : b < l.Plans.length) (h : LR l) : ∃ r, r < l.Plans.length ∧ w.1 = IDn l r := by
  induction hw with
  | base j b => exact ⟨b, hb, rfl⟩
  | step hp e ih => exact ih (e.rng h).1.1
theorem bw_rootId {l : LanT} (hf : FewL l) (h : LR l) {b : Nat} (hb : b < l.Plans.length) : ∃ r, r < l.Plans.length ∧ (bw l b).1 = IDn l r := PWroot ((bst_eq hf h).2.2 b hb).1 hb h
theorem tol_VR {l : LanT} (hf : FewL l) (h : LR l) {b k : Nat} (hb : b < l.Plans.length) (hk : k ≤ 7) : VR (tol l ⟨(b : Int), (k : Int)⟩) := by
  obtain ⟨r, hr, e⟩ := bw_rootId hf h hb
  have h1 := IDn_bnd h hr
  have h2 := IDn_bnd h hb
  have h3 := bw_bnd hf h hb
  unfold VR tol; dsimp only; rw [Int.toNat_natCast]; omega
theorem on_ok {l : LanT} (h : LR l) {s : Int} {q : A2_Int} (hq : q ∈ portsOn l s) : ∃ (b k : Nat) (p : PlanT) (x : LinkT), q = ⟨(b : Int), (k : Int)⟩ ∧ b < l.Plans.length ∧ k ≤ 7 ∧ l.Plans[b]? = some p ∧ p.Ports[k]? = some x ∧ x.Up = true ∧ x.Seg = s := by
  obtain ⟨b, k, p, x, rfl, hp, hx, h1, h2⟩ := mem_portsOn.1 hq
  have := (h.planOk hp).2.1
  have hk := (List.getElem?_eq_some_iff.1 hx).1
  exact ⟨b, k, p, x, rfl, (List.getElem?_eq_some_iff.1 hp).1, by omega, hp, hx, h1, h2⟩
def ownS (l : LanT) (s : Int) : Option A2_Int := match tree_own l (bst l) s with
  | some (q, true) => some q
  | _ => none
theorem own_ex {l : LanT} (hf : FewL l) (h : LR l) {s : Int} (hs : 0 ≤ s ∧ s < l.Segs) :
    (portsOn l s = [] ∧ tree_own l (bst l) s = some (⟨0, 0⟩, false)) ∨ ∃ q, q ∈ portsOn l s ∧ tree_own l (bst l) s = some (q, true) ∧ ∀ p ∈ portsOn l s, ¬ vlt (tol l p) (tol l q) := by
  have hn := portsOn_len hf s
  unfold tree_own
  rw [On_eq l hf, if_pos h, if_pos hs, Option.bind_some]
  dsimp only
  rw [rangeL_map (f := tol l) (by omega) (fun k q t hq hk => by
    obtain ⟨b, j, p, x, rfl, hb, _⟩ := on_ok h (List.mem_of_getElem? hq)
    have hlt := (List.getElem?_eq_some_iff.1 hq).1
    unfold tree_own_c0
    rw [told_eq hf h hb, Option.bind_some, grd_true (fits_of (by simp; omega) (by decide))]), aft_some_nxt]
  by_cases h0 : portsOn l s = []
  · rw [h0]; exact .inl ⟨rfl, rfl⟩
  · obtain ⟨i, v, e1, e2, e3, _⟩ := vBest_eq (l := (portsOn l s).map (tol l)) (by rw [List.length_map]; omega) (fun v hv => by
      obtain ⟨q, hq, rfl⟩ := List.mem_map.1 hv
      obtain ⟨b, j, p, x, rfl, hb, hj, _⟩ := on_ok h hq
      exact tol_VR hf h hb hj) (by simpa using h0)
    rw [e1, Option.bind_some]
    rw [List.getElem?_map] at e2
    obtain ⟨q, hq, rfl⟩ := Option.map_eq_some_iff.1 e2
    refine .inr ⟨q, List.mem_of_getElem? hq, ?_, fun p hp => e3 _ (List.mem_map_of_mem hp)⟩
    dsimp only
    rw [decide_eq_true rfl, Bool.not_true, cond_false, gix_nat, hq]; rfl
theorem tol_inj {l : LanT} (h : LR l) {s s' : Int} {p q : A2_Int} (hp : p ∈ portsOn l s) (hq : q ∈ portsOn l s') (e : (tol l p).Bridge = (tol l q).Bridge ∧ (tol l p).Port = (tol l q).Port) : p = q := by
  obtain ⟨b, j, _, _, rfl, hb, _⟩ := on_ok h hp
  obtain ⟨c, k, _, _, rfl, hc, _⟩ := on_ok h hq
  have e1 : IDn l b = IDn l c := by have := e.1; unfold tol at this; dsimp only at this; rwa [Int.toNat_natCast, Int.toNat_natCast] at this
  have e2 : (j : Int) = (k : Int) := e.2
  rw [IDn_inj h hb hc e1, e2]
theorem own_eq {l : LanT} (hf : FewL l) (h : LR l) {s : Int} (hs : 0 ≤ s ∧ s < l.Segs) : tree_own l (bst l) s = some ((ownS l s).getD ⟨0, 0⟩, (ownS l s).isSome) := by
  unfold ownS
  rcases own_ex hf h hs with ⟨_, e⟩ | ⟨q, _, e, _⟩ <;> rw [e] <;> rfl
theorem own_none {l : LanT} (hf : FewL l) (h : LR l) {s : Int} (hs : 0 ≤ s ∧ s < l.Segs) : ownS l s = none ↔ portsOn l s = [] := by
  unfold ownS
  rcases own_ex hf h hs with ⟨e0, e⟩ | ⟨q, hq, e, _⟩ <;> rw [e]
  · exact ⟨fun _ => e0, fun _ => rfl⟩
  · exact ⟨(fun k => nomatch k), fun k => by rw [k] at hq; cases hq⟩
theorem own_some {l : LanT} (hf : FewL l) (h : LR l) {s : Int} (hs : 0 ≤ s ∧ s < l.Segs) {q : A2_Int} (hq : ownS l s = some q) : q ∈ portsOn l s ∧ ∀ p ∈ portsOn l s, p = q ∨ vlt (tol l q) (tol l p) := by
  unfold ownS at hq
  rcases own_ex hf h hs with ⟨e0, e⟩ | ⟨q', hq', e, e2⟩ <;> rw [e] at hq
  · cases hq
  · cases hq
    refine ⟨hq', fun p hp => ?_⟩
    by_cases he : p = q
    · exact .inl he
    · exact .inr (vlt.tri (e2 p hp) fun k => he (tol_inj h hp hq' k))
theorem own_up {l : LanT} (hf : FewL l) (h : LR l) {b k : Nat} {p : PlanT} {x : LinkT} (hp : l.Plans[b]? = some p) (hx : p.Ports[k]? = some x) (hu : x.Up = true) : ∃ q, ownS l x.Seg = some q := by
  have hs := ((h.planOk hp).2.2 x (List.mem_of_getElem? hx)).1
  cases hq : ownS l x.Seg with
  | some q => exact ⟨q, rfl⟩
  | none =>
    have := (own_none hf h hs).1 hq
    have hm : (⟨(b : Int), (k : Int)⟩ : A2_Int) ∈ portsOn l x.Seg := mem_portsOn.2 ⟨b, k, p, x, rfl, hp, hx, hu, rfl⟩
    rw [this] at hm; cases hm
def cnd (l : LanT) (b : Nat) (x : LinkT) : Option VecT := match ownS l x.Seg with
  | some q => if x.Up = true ∧ q.c0 ≠ (b : Int) ∧ (tol l q).Root = (bw l b).1 ∧ (tol l q).Cost + x.Cost = (bw l b).2 then some ⟨(tol l q).Root, (tol l q).Cost + x.Cost, (tol l q).Bridge, (tol l q).Port⟩ else none
  | none => none
def cnds (l : LanT) (b : Nat) (xs : List LinkT) : List (Int × VecT) := xs.zipIdx.filterMap fun x => (cnd l b x.1).map fun v => ((x.2 : Int), v)
def rt (l : LanT) (b : Nat) : Int := (tree_root l (bst l) (b : Int)).getD (-1)
theorem cnds_len {l : LanT} {b : Nat} {xs : List LinkT} : (cnds l b xs).length ≤ xs.length := by
  unfold cnds
  refine Nat.le_trans (List.length_filterMap_le _ _) ?_
  rw [List.length_zipIdx]; exact Nat.le_refl _
theorem mem_cnds {l : LanT} {b : Nat} {xs : List LinkT} {k : Int} {v : VecT} : (k, v) ∈ cnds l b xs ↔ ∃ (j : Nat) (x : LinkT), k = (j : Int) ∧ xs[j]? = some x ∧ cnd l b x = some v := by
  unfold cnds
  simp only [List.mem_filterMap, Prod.exists, List.mem_zipIdx_iff_getElem?, Option.map_eq_some_iff, Prod.mk.injEq]
  constructor
  · rintro ⟨x, j, hx, w, hw, rfl, rfl⟩; exact ⟨j, x, rfl, hx, hw⟩
  · rintro ⟨j, x, rfl, hx, hw⟩; exact ⟨x, j, hx, v, hw, rfl, rfl⟩
theorem cnd_VR {l : LanT} (hf : FewL l) (h : LR l) {b : Nat} (hb : b < l.Plans.length) {x : LinkT} (hs : 0 ≤ x.Seg ∧ x.Seg < l.Segs) {v : VecT} (hv : cnd l b x = some v) : VR v := by
  unfold cnd at hv
  split at hv
  · rename_i q hq
    split at hv
    · rename_i hc
      cases hv
      obtain ⟨c, k, _, _, rfl, hc', hk, _⟩ := on_ok h (own_some hf h hs hq).1
      have h1 := tol_VR hf h hc' hk
      have h2 := bw_bnd hf h hb
      unfold VR at *; dsimp only; omega
    · cases hv
  · cases hv
theorem root_ex {l : LanT} (hf : FewL l) (h : LR l) {b : Nat} {p : PlanT} (hp : l.Plans[b]? = some p) :
    ((bw l b).1 = IDn l b ∧ tree_root l (bst l) (b : Int) = some (-1)) ∨ ((bw l b).1 ≠ IDn l b ∧
      ((cnds l b p.Ports = [] ∧ tree_root l (bst l) (b : Int) = some (-1)) ∨ ∃ (i : Nat) (k : Int) (v : VecT), (cnds l b p.Ports)[i]? = some (k, v) ∧ tree_root l (bst l) (b : Int) = some k ∧
        (∀ e ∈ cnds l b p.Ports, ¬ vlt e.2 v) ∧ ∀ j e, j < i → (cnds l b p.Ports)[j]? = some e → vlt v e.2)) := by
  have hb := (List.getElem?_eq_some_iff.1 hp).1
  have hpl := hf.ports p (List.mem_of_getElem? hp)
  unfold tree_root
  rw [gix_nat, bst_get hf h hb, Option.bind_some, gix_nat, hp, Option.bind_some]
  dsimp only
  rw [IDn_of hp]
  by_cases h0 : (bw l b).1 = p.ID
  · rw [decide_eq_true h0]; exact .inl ⟨h0, rfl⟩
  · rw [decide_eq_false h0, cond_false]
    refine .inr ⟨h0, ?_⟩
    obtain ⟨s, h1, h2⟩ := rangeL_inv (s0 := (([] : List Int), ([] : List VecT))) (body := tree_root_c0 l (bst l) (b : Int)) (xs := p.Ports) (by omega)
      (fun k s => s = ((cnds l b (p.Ports.take k)).map (·.1), (cnds l b (p.Ports.take k)).map (·.2))) rfl fun k x s hk hs => by
      subst hs
      have hlt := (List.getElem?_eq_some_iff.1 hk).1
      have hx := List.mem_of_getElem? hk
      have hok := (h.planOk hp).2.2 x hx
      have hxc := hok.2
      have hstep : cnds l b (p.Ports.take (k + 1)) = cnds l b (p.Ports.take k) ++ ((cnd l b x).map fun v => ((k : Int), v)).toList := by
        unfold cnds
        rw [List.take_add_one, hk, Option.toList, List.zipIdx_append, List.filterMap_append, List.length_take, Nat.min_eq_left (by omega)]
        congr 1
        simp only [List.zipIdx_cons, List.zipIdx_nil, List.filterMap_cons, List.filterMap_nil, Nat.zero_add]
        cases cnd l b x <;> rfl
      have hcl : (cnds l b (p.Ports.take k)).length ≤ 10 := Nat.le_trans cnds_len (by rw [List.length_take]; omega)
      rw [hstep]
      unfold tree_root_c0
      rw [own_eq hf h hok.1, Option.bind_some]
      dsimp only
      unfold cnd
      cases hq : ownS l x.Seg with
      | none =>
        refine ⟨((cnds l b (p.Ports.take k)).map (·.1), (cnds l b (p.Ports.take k)).map (·.2)), by cases x.Up <;> rfl, ?_⟩
        simp
      | some q =>
        obtain ⟨c, j, _, _, rfl, hc', hj, _⟩ := on_ok h (own_some hf h hok.1 hq).1
        have hv := tol_VR hf h hc' hj
        have hcb := bw_bnd hf h hc'
        simp only [Option.getD_some, Option.isSome_some, Bool.not_true]
        by_cases hu : x.Up = true
        · by_cases hcb' : (c : Int) = (b : Int)
          · rw [hu, decide_eq_true hcb']
            refine ⟨_, rfl, ?_⟩
            simp [hcb']
          · rw [hu, decide_eq_false hcb']
            simp only [Bool.not_true, Bool.cond_false]
            rw [told_eq hf h hc', Option.bind_some]
            have hfar : vec_Far (tol l ⟨(c : Int), (j : Int)⟩) x.Cost = some (⟨(tol l ⟨(c : Int), (j : Int)⟩).Root, (tol l ⟨(c : Int), (j : Int)⟩).Cost + x.Cost, (tol l ⟨(c : Int), (j : Int)⟩).Bridge, (tol l ⟨(c : Int), (j : Int)⟩).Port⟩, 0) := by
              unfold vec_Far
              rw [vRight_true hv, Option.bind_some, vin_eq]
              have hco : (tol l ⟨(c : Int), (j : Int)⟩).Cost = (bw l c).2 := by unfold tol; dsimp only; rw [Int.toNat_natCast]
              rw [decide_eq_true (show 0 ≤ x.Cost ∧ x.Cost ≤ 2147483647 by omega), hco, wr_in (by omega) (by omega)]
              have : mn ((bw l c).2 + x.Cost) 2147483647 = (bw l c).2 + x.Cost := by unfold mn; split <;> omega
              rw [this]; rfl
            rw [hfar, Option.bind_some, gix_nat, bst_get hf h hb, Option.bind_some]
            dsimp only
            by_cases hg : (tol l ⟨(c : Int), (j : Int)⟩).Root = (bw l b).1 ∧ (tol l ⟨(c : Int), (j : Int)⟩).Cost + x.Cost = (bw l b).2
            · rw [decide_eq_true hg.1, decide_eq_true hg.2, if_pos ⟨trivial, hcb', hg⟩]
              simp only [Bool.and_true, cond_true]
              rw [grd_true (fits_of (by simp; omega) (by decide)), grd_true (fits_of (by simp; omega) (by decide))]
              refine ⟨_, rfl, ?_⟩
              simp
            · rw [if_neg fun k => hg k.2.2]
              have : (decide ((tol l ⟨(c : Int), (j : Int)⟩).Root = (bw l b).1) && (decide ((tol l ⟨(c : Int), (j : Int)⟩).Cost + x.Cost = (bw l b).2) && true)) = false := by
                rw [Bool.eq_false_iff]; intro e; simp only [Bool.and_eq_true, decide_eq_true_eq, and_true] at e; exact hg e
              rw [this]
              refine ⟨_, rfl, ?_⟩
              simp
        · have hu' : x.Up = false := Bool.eq_false_iff.2 hu
          rw [hu', if_neg fun k => by cases k.1]
          refine ⟨_, rfl, ?_⟩
          simp
    rw [h1, aft_some_nxt, h2, List.take_length]
    dsimp only
    by_cases hn : cnds l b p.Ports = []
    · rw [hn]; exact .inl ⟨rfl, rfl⟩
    · have hcl : (cnds l b p.Ports).length ≤ 10 := Nat.le_trans cnds_len hpl
      obtain ⟨i, v, e1, e2, e3, e4⟩ := vBest_eq (l := (cnds l b p.Ports).map (·.2)) (by rw [List.length_map]; omega) (fun v hv => by
        obtain ⟨⟨k, v⟩, hkv, rfl⟩ := List.mem_map.1 hv
        obtain ⟨j, x, rfl, hx, hc⟩ := mem_cnds.1 hkv
        exact cnd_VR hf h hb ((h.planOk hp).2.2 x (List.mem_of_getElem? hx)).1 hc) (by simpa using hn)
      rw [e1, Option.bind_some]
      rw [List.getElem?_map] at e2
      obtain ⟨⟨k, v'⟩, hkv, rfl⟩ := Option.map_eq_some_iff.1 e2
      have hi := (List.getElem?_eq_some_iff.1 hkv).1
      refine .inr ⟨i, k, v', hkv, ?_, fun e he => e3 _ (List.mem_map_of_mem he), fun j e hj he => e4 j _ hj (by rw [List.getElem?_map, he]; rfl)⟩
      dsimp only
      rw [decide_eq_true rfl, Bool.not_true, cond_false, grd_true ⟨by omega, by rw [List.length_map]; omega⟩, Int.toNat_natCast]
      have : gixN ((cnds l b p.Ports).map (·.1)) i = some k := by show ((cnds l b p.Ports).map (·.1))[i]? = _; rw [List.getElem?_map, hkv]; rfl
      rw [this]; rfl
theorem cnds_ne {l : LanT} (hf : FewL l) (h : LR l) {b : Nat} {p : PlanT} (hp : l.Plans[b]? = some p) (h0 : (bw l b).1 ≠ IDn l b) : cnds l b p.Ports ≠ [] := by
  have hb := (List.getElem?_eq_some_iff.1 hp).1
  rcases bw_src hf h hb with e | ⟨k, c, he, e⟩
  · rw [e] at h0; exact absurd rfl h0
  · obtain ⟨d, hd⟩ := he.back
    have hkl := (he.rng h).1.1
    obtain ⟨hne, q, p', y, x, hq, hp', hy, hx, y1, x1, hs, rfl⟩ := he
    rw [hp] at hp'; cases hp'
    obtain ⟨j, hj⟩ := List.mem_iff_getElem?.1 hx
    obtain ⟨i, hi⟩ := List.mem_iff_getElem?.1 hy
    have hok := (h.planOk hp).2.2 x hx
    have hxc := hok.2
    obtain ⟨o, ho⟩ := own_up hf h hp hj x1
    obtain ⟨o1, o2⟩ := own_some hf h hok.1 ho
    obtain ⟨c, m, pc, xc, rfl, hc, hm, hpc, hxc, xc1, xc2⟩ := on_ok h o1
    have hkon : (⟨(k : Int), (i : Int)⟩ : A2_Int) ∈ portsOn l x.Seg := mem_portsOn.2 ⟨k, i, q, y, rfl, hq, hi, y1, hs⟩
    have hle : wle (bw l c) (bw l k) := by
      rcases o2 _ hkon with e' | e'
      · have : (k : Int) = (c : Int) := congrArg A2_Int.c0 e'
        have : k = c := by omega
        rw [this]; exact wle.refl _
      · unfold vlt tol at e'; dsimp only at e'; rw [Int.toNat_natCast, Int.toNat_natCast] at e'
        unfold wle; omega
    have hbc : c ≠ b := fun q' => by
      subst q'
      rw [e] at hle; unfold wle wad at hle; dsimp only at hle
      omega
    have hEd : Ed l c b x.Cost := ⟨hbc, pc, p, xc, x, hpc, hp, List.mem_of_getElem? hxc, hx, xc1, x1, xc2, rfl⟩
    have h3 := bw_edge hf h hEd
    have h4 := hle.add x.Cost
    rw [← e] at h4
    have h5 := wle.anti h3 h4
    have hcnd : cnd l b x = some ⟨(tol l ⟨(c : Int), (m : Int)⟩).Root, (tol l ⟨(c : Int), (m : Int)⟩).Cost + x.Cost, (tol l ⟨(c : Int), (m : Int)⟩).Bridge, (tol l ⟨(c : Int), (m : Int)⟩).Port⟩ := by
      unfold cnd
      rw [ho]
      dsimp only
      rw [if_pos]
      refine ⟨x1, by omega, ?_, ?_⟩
      · unfold tol; dsimp only; rw [Int.toNat_natCast, h5]; rfl
      · unfold tol; dsimp only; rw [Int.toNat_natCast, h5]; rfl
    intro hnil
    have := (mem_cnds (l := l) (b := b) (xs := p.Ports)).2 ⟨j, x, rfl, hj, hcnd⟩
    rw [hnil] at this; cases this
theorem rt_eq {l : LanT} (hf : FewL l) (h : LR l) {b : Nat} {p : PlanT} (hp : l.Plans[b]? = some p) : tree_root l (bst l) (b : Int) = some (rt l b) ∧
    (((bw l b).1 = IDn l b ∧ rt l b = -1) ∨ ((bw l b).1 ≠ IDn l b ∧ ∃ (j : Nat) (x : LinkT) (q : A2_Int), rt l b = (j : Int) ∧ p.Ports[j]? = some x ∧ x.Up = true ∧ ownS l x.Seg = some q ∧ q.c0 ≠ (b : Int) ∧ (tol l q).Root = (bw l b).1 ∧ (tol l q).Cost + x.Cost = (bw l b).2)) := by
  unfold rt
  rcases root_ex hf h hp with ⟨e0, e⟩ | ⟨e0, ⟨e1, e⟩ | ⟨i, k, v, hk, e, _⟩⟩
  · rw [e]; exact ⟨rfl, .inl ⟨e0, rfl⟩⟩
  · exact absurd e1 (cnds_ne hf h hp e0)
  · rw [e]
    refine ⟨rfl, .inr ⟨e0, ?_⟩⟩
    obtain ⟨j, x, rfl, hx, hc⟩ := mem_cnds.1 (List.mem_of_getElem? hk)
    unfold cnd at hc
    split at hc
    · rename_i q hq
      split at hc
      · rename_i hcc
        exact ⟨j, x, q, rfl, hx, hcc.1, hq, hcc.2⟩
      · cases hc
    · cases hc
def rol (l : LanT) (b k : Nat) (x : LinkT) : Int := if x.Up = false then 3 else if ownS l x.Seg = some ⟨(b : Int), (k : Int)⟩ then 1 else if (k : Int) = rt l b then 0 else 2
def rols (l : LanT) : List (List Int) := l.Plans.zipIdx.map fun p => p.1.Ports.zipIdx.map fun x => rol l p.2 x.2 x.1
theorem rangeL_mapIdx {α β ρ : Type} {body : Nat → α → List β → Option (Step ρ (List β))} {xs : List α} (hl : xs.length ≤ 1000000) (f : α → Nat → β) (hs : ∀ k x s, xs[k]? = some x → s.length = k → body k x s = some (.nxt (s ++ [f x k]))) :
    rangeL body xs [] = some (.nxt (xs.zipIdx.map fun x => f x.1 x.2)) := by
  obtain ⟨s, h1, h2⟩ := rangeL_inv (s0 := ([] : List β)) (body := body) hl (fun k s => s = (xs.take k).zipIdx.map fun x => f x.1 x.2) rfl fun k x s hx h => by
    have hlt := (List.getElem?_eq_some_iff.1 hx).1
    refine ⟨_, hs k x s hx (by rw [h]; simp; omega), ?_⟩
    rw [h, List.take_add_one, hx, Option.toList, List.zipIdx_append, List.map_append, List.length_take, Nat.min_eq_left (by omega)]
    simp
  rw [h1, h2, List.take_length]
theorem Roles_eq (l : LanT) (hf : FewL l) : tree_Roles l = some (if LR l then (rols l, 0) else ([], 1)) := by
  have hn := hf.plans
  unfold tree_Roles
  rw [LanRight_eq l hf, Option.bind_some]
  by_cases h : LR l
  · rw [if_pos h, decide_eq_true h, Bool.not_true, cond_false, (bst_eq hf h).1, Option.bind_some]
    rw [rangeL_mapIdx (by omega) (fun p b => p.Ports.zipIdx.map fun x => rol l b x.2 x.1) (fun b p s hp hs => by
      have hb := (List.getElem?_eq_some_iff.1 hp).1
      have hpl := hf.ports p (List.mem_of_getElem? hp)
      unfold tree_Roles_c0
      rw [(rt_eq hf h hp).1, Option.bind_some, rangeL_mapIdx (by omega) (fun x k => rol l b k x) (fun k x t hx ht => by
        have hok := (h.planOk hp).2.2 x (List.mem_of_getElem? hx)
        have hkl := (List.getElem?_eq_some_iff.1 hx).1
        unfold tree_Roles_c1 rol
        rw [own_eq hf h hok.1, Option.bind_some]
        have F : ∀ v : Int, fits (t ++ [v]).length 8 := fun v => fits_of (by simp; omega) (by decide)
        cases hu : x.Up with
        | false => rw [if_pos rfl, Bool.not_false, cond_true, grd_true (F _)]
        | true =>
          obtain ⟨q, hq⟩ := own_up hf h hp hx hu
          rw [if_neg (by simp), Bool.not_true, cond_false, hq]
          simp only [Option.getD_some, Option.some.injEq]
          by_cases hc : q = ⟨(b : Int), (k : Int)⟩
          · subst hc
            rw [if_pos rfl]
            simp only [decide_true, Bool.and_true, Bool.and_self, cond_true]
            rw [grd_true (F _)]
          · have : (decide (q.c0 = (b : Int)) && (decide (q.c1 = (k : Int)) && true)) = false := by
              rw [Bool.eq_false_iff]; intro e; simp only [Bool.and_eq_true, decide_eq_true_eq, and_true] at e
              exact hc (by cases q; dsimp only at e; rw [e.1, e.2])
            rw [this, if_neg hc, cond_false]
            by_cases hr : (k : Int) = rt l b
            · rw [decide_eq_true hr, if_pos hr, cond_true, grd_true (F _)]
            · rw [decide_eq_false hr, if_neg hr, cond_false, grd_true (F _)]), aft_some_nxt, grd_true (fits_of (by simp; omega) (by decide))]), aft_some_nxt]
    rfl
  · rw [if_neg h, decide_eq_false h]; rfl
theorem Own_eq (l : LanT) (hf : FewL l) (s : Int) : tree_Own l s = some (if LR l then (if 0 ≤ s ∧ s < l.Segs then ((ownS l s).getD ⟨0, 0⟩, (ownS l s).isSome, 0) else (⟨0, 0⟩, false, 3)) else (⟨0, 0⟩, false, 1)) := by
  unfold tree_Own
  rw [LanRight_eq l hf, Option.bind_some]
  by_cases h : LR l
  · rw [if_pos h, decide_eq_true h, Bool.not_true, cond_false]
    by_cases hs : 0 ≤ s ∧ s < l.Segs
    · rw [if_pos hs, decide_eq_false (show ¬ s < 0 by omega), cond_false, decide_eq_false (show ¬ l.Segs ≤ s by omega), cond_false, (bst_eq hf h).1, Option.bind_some, own_eq hf h hs]; rfl
    · rw [if_neg hs]
      by_cases h0 : s < 0
      · rw [decide_eq_true h0]; rfl
      · rw [decide_eq_false h0, cond_false, decide_eq_true (show l.Segs ≤ s by omega)]; rfl
  · rw [if_neg h, decide_eq_false h]; rfl
end
section
set_option maxHeartbeats 1000000
theorem tOpen_eq (l : LanT) (hf : FewL l) : tree_Open l = some (if LR l then ((rols l).map fun row => row.map opB, 0) else ([], 1)) := by
  unfold tree_Open
  rw [Roles_eq l hf, Option.bind_some]
  by_cases h : LR l
  · rw [if_pos h, if_pos h]
    dsimp only
    rw [decide_eq_true rfl, Bool.not_true, cond_false, grd_true]
    have hn := hf.plans
    refine ⟨by unfold rols; simp; omega, fun row hrow => ?_⟩
    obtain ⟨⟨p, b⟩, hpb, rfl⟩ := List.mem_map.1 hrow
    have hp := List.mem_of_getElem? (List.mem_zipIdx_iff_getElem?.1 hpb)
    have := (h.plan p hp).2.1
    constructor
    · intro e
      have e2 : (p.Ports.zipIdx.map fun x => rol l b x.2 x.1).length = 0 := congrArg List.length e
      rw [List.length_map, List.length_zipIdx] at e2
      omega
    · have e2 : (p.Ports.zipIdx.map fun x => rol l b x.2 x.1).length ≤ 1000 := by
        rw [List.length_map, List.length_zipIdx]
        have := hf.ports p hp
        omega
      exact e2
  · rw [if_neg h, if_neg h]; rfl
def tpl (l : LanT) (b : Nat) (p : PlanT) : PlanT := ⟨p.ID, p.Ports.zipIdx.map fun x => ⟨x.1.Seg, x.1.Cost, x.1.Up && opB (rol l b x.2 x.1)⟩⟩
def tl (l : LanT) : LanT := ⟨l.Segs, l.Plans.zipIdx.map fun p => tpl l p.2 p.1, l.Hosts⟩
theorem tl_get {l : LanT} {b : Nat} : (tl l).Plans[b]? = (l.Plans[b]?).map (tpl l b) := by
  unfold tl
  rw [List.getElem?_map, List.getElem?_zipIdx]
  cases l.Plans[b]? <;> simp
theorem tl_few {l : LanT} (hf : FewL l) : FewL (tl l) where
  plans := by unfold tl; simp; exact hf.plans
  ports q hq := by
    obtain ⟨b, hb⟩ := List.mem_iff_getElem?.1 hq
    rw [tl_get] at hb
    obtain ⟨p, hp, rfl⟩ := Option.map_eq_some_iff.1 hb
    unfold tpl; simp; exact hf.ports p (List.mem_of_getElem? hp)
  hosts := hf.hosts
theorem tl_ids {l : LanT} : (tl l).Plans.map (·.ID) = l.Plans.map (·.ID) := by
  refine List.ext_getElem? fun b => ?_
  rw [List.getElem?_map, List.getElem?_map, tl_get]
  cases l.Plans[b]? <;> rfl
theorem tl_LR {l : LanT} (h : LR l) : LR (tl l) where
  segs := h.segs
  plans := by unfold tl; simp; exact h.plans
  hosts := h.hosts
  ids := by rw [tl_ids]; exact h.ids
  macs := h.macs
  plan q hq := by
    obtain ⟨b, hb⟩ := List.mem_iff_getElem?.1 hq
    rw [tl_get] at hb
    obtain ⟨p, hp, rfl⟩ := Option.map_eq_some_iff.1 hb
    obtain ⟨h1, h2, h3⟩ := h.planOk hp
    refine ⟨h1, by unfold tpl; simpa using h2, fun x hx => ?_⟩
    obtain ⟨⟨y, k⟩, hy, rfl⟩ := List.mem_map.1 hx
    exact h3 y (List.mem_of_getElem? (List.mem_zipIdx_iff_getElem?.1 hy))
  host := h.host
theorem mem_tups {l : LanT} {b : Nat} {p : PlanT} {s : Int} : s ∈ ups (tpl l b p) ↔ ∃ (k : Nat) (x : LinkT), p.Ports[k]? = some x ∧ x.Up = true ∧ opB (rol l b k x) = true ∧ x.Seg = s := by
  rw [mem_ups]
  constructor
  · rintro ⟨y, hy, h1, h2⟩
    obtain ⟨⟨x, k⟩, hx, rfl⟩ := List.mem_map.1 hy
    dsimp only at h1 h2
    rw [Bool.and_eq_true] at h1
    exact ⟨k, x, List.mem_zipIdx_iff_getElem?.1 hx, h1.1, h1.2, h2⟩
  · rintro ⟨k, x, hx, h1, h2, h3⟩
    refine ⟨⟨x.Seg, x.Cost, x.Up && opB (rol l b k x)⟩, List.mem_map.2 ⟨(x, k), List.mem_zipIdx_iff_getElem?.2 hx, rfl⟩, by dsimp only; rw [h1, h2]; rfl, h3⟩
theorem opB_iff {l : LanT} {b k : Nat} {x : LinkT} (hu : x.Up = true) : opB (rol l b k x) = true ↔ ownS l x.Seg = some ⟨(b : Int), (k : Int)⟩ ∨ rt l b = (k : Int) := by
  unfold rol
  rw [if_neg (by rw [hu]; simp)]
  by_cases h1 : ownS l x.Seg = some ⟨(b : Int), (k : Int)⟩
  · rw [if_pos h1]; exact ⟨fun _ => .inl h1, fun _ => rfl⟩
  · rw [if_neg h1]
    by_cases h2 : (k : Int) = rt l b
    · rw [if_pos h2]; exact ⟨fun _ => .inr h2.symm, fun _ => rfl⟩
    · rw [if_neg h2]
      exact ⟨fun e => by exact absurd e (by decide), fun e => by
        rcases e with e | e
        · exact absurd e h1
        · exact absurd e.symm h2⟩
abbrev tR (l : LanT) (a b : Int) : Prop := Rc (ed (tl l)) a b
theorem tjn {l : LanT} {b : Nat} {p : PlanT} (hp : l.Plans[b]? = some p) {a c : Int} (ha : a ∈ ups (tpl l b p)) (hc : c ∈ ups (tpl l b p)) : tR l a c :=
  .one (jn_ed.2 ⟨tpl l b p, List.mem_of_getElem? (i := b) (by rw [tl_get, hp]; rfl), ha, hc⟩)
section
variable {l : LanT}
theorem own_tups (hf : FewL l) (h : LR l) {s : Int} (hs : 0 ≤ s ∧ s < l.Segs) {c j : Nat} (ho : ownS l s = some ⟨(c : Int), (j : Int)⟩) : ∃ p x, l.Plans[c]? = some p ∧ p.Ports[j]? = some x ∧ x.Up = true ∧ x.Seg = s ∧ s ∈ ups (tpl l c p) := by
  obtain ⟨c', j', p, x, e, _, _, hp, hx, hu, hsg⟩ := on_ok h (own_some hf h hs ho).1
  have e1 : (c : Int) = (c' : Int) := congrArg A2_Int.c0 e
  have e2 : (j : Int) = (j' : Int) := congrArg A2_Int.c1 e
  have e1 : c = c' := by omega
  have e2 : j = j' := by omega
  subst e1; subst e2
  exact ⟨p, x, hp, hx, hu, hsg, mem_tups.2 ⟨j, x, hx, hu, (opB_iff hu).2 (.inl (by rw [hsg]; exact ho)), hsg⟩⟩
def Top (l : LanT) (r : Int) (u : Int) : Prop := ∃ c j : Nat, c < l.Plans.length ∧ (bw l c).1 = IDn l c ∧ IDn l c = r ∧ (0 ≤ u ∧ u < l.Segs) ∧ ownS l u = some ⟨(c : Int), (j : Int)⟩
theorem Top.same (hf : FewL l) (h : LR l) {r u v : Int} (h1 : Top l r u) (h2 : Top l r v) : tR l u v := by
  obtain ⟨c, j, c1, c2, c3, c4, c5⟩ := h1
  obtain ⟨d, k, d1, d2, d3, d4, d5⟩ := h2
  have : c = d := IDn_inj h c1 d1 (by rw [c3, d3])
  subst this
  obtain ⟨p, _, hp, _, _, _, h3⟩ := own_tups hf h c4 c5
  obtain ⟨q, _, hq, _, _, _, h4⟩ := own_tups hf h d4 d5
  rw [hp] at hq; cases hq
  exact tjn hp h3 h4
theorem to_top (hf : FewL l) (h : LR l) : ∀ (n : Nat) {b : Nat} {p : PlanT} {s : Int}, l.Plans[b]? = some p → (bw l b).2 ≤ (n : Int) → s ∈ ups (tpl l b p) → ∃ u, Top l (bw l b).1 u ∧ tR l s u := by
  intro n
  induction n with
  | zero =>
    intro b p s hp hn hs
    have hb := (List.getElem?_eq_some_iff.1 hp).1
    have h0 := (bw_zero hf h hb).1 (by have := bw_bnd hf h hb; omega)
    obtain ⟨k, x, hx, hu, ho, hsg⟩ := mem_tups.1 hs
    have hok := ((h.planOk hp).2.2 x (List.mem_of_getElem? hx)).1
    rcases (opB_iff hu).1 ho with e | e
    · exact ⟨s, ⟨b, k, hb, h0, h0.symm, by rw [← hsg]; exact hok, by rw [← hsg]; exact e⟩, .refl⟩
    · rcases (rt_eq hf h hp).2 with ⟨_, e2⟩ | ⟨e2, _⟩
      · omega
      · exact absurd h0 e2
  | succ n ih =>
    intro b p s hp hn hs
    have hb := (List.getElem?_eq_some_iff.1 hp).1
    by_cases h0 : (bw l b).1 = IDn l b
    · obtain ⟨k, x, hx, hu, ho, hsg⟩ := mem_tups.1 hs
      have hok := ((h.planOk hp).2.2 x (List.mem_of_getElem? hx)).1
      rcases (opB_iff hu).1 ho with e | e
      · exact ⟨s, ⟨b, k, hb, h0, h0.symm, by rw [← hsg]; exact hok, by rw [← hsg]; exact e⟩, .refl⟩
      · rcases (rt_eq hf h hp).2 with ⟨_, e2⟩ | ⟨e2, _⟩
        · omega
        · exact absurd h0 e2
    · rcases (rt_eq hf h hp).2 with ⟨e2, _⟩ | ⟨_, j, x, q, e, hx, hu, hq, h1, h2, h3⟩
      · exact absurd e2 h0
      · have hok := (h.planOk hp).2.2 x (List.mem_of_getElem? hx)
        obtain ⟨c, m, _, _, rfl, hc, _⟩ := on_ok h (own_some hf h hok.1 hq).1
        obtain ⟨pc, y, hpc, _, _, _, hin⟩ := own_tups hf h hok.1 hq
        have hxin : x.Seg ∈ ups (tpl l b p) := mem_tups.2 ⟨j, x, hx, hu, (opB_iff hu).2 (.inr e), rfl⟩
        have hxc := hok.2
        unfold tol at h2 h3
        dsimp only at h2 h3
        rw [Int.toNat_natCast] at h2 h3
        obtain ⟨u, h4, h5⟩ := ih hpc (by omega) hin
        rw [h2] at h4
        exact ⟨u, h4, (tjn hp hs hxin).trans h5⟩
theorem up_top (hf : FewL l) (h : LR l) {b : Nat} {p : PlanT} {s : Int} (hp : l.Plans[b]? = some p) (hs : s ∈ ups p) : ∃ u, Top l (bw l b).1 u ∧ tR l s u := by
  obtain ⟨x, hx, hu, hsg⟩ := mem_ups.1 hs
  have hok := ((h.planOk hp).2.2 x hx).1
  obtain ⟨k, hk⟩ := List.mem_iff_getElem?.1 hx
  obtain ⟨q, hq⟩ := own_up hf h hp hk hu
  obtain ⟨c, m, pc, y, rfl, hc, _, hpc, hy, hyu, hys⟩ := on_ok h (own_some hf h hok hq).1
  obtain ⟨pc', _, hpc', _, _, _, hin⟩ := own_tups hf h hok hq
  have hr : (bw l c).1 = (bw l b).1 := by
    by_cases e : c = b
    · rw [e]
    · exact bw_root hf h (c := x.Cost) ⟨e, pc, p, y, x, hpc, hp, List.mem_of_getElem? hy, hx, hyu, hu, hys, rfl⟩
  have hb := (bw_bnd hf h hc)
  obtain ⟨u, h1, h2⟩ := to_top hf h 6000 hpc' (by omega) hin
  rw [hr] at h1
  rw [hsg] at h2
  exact ⟨u, h1, h2⟩
theorem span (hf : FewL l) (h : LR l) {a b : Int} : Rc (ed l) a b ↔ tR l a b := by
  refine Eqv.iff_of (fun x y hj => ?_) (fun x y hj => ?_)
  · obtain ⟨p, hp, h1, h2⟩ := jn_ed.1 hj
    obtain ⟨c, hc⟩ := List.mem_iff_getElem?.1 hp
    obtain ⟨u, u1, u2⟩ := up_top hf h hc h1
    obtain ⟨v, v1, v2⟩ := up_top hf h hc h2
    exact u2.trans ((Top.same hf h u1 v1).trans (Rc.symm v2))
  · obtain ⟨q, hq, h1, h2⟩ := jn_ed.1 hj
    obtain ⟨c, hc⟩ := List.mem_iff_getElem?.1 hq
    rw [tl_get] at hc
    obtain ⟨p, hp, rfl⟩ := Option.map_eq_some_iff.1 hc
    have sub : ∀ s, s ∈ ups (tpl l c p) → s ∈ ups p := fun s hs => by
      obtain ⟨k, x, hx, hu, _, hsg⟩ := mem_tups.1 hs
      exact mem_ups.2 ⟨x, List.mem_of_getElem? hx, hu, hsg⟩
    exact .one (jn_ed.2 ⟨p, List.mem_of_getElem? hp, sub x h1, sub y h2⟩)
end
end
section
set_option maxHeartbeats 1000000
theorem cnt_reps {R : Int → Int → Prop} (hs : ∀ x y, R x y → R y x) (ht : ∀ x y z, R x y → R y z → R x z) {n : Nat} {M : List Nat} {f : Nat → Nat} (hf : ∀ s : Nat, s < n → f s ∈ M ∧ R s (f s)) : cnt R n ≤ M.length := by
  have key : ∀ m, m ≤ n → ∃ K : List Nat, K.Nodup ∧ K.length = cnt R m ∧ ∀ u ∈ K, ∃ s, s < m ∧ u = f s := by
    intro m
    induction m with
    | zero => intro _; exact ⟨[], List.nodup_nil, rfl, fun u hu => by cases hu⟩
    | succ m ih =>
      intro hm
      obtain ⟨K, k1, k2, k3⟩ := ih (by omega)
      by_cases hl : Lst R m
      · refine ⟨f m :: K, List.nodup_cons.2 ⟨fun hin => ?_, k1⟩, by simp only [cnt, if_pos hl, List.length_cons, k2], fun u hu => ?_⟩
        · obtain ⟨s, s1, s2⟩ := k3 _ hin
          have h1 := (hf m (by omega)).2
          rw [s2] at h1
          exact hl s s1 (ht _ _ _ (hf s (by omega)).2 (hs _ _ h1))
        · rcases List.mem_cons.1 hu with e | e
          · exact ⟨m, by omega, e⟩
          · obtain ⟨s, s1, s2⟩ := k3 u e; exact ⟨s, by omega, s2⟩
      · refine ⟨K, k1, by simp only [cnt, if_neg hl, k2, Nat.add_zero], fun u hu => ?_⟩
        obtain ⟨s, s1, s2⟩ := k3 u hu; exact ⟨s, by omega, s2⟩
  obtain ⟨K, k1, k2, k3⟩ := key n (Nat.le_refl _)
  rw [← k2]
  exact nodup_len k1 fun u hu => by
    obtain ⟨s, s1, s2⟩ := k3 u hu
    rw [s2]; exact (hf s s1).1
def ow (l : LanT) (s : Nat) : Option Nat := (ownS l (s : Int)).map fun q => q.c0.toNat
def topS (l : LanT) (b : Nat) : Option Nat := (List.range l.Segs.toNat).find? fun s => decide (ow l s = some b)
def mkd (l : LanT) (s : Nat) : Bool := match ow l s with
  | some b => !(decide ((bw l b).1 = IDn l b) && decide (topS l b = some s))
  | none => false
theorem ow_own {l : LanT} (hf : FewL l) (h : LR l) {s b : Nat} (hs : s < l.Segs.toNat) (ho : ow l s = some b) : ∃ j : Nat, ownS l (s : Int) = some ⟨(b : Int), (j : Int)⟩ := by
  unfold ow at ho
  obtain ⟨q, hq, e⟩ := Option.map_eq_some_iff.1 ho
  have hs' : 0 ≤ (s : Int) ∧ (s : Int) < l.Segs := by omega
  obtain ⟨c, j, _, _, rfl, _⟩ := on_ok h (own_some hf h hs' hq).1
  dsimp only at e
  rw [Int.toNat_natCast] at e
  subst e
  exact ⟨j, hq⟩
theorem own_ow {l : LanT} {s b : Nat} {j : Int} (ho : ownS l (s : Int) = some ⟨(b : Int), j⟩) : ow l s = some b := by
  unfold ow; rw [ho]; simp
theorem reps {l : LanT} (hf : FewL l) (h : LR l) {s : Nat} (hs : s < l.Segs.toNat) : ∃ u, u ∈ (List.range l.Segs.toNat).filter (fun s => !mkd l s) ∧ tR l s u := by
  cases ho : ow l s with
  | none => exact ⟨s, List.mem_filter.2 ⟨List.mem_range.2 hs, by unfold mkd; rw [ho]; rfl⟩, .refl⟩
  | some b =>
    obtain ⟨j, hj⟩ := ow_own hf h hs ho
    have hs' : 0 ≤ (s : Int) ∧ (s : Int) < l.Segs := by omega
    obtain ⟨p, x, hp, hx, hu, hsg, hin⟩ := own_tups hf h hs' hj
    have hbb := bw_bnd hf h (List.getElem?_eq_some_iff.1 hp).1
    obtain ⟨u, hT, hR⟩ := to_top hf h 6000 hp (by omega) hin
    obtain ⟨c, m, c1, c2, c3, c4, c5⟩ := hT
    have hun : ((u.toNat : Nat) : Int) = u := Int.toNat_of_nonneg c4.1
    have hfind : ∃ u0, topS l c = some u0 := by
      unfold topS
      cases hq : (List.range l.Segs.toNat).find? fun s => decide (ow l s = some c) with
      | some u0 => exact ⟨u0, rfl⟩
      | none =>
        have := List.find?_eq_none.1 hq u.toNat (List.mem_range.2 (by omega))
        rw [own_ow (s := u.toNat) (b := c) (j := (m : Int)) (by rw [hun]; exact c5)] at this
        simp at this
    obtain ⟨u0, hu0⟩ := hfind
    have hu1 : ow l u0 = some c := by
      have := List.find?_some hu0
      simpa using this
    have hu2 : u0 < l.Segs.toNat := List.mem_range.1 (List.mem_of_find?_eq_some hu0)
    obtain ⟨j0, hj0⟩ := ow_own hf h hu2 hu1
    refine ⟨u0, List.mem_filter.2 ⟨List.mem_range.2 hu2, ?_⟩, hR.trans (Top.same hf h (r := (bw l b).1) ⟨c, m, c1, c2, c3, c4, c5⟩ ⟨c, j0, c1, c2, c3, by omega, hj0⟩)⟩
    unfold mkd
    rw [hu1]
    simp [c2, hu0]
theorem countP_or {α : Type} {p q r : α → Bool} (h : ∀ x, p x = true → q x = true ∨ r x = true) : ∀ l : List α, l.countP p ≤ l.countP q + l.countP r
  | [] => Nat.zero_le _
  | x :: l => by
    have ih := countP_or h l
    rw [List.countP_cons, List.countP_cons, List.countP_cons]
    have := h x
    cases hp : p x with
    | false => simp; omega
    | true =>
      rcases this hp with e | e
      · simp [e]; omega
      · simp [e]; omega
theorem zip_gt {α : Type} {r : Int} : ∀ (l : List α) (i : Nat), r < (i : Int) → (l.zipIdx i).countP (fun x => decide ((x.2 : Int) = r)) = 0
  | [], _, _ => rfl
  | a :: l, i, h => by
    rw [List.zipIdx_cons, List.countP_cons, zip_gt l (i + 1) (by omega)]
    have : decide (((a, i).2 : Int) = r) = false := decide_eq_false (by dsimp only; omega)
    rw [this]; rfl
theorem zip_one {α : Type} {r : Int} : ∀ (l : List α) (i : Nat), (l.zipIdx i).countP (fun x => decide ((x.2 : Int) = r)) ≤ 1
  | [], _ => Nat.zero_le _
  | a :: l, i => by
    rw [List.zipIdx_cons, List.countP_cons]
    by_cases h : (i : Int) = r
    · rw [zip_gt l (i + 1) (by omega)]
      split <;> omega
    · have : decide (((a, i).2 : Int) = r) = false := decide_eq_false h
      rw [this]
      have := zip_one (r := r) l (i + 1)
      simpa using this
theorem one_bridge {l : LanT} (hf : FewL l) (h : LR l) {b : Nat} {p : PlanT} (hp : l.Plans[b]? = some p) : (ups (tpl l b p)).length - 1 ≤ (List.range l.Segs.toNat).countP (fun s => mkd l s && decide (ow l s = some b)) := by
  have hb := (List.getElem?_eq_some_iff.1 hp).1
  have hlen : (ups (tpl l b p)).length = p.Ports.zipIdx.countP (fun x => x.1.Up && opB (rol l b x.2 x.1)) := by
    unfold ups tpl
    rw [List.length_map, ← List.countP_eq_length_filter, List.countP_map]; rfl
  let des : LinkT × Nat → Bool := fun x => x.1.Up && decide (ownS l x.1.Seg = some ⟨(b : Int), (x.2 : Int)⟩)
  have hor : p.Ports.zipIdx.countP (fun x => x.1.Up && opB (rol l b x.2 x.1)) ≤ p.Ports.zipIdx.countP des + p.Ports.zipIdx.countP (fun x => decide ((x.2 : Int) = rt l b)) := by
    refine countP_or (fun x hx => ?_) _
    rw [Bool.and_eq_true] at hx
    rcases (opB_iff hx.1).1 hx.2 with e | e
    · exact .inl (by show (x.1.Up && decide _) = true; rw [hx.1, decide_eq_true e]; rfl)
    · exact .inr (decide_eq_true e.symm)
  have hD : p.Ports.zipIdx.countP des ≤ ((List.range l.Segs.toNat).filter fun s => decide (ow l s = some b)).length := by
    rw [List.countP_eq_length_filter, ← List.length_map (fun x : LinkT × Nat => x.1.Seg.toNat)]
    refine nodup_len ?_ fun s hs => ?_
    · refine List.pairwise_map.2 (List.Pairwise.imp_of_mem ?_ ((List.pairwise_map.1 (by rw [List.zipIdx_map_snd]; exact List.nodup_range' ) : p.Ports.zipIdx.Pairwise fun a c => a.2 ≠ c.2).filter des))
      intro x y hx hy hne he
      obtain ⟨hx1, hx2⟩ := List.mem_filter.1 hx
      obtain ⟨hy1, hy2⟩ := List.mem_filter.1 hy
      have hx3 : x.1.Up = true ∧ ownS l x.1.Seg = some ⟨(b : Int), (x.2 : Int)⟩ := by simpa [des] using hx2
      have hy3 : y.1.Up = true ∧ ownS l y.1.Seg = some ⟨(b : Int), (y.2 : Int)⟩ := by simpa [des] using hy2
      have ox := ((h.planOk hp).2.2 x.1 (List.mem_of_getElem? (List.mem_zipIdx_iff_getElem?.1 hx1))).1
      have oy := ((h.planOk hp).2.2 y.1 (List.mem_of_getElem? (List.mem_zipIdx_iff_getElem?.1 hy1))).1
      have es : x.1.Seg = y.1.Seg := by omega
      have := hx3.2
      rw [es, hy3.2] at this
      have := congrArg A2_Int.c1 (Option.some.inj this)
      exact hne (by dsimp only at this; omega)
    · obtain ⟨x, hx, rfl⟩ := List.mem_map.1 hs
      obtain ⟨hx1, hx2⟩ := List.mem_filter.1 hx
      have hx3 : x.1.Up = true ∧ ownS l x.1.Seg = some ⟨(b : Int), (x.2 : Int)⟩ := by simpa [des] using hx2
      have ox := ((h.planOk hp).2.2 x.1 (List.mem_of_getElem? (List.mem_zipIdx_iff_getElem?.1 hx1))).1
      refine List.mem_filter.2 ⟨List.mem_range.2 (by omega), decide_eq_true (own_ow (j := (x.2 : Int)) ?_)⟩
      rw [Int.toNat_of_nonneg ox.1]; exact hx3.2
  rw [hlen]
  rcases (rt_eq hf h hp).2 with ⟨e0, e1⟩ | ⟨e0, _⟩
  · have hz : p.Ports.zipIdx.countP (fun x => decide ((x.2 : Int) = rt l b)) = 0 := zip_gt _ _ (by rw [e1]; omega)
    have hF : ((List.range l.Segs.toNat).filter fun s => decide (ow l s = some b)).length ≤ ((topS l b).getD 0 :: (List.range l.Segs.toNat).filter fun s => mkd l s && decide (ow l s = some b)).length := by
      refine nodup_len (List.nodup_range.filter _) fun s hs => ?_
      obtain ⟨s1, s2⟩ := List.mem_filter.1 hs
      have s2 := of_decide_eq_true s2
      by_cases ht : topS l b = some s
      · rw [ht]; exact List.mem_cons_self ..
      · refine List.mem_cons_of_mem _ (List.mem_filter.2 ⟨s1, ?_⟩)
        unfold mkd
        rw [s2]
        simp [ht]
    rw [List.length_cons, ← List.countP_eq_length_filter (p := fun s => mkd l s && decide (ow l s = some b))] at hF
    omega
  · have h1 := zip_one (r := rt l b) p.Ports 0
    have hE : ((List.range l.Segs.toNat).filter fun s => decide (ow l s = some b)).length = (List.range l.Segs.toNat).countP (fun s => mkd l s && decide (ow l s = some b)) := by
      rw [← List.countP_eq_length_filter]
      refine List.countP_congr fun s _ => ?_
      constructor
      · intro e
        have e := of_decide_eq_true e
        unfold mkd
        rw [e]; simp [e0]
      · intro e; rw [Bool.and_eq_true] at e; exact e.2
    omega
theorem countP_split {α : Type} {p q r : α → Bool} (h : ∀ x, (p x = true → r x = true ∧ q x = false) ∧ (q x = true → r x = true)) : ∀ l : List α, l.countP p + l.countP q ≤ l.countP r
  | [] => Nat.le_refl _
  | x :: l => by
    have ih := countP_split h l
    rw [List.countP_cons, List.countP_cons, List.countP_cons]
    have := h x
    cases hp : p x <;> cases hq : q x <;> simp_all <;> omega
theorem slack_mk {l : LanT} (hf : FewL l) (h : LR l) : slack (tl l) ≤ (List.range l.Segs.toNat).countP (mkd l) := by
  have key : ∀ i, i ≤ l.Plans.length → (((ed (tl l)).take i).map fun p => p.length - 1).sum ≤ (List.range l.Segs.toNat).countP (fun s => mkd l s && decide (∃ b, b < i ∧ ow l s = some b)) := by
    intro i
    induction i with
    | zero => intro _; simp
    | succ i ih =>
      intro hi
      obtain ⟨p, hp⟩ : ∃ p, l.Plans[i]? = some p := ⟨_, List.getElem?_eq_getElem (by omega)⟩
      have he : (ed (tl l))[i]? = some (ups (tpl l i p)) := by unfold ed; rw [List.getElem?_map, tl_get, hp]; rfl
      rw [List.take_add_one, he, Option.toList, List.map_append, List.sum_append]
      have h1 := ih (by omega)
      have h2 := one_bridge hf h hp
      have h3 := countP_split (p := fun s => mkd l s && decide (∃ b, b < i ∧ ow l s = some b)) (q := fun s => mkd l s && decide (ow l s = some i)) (r := fun s => mkd l s && decide (∃ b, b < i + 1 ∧ ow l s = some b)) (fun s => by
        constructor
        · intro e
          rw [Bool.and_eq_true] at e
          obtain ⟨b, b1, b2⟩ := of_decide_eq_true e.2
          refine ⟨by rw [e.1, decide_eq_true ⟨b, by omega, b2⟩]; rfl, ?_⟩
          rw [b2, decide_eq_false (fun q => by have := Option.some.inj q; omega), Bool.and_false]
        · intro e
          rw [Bool.and_eq_true] at e
          rw [e.1, decide_eq_true ⟨i, by omega, of_decide_eq_true e.2⟩]; rfl) (List.range l.Segs.toNat)
      simp only [List.map_cons, List.map_nil, List.sum_cons, List.sum_nil, Nat.add_zero]
      omega
  have h1 := key l.Plans.length (Nat.le_refl _)
  have hl : (ed (tl l)).length = l.Plans.length := by unfold ed tl; simp
  rw [List.take_of_length_le (by omega)] at h1
  refine Nat.le_trans h1 (List.countP_mono_left fun s _ e => ?_)
  rw [Bool.and_eq_true] at e; exact e.1
theorem no_loops {l : LanT} (hf : FewL l) (h : LR l) : partsN (tl l) + slack (tl l) = l.Segs.toNat := by
  have h1 : partsN (tl l) ≤ ((List.range l.Segs.toNat).filter (fun s => !mkd l s)).length := by
    unfold partsN
    show cnt (tR l) l.Segs.toNat ≤ _
    refine cnt_reps (R := tR l) (f := fun s => if hs : s < l.Segs.toNat then Classical.choose (reps hf h hs) else 0) (fun x y q => Rc.symm q) (fun x y z q r => Eqv.trans q r) fun s hs => ?_
    simp only [hs, dite_true]
    exact Classical.choose_spec (reps hf h hs)
  have h2 := slack_mk hf h
  have h3 := Rc.cnt_ge (ed (tl l)) (LR.bnd (tl_LR h))
  have h4 : (List.range l.Segs.toNat).countP (mkd l) + ((List.range l.Segs.toNat).filter (fun s => !mkd l s)).length = l.Segs.toNat := by
    have := List.length_eq_countP_add_countP (mkd l) (l := List.range l.Segs.toNat)
    rw [List.length_range] at this
    rw [← List.countP_eq_length_filter]
    have e : (List.range l.Segs.toNat).countP (fun s => !mkd l s) = (List.range l.Segs.toNat).countP (fun a => decide ¬ mkd l a = true) := by
      congr 1; funext b; cases mkd l b <;> rfl
    omega
  have h5 : l.Segs.toNat ≤ partsN (tl l) + slack (tl l) := h3
  omega
end
section
set_option maxHeartbeats 1000000
def opn3 (l : LanT) : List (List Bool) := (rols l).map fun row => row.map opB
theorem opn3_get {l : LanT} {b : Nat} {p : PlanT} (hp : l.Plans[b]? = some p) : (opn3 l)[b]? = some (p.Ports.zipIdx.map fun x => opB (rol l b x.2 x.1)) := by
  unfold opn3 rols
  rw [List.getElem?_map, List.getElem?_map, List.getElem?_zipIdx, hp]
  simp
theorem opn3_shp {l : LanT} : Shp l (opn3 l) where
  len := by unfold opn3 rols; simp
  row b p q hp hq := by
    rw [opn3_get hp] at hq
    cases hq; simp
theorem opn_tpl {l : LanT} {b : Nat} {p : PlanT} : opn p (p.Ports.zipIdx.map fun x => opB (rol l b x.2 x.1)) = ups (tpl l b p) := by
  have key : ∀ (xs : List LinkT) (i : Nat), (xs.zip ((xs.zipIdx i).map fun x => opB (rol l b x.2 x.1))).filterMap (fun x => if x.1.Up = true ∧ x.2 = true then some x.1.Seg else none) =
      (((xs.zipIdx i).map fun x => (⟨x.1.Seg, x.1.Cost, x.1.Up && opB (rol l b x.2 x.1)⟩ : LinkT)).filter (·.Up)).map (·.Seg) := by
    intro xs
    induction xs with
    | nil => intro i; rfl
    | cons x xs ih =>
      intro i
      rw [List.zipIdx_cons, List.map_cons, List.map_cons, List.zip_cons_cons, List.filterMap_cons, ih (i + 1)]
      dsimp only
      by_cases h : x.Up = true ∧ opB (rol l b i x) = true
      · rw [if_pos h, List.filter_cons_of_pos (by dsimp only; rw [h.1, h.2]; rfl)]; rfl
      · rw [if_neg h, List.filter_cons_of_neg (by dsimp only; rw [Bool.and_eq_true]; exact h)]
  exact key p.Ports 0
theorem edO_tl {l : LanT} : edO l (opn3 l) = ed (tl l) := by
  have hlen : (opn3 l).length = l.Plans.length := opn3_shp.len
  refine List.ext_getElem? fun b => ?_
  unfold edO ed
  rw [List.getElem?_map, List.getElem?_map, tl_get]
  cases hp : l.Plans[b]? with
  | none =>
    have : l.Plans.length ≤ b := List.getElem?_eq_none_iff.1 hp
    rw [List.getElem?_eq_none (by rw [List.length_zip]; omega)]; rfl
  | some p =>
    have hz : (l.Plans.zip (opn3 l))[b]? = some (p, p.Ports.zipIdx.map fun x => opB (rol l b x.2 x.1)) := List.getElem?_zip_eq_some.2 ⟨hp, opn3_get hp⟩
    rw [hz]
    simp only [Option.map_some]
    rw [opn_tpl]
noncomputable def prt (l : LanT) (a : Int) : List Int := partI (ed l) l.Segs a
theorem prt_mem {l : LanT} (hf : FewL l) (h : LR l) {a t : Int} : t ∈ prt l a ↔ (0 ≤ t ∧ t < l.Segs) ∧ tR l a t := by
  unfold prt
  rw [partI_mem]
  exact and_congr Iff.rfl (span hf h)
open Classical in
noncomputable def edP (l : LanT) (a : Int) : List (List Int) := (ed (tl l)).map fun q => if ∃ s ∈ q, tR l a s then q else []
theorem edP_jn {l : LanT} {a x y : Int} (hx : tR l a x) (hj : Jn (ed (tl l)) x y) : Jn (edP l a) x y := by
  obtain ⟨q, hq, h1, h2⟩ := hj
  have hm : ∃ s ∈ q, tR l a s := ⟨x, h1, hx⟩
  exact ⟨q, List.mem_map.2 ⟨q, hq, if_pos hm⟩, h1, h2⟩
theorem edP_rc {l : LanT} {a b : Int} (h : tR l a b) : Rc (edP l a) a b := by
  induction h with
  | refl => exact .refl
  | step p g ih => exact .step ih (edP_jn p g)
noncomputable def slP (l : LanT) (a : Int) : Nat := ((edP l a).map fun q => q.length - 1).sum
theorem prt_nat {l : LanT} (hf : FewL l) (h : LR l) {a : Int} : (prt l a).length = (List.range l.Segs.toNat).countP (fun s : Nat => decide ((s : Int) ∈ prt l a)) := by
  have hasc : (prt l a).Pairwise (· < ·) := partI_asc _ _ _
  have el : ∀ L : List Nat, (L.map fun s : Nat => (s : Int)).length = L.length := fun L => List.length_map _
  rw [List.countP_eq_length_filter]
  refine Nat.le_antisymm ?_ ?_
  · rw [← el]
    refine nodup_len (hasc.imp fun q e => by omega) fun t ht => ?_
    have := ((prt_mem hf h).1 ht).1
    refine List.mem_map.2 ⟨t.toNat, List.mem_filter.2 ⟨List.mem_range.2 (by omega), decide_eq_true (by rw [Int.toNat_of_nonneg this.1]; exact ht)⟩, Int.toNat_of_nonneg this.1⟩
  · rw [← el]
    refine nodup_len (List.pairwise_map.2 ((List.nodup_range.filter _).imp fun {x y} q e => q (by omega))) fun t ht => ?_
    obtain ⟨s, hs, rfl⟩ := List.mem_map.1 ht
    exact of_decide_eq_true (List.mem_filter.1 hs).2
theorem slP_ge {l : LanT} (hf : FewL l) (h : LR l) {a : Int} (ha : 0 ≤ a ∧ a < l.Segs) : (prt l a).length - 1 ≤ slP l a := by
  have hb : Bnd l.Segs.toNat (edP l a) := fun q hq x hx => by
    obtain ⟨q', hq', rfl⟩ := List.mem_map.1 hq
    split at hx
    · exact LR.bnd (tl_LR h) q' hq' x hx
    · cases hx
  have h1 := Rc.cnt_ge (edP l a) hb
  have h2 : cnt (Rc (edP l a)) l.Segs.toNat ≤ (a.toNat :: (List.range l.Segs.toNat).filter (fun s : Nat => !decide ((s : Int) ∈ prt l a))).length := by
    refine cnt_reps (R := Rc (edP l a)) (f := fun s => if (s : Int) ∈ prt l a then a.toNat else s) (fun x y q => Rc.symm q) (fun x y z q r => Eqv.trans q r) fun s hs => ?_
    by_cases hp : (s : Int) ∈ prt l a
    · rw [if_pos hp]
      refine ⟨List.mem_cons_self .., ?_⟩
      rw [Int.toNat_of_nonneg ha.1]
      exact Rc.symm (edP_rc ((prt_mem hf h).1 hp).2)
    · rw [if_neg hp]
      exact ⟨List.mem_cons_of_mem _ (List.mem_filter.2 ⟨List.mem_range.2 hs, by rw [decide_eq_false hp]; rfl⟩), .refl⟩
  have h3 := prt_nat hf h (a := a)
  have h4 := List.length_eq_countP_add_countP (fun s : Nat => decide ((s : Int) ∈ prt l a)) (l := List.range l.Segs.toNat)
  rw [List.length_range] at h4
  rw [List.length_cons, ← List.countP_eq_length_filter] at h2
  have e : (List.range l.Segs.toNat).countP (fun s : Nat => !decide ((s : Int) ∈ prt l a)) = (List.range l.Segs.toNat).countP (fun s : Nat => decide ¬ decide ((s : Int) ∈ prt l a) = true) := by
    congr 1; funext b; cases decide ((b : Int) ∈ prt l a) <;> rfl
  unfold slP
  omega
theorem slP_le {l : LanT} (hf : FewL l) (h : LR l) {a : Int} (ha : 0 ≤ a ∧ a < l.Segs) : slP l a ≤ (prt l a).length - 1 := by
  have key : ∀ i, i ≤ l.Plans.length → (((edP l a).take i).map fun q => q.length - 1).sum ≤ (List.range l.Segs.toNat).countP (fun s : Nat => (mkd l s && decide ((s : Int) ∈ prt l a)) && decide (∃ b, b < i ∧ ow l s = some b)) := by
    intro i
    induction i with
    | zero => intro _; simp
    | succ i ih =>
      intro hi
      obtain ⟨p, hp⟩ : ∃ p, l.Plans[i]? = some p := ⟨_, List.getElem?_eq_getElem (by omega)⟩
      have he : (ed (tl l))[i]? = some (ups (tpl l i p)) := by unfold ed; rw [List.getElem?_map, tl_get, hp]; rfl
      have h1 := ih (by omega)
      have h3 := countP_split (p := fun s : Nat => (mkd l s && decide ((s : Int) ∈ prt l a)) && decide (∃ b, b < i ∧ ow l s = some b)) (q := fun s : Nat => (mkd l s && decide ((s : Int) ∈ prt l a)) && decide (ow l s = some i)) (r := fun s : Nat => (mkd l s && decide ((s : Int) ∈ prt l a)) && decide (∃ b, b < i + 1 ∧ ow l s = some b)) (fun s => by
        constructor
        · intro e
          rw [Bool.and_eq_true] at e
          obtain ⟨b, b1, b2⟩ := of_decide_eq_true e.2
          refine ⟨by rw [e.1, decide_eq_true ⟨b, by omega, b2⟩]; rfl, ?_⟩
          rw [b2, decide_eq_false (show ¬ (some b = some i) from fun q => by have := Option.some.inj q; omega), Bool.and_false]
        · intro e
          rw [Bool.and_eq_true] at e
          rw [e.1, decide_eq_true ⟨i, by omega, of_decide_eq_true e.2⟩]; rfl) (List.range l.Segs.toNat)
      by_cases hm : ∃ s ∈ ups (tpl l i p), tR l a s
      · have he2 : (edP l a)[i]? = some (ups (tpl l i p)) := by unfold edP; rw [List.getElem?_map, he]; simp only [Option.map_some]; rw [if_pos hm]
        have h2 := one_bridge hf h hp
        have h4 : (List.range l.Segs.toNat).countP (fun s => mkd l s && decide (ow l s = some i)) ≤ (List.range l.Segs.toNat).countP (fun s : Nat => (mkd l s && decide ((s : Int) ∈ prt l a)) && decide (ow l s = some i)) := by
          refine List.countP_mono_left fun s hs e => ?_
          rw [Bool.and_eq_true] at e
          have ho := of_decide_eq_true e.2
          have hs2 := List.mem_range.1 hs
          obtain ⟨j, hj⟩ := ow_own hf h hs2 ho
          obtain ⟨p', _, hp', _, _, _, hin⟩ := own_tups hf h (by omega) hj
          rw [hp] at hp'; cases hp'
          obtain ⟨u, u1, u2⟩ := hm
          have : (s : Int) ∈ prt l a := (prt_mem hf h).2 ⟨by omega, u2.trans (tjn hp u1 hin)⟩
          rw [e.1, e.2, decide_eq_true this]; rfl
        rw [List.take_add_one, he2, Option.toList, List.map_append, List.sum_append]
        simp only [List.map_cons, List.map_nil, List.sum_cons, List.sum_nil, Nat.add_zero]
        omega
      · have he2 : (edP l a)[i]? = some [] := by unfold edP; rw [List.getElem?_map, he]; simp only [Option.map_some]; rw [if_neg hm]
        rw [List.take_add_one, he2, Option.toList, List.map_append, List.sum_append]
        simp only [List.map_cons, List.map_nil, List.sum_cons, List.sum_nil, List.length_nil]
        omega
  have h1 := key l.Plans.length (Nat.le_refl _)
  have hl : (edP l a).length = l.Plans.length := by unfold edP ed tl; simp
  rw [List.take_of_length_le (by omega)] at h1
  -- one of the part is not marked
  obtain ⟨u, hu, hR⟩ := reps hf h (s := a.toNat) (by omega)
  rw [Int.toNat_of_nonneg ha.1] at hR
  obtain ⟨hu1, hu2⟩ := List.mem_filter.1 hu
  have hu3 := List.mem_range.1 hu1
  have hup : (u : Int) ∈ prt l a := (prt_mem hf h).2 ⟨by omega, hR⟩
  have h5 := countP_split (p := fun s : Nat => (mkd l s && decide ((s : Int) ∈ prt l a)) && decide (∃ b, b < l.Plans.length ∧ ow l s = some b)) (q := fun s => decide (s = u)) (r := fun s : Nat => decide ((s : Int) ∈ prt l a)) (fun s => by
    constructor
    · intro e
      rw [Bool.and_eq_true, Bool.and_eq_true] at e
      refine ⟨e.1.2, decide_eq_false fun q => ?_⟩
      subst q
      rw [e.1.1] at hu2; cases hu2
    · intro e
      rw [of_decide_eq_true e]; exact decide_eq_true hup) (List.range l.Segs.toNat)
  have h6 : 1 ≤ (List.range l.Segs.toNat).countP (fun s => decide (s = u)) := List.countP_pos_iff.2 ⟨u, hu1, decide_eq_true rfl⟩
  rw [← prt_nat hf h] at h5
  unfold slP
  omega
end
section
set_option maxHeartbeats 1000000
theorem reach_dv {l : LanT} {d : List Int} {a : Int} (h : DT (Jn (ed (tl l))) a l.Segs.toNat d) {s : Int} (hs : 0 ≤ s ∧ s < l.Segs) : 0 ≤ dv d s ↔ tR l a s := by
  rcases dt_dv h hs.1 (by omega) with ⟨h1, h2⟩ | ⟨n, h1, h2⟩
  · rw [h1]
    exact ⟨fun e => by omega, fun e => by
      obtain ⟨n, hn⟩ := Wk.eqv.1 e
      exact absurd hn (h2 n)⟩
  · rw [h1]
    exact ⟨fun _ => Wk.eqv.2 ⟨n, h2.1⟩, fun _ => by omega⟩
theorem tot_slP {l : LanT} (hf : FewL l) (h : LR l) {a : Int} {d : List Int} (hd : DT (Jn (ed (tl l))) a l.Segs.toNat d) : ∀ i, i ≤ l.Plans.length → tot (cpk l (opn3 l) d) i = (((((edP l a).take i).map fun q => q.length - 1).sum : Nat) : Int) := by
  intro i
  induction i with
  | zero => intro _; rfl
  | succ i ih =>
    intro hi
    obtain ⟨p, hp⟩ : ∃ p, l.Plans[i]? = some p := ⟨_, List.getElem?_eq_getElem (by omega)⟩
    have he : (ed (tl l))[i]? = some (ups (tpl l i p)) := by unfold ed; rw [List.getElem?_map, tl_get, hp]; rfl
    have hin : ∀ s ∈ ups (tpl l i p), 0 ≤ s ∧ s < l.Segs := fun s hs => by
      have := LR.bnd (tl_LR h) _ (List.mem_of_getElem? he) s hs
      have e : (tl l).Segs = l.Segs := rfl
      rw [e] at this
      omega
    have hc : cpk l (opn3 l) d i = bif (ups (tpl l i p)).any (fun s => decide (0 ≤ dv d s)) then (((ups (tpl l i p)).length : Nat) : Int) - 1 else 0 := by
      unfold cpk
      rw [hp, opn3_get hp]
      dsimp only
      rw [opn_tpl]
    show tot (cpk l (opn3 l) d) i + cpk l (opn3 l) d i = _
    rw [ih (by omega), hc]
    by_cases hm : ∃ s ∈ ups (tpl l i p), tR l a s
    · have he2 : (edP l a)[i]? = some (ups (tpl l i p)) := by unfold edP; rw [List.getElem?_map, he]; simp only [Option.map_some]; rw [if_pos hm]
      have hany : (ups (tpl l i p)).any (fun s => decide (0 ≤ dv d s)) = true := by
        obtain ⟨s, h1, h2⟩ := hm
        exact List.any_eq_true.2 ⟨s, h1, decide_eq_true ((reach_dv hd (hin s h1)).2 h2)⟩
      have hpos : 0 < (ups (tpl l i p)).length := by
        obtain ⟨s, h1, _⟩ := hm
        exact List.length_pos_of_mem h1
      rw [hany, List.take_add_one, he2, Option.toList, List.map_append, List.sum_append]
      simp only [List.map_cons, List.map_nil, List.sum_cons, List.sum_nil, Nat.add_zero, cond_true]
      omega
    · have he2 : (edP l a)[i]? = some [] := by unfold edP; rw [List.getElem?_map, he]; simp only [Option.map_some]; rw [if_neg hm]
      have hany : (ups (tpl l i p)).any (fun s => decide (0 ≤ dv d s)) = false := by
        refine List.any_eq_false.2 fun s hs e => hm ⟨s, hs, (reach_dv hd (hin s hs)).1 (of_decide_eq_true e)⟩
      rw [hany, List.take_add_one, he2, Option.toList, List.map_append, List.sum_append]
      simp only [List.map_cons, List.map_nil, List.sum_cons, List.sum_nil, List.length_nil, cond_false]
      omega
theorem reach_prt {l : LanT} (hf : FewL l) (h : LR l) {a : Int} : partI (edO l (opn3 l)) l.Segs a = prt l a := by
  rw [edO_tl]
  unfold prt
  refine partI_eq (partI_asc _ _ _) fun t => ?_
  rw [partI_mem]
  exact and_congr Iff.rfl (span hf h).symm
theorem copies_prt {l : LanT} (hf : FewL l) (h : LR l) {a : Int} (ha : 0 ≤ a ∧ a < l.Segs) : flood_Copies l (opn3 l) a = some ((((prt l a).length : Nat) : Int) - 1, 0) := by
  rw [Copies_eq hf h opn3_shp ha]
  have hd := (stepsT_eq hf h opn3_shp ha).2
  rw [edO_tl] at hd
  have hl : (edP l a).length = l.Plans.length := by unfold edP ed tl; simp
  rw [tot_slP hf h hd _ (Nat.le_refl _), List.take_of_length_le (by omega)]
  have h1 := slP_ge hf h ha
  have h2 := slP_le hf h ha
  have h3 : 0 < (prt l a).length := List.length_pos_of_mem ((prt_mem hf h).2 ⟨ha, .refl⟩)
  unfold slP at h1 h2
  congr 2
  omega
theorem fewer_shp {l : LanT} {b k : Nat} {row : List Bool} (hr : (opn3 l)[b]? = some row) : Shp l ((opn3 l).set b (row.set k false)) where
  len := by rw [List.length_set]; exact opn3_shp.len
  row c p q hp hq := by
    rw [List.getElem?_set] at hq
    split at hq
    · rename_i e
      subst e
      split at hq
      · cases hq
        rw [List.length_set]
        exact opn3_shp.row b p row hp hr
      · cases hq
    · exact opn3_shp.row c p q hp hq
theorem fewer_sub {l : LanT} {b k : Nat} {row : List Bool} (hr : (opn3 l)[b]? = some row) {x y : Int} (h : Jn (edO l ((opn3 l).set b (row.set k false))) x y) : Jn (edO l (opn3 l)) x y := by
  obtain ⟨c, p, q, hp, hq, h1, h2⟩ := jn_edO.1 h
  rw [List.getElem?_set] at hq
  split at hq
  · rename_i e
    subst e
    split at hq
    · cases hq
      have sub : ∀ s, s ∈ opn p (row.set k false) → s ∈ opn p row := fun s hs => by
        obtain ⟨j, z, hz, hj, hu, hsg⟩ := mem_opn.1 hs
        rw [List.getElem?_set] at hj
        split at hj
        · split at hj <;> cases hj
        · exact mem_opn.2 ⟨j, z, hz, hj, hu, hsg⟩
      exact jn_edO.2 ⟨b, p, row, hp, hr, sub x h1, sub y h2⟩
    · cases hq
  · exact jn_edO.2 ⟨c, p, q, hp, hq, h1, h2⟩
theorem set_same {α : Type} {l : List α} {k : Nat} {x : α} (h : l[k]? = some x) : l.set k x = l := by
  refine List.ext_getElem? fun j => ?_
  rw [List.getElem?_set]
  split
  · rename_i e
    subst e
    rw [if_pos (List.getElem?_eq_some_iff.1 h).1, h]
  · rfl
theorem FloodTree_true (a0 : LanT) (a1 a2 a3 : Int) : law17_FloodTree a0 a1 a2 a3 = some true := by
  unfold law17_FloodTree
  rw [few17_eq, Option.bind_some]
  have hf := fewL_few a0
  generalize fewL a0 = l at hf
  have hn := hf.plans
  rw [tOpen_eq l hf, Option.bind_some]
  by_cases h : LR l
  · rw [if_pos h]
    have hO : ((rols l).map fun row => row.map opB) = opn3 l := rfl
    rw [hO]
    have hsg := h.segs
    have hS := opn3_shp (l := l)
    have hol : (opn3 l).length = l.Plans.length := hS.len
    simp only [decide_true, Bool.not_true, Bool.cond_false]
    rw [decide_eq_false (show ¬ l.Segs < 1 by omega), cond_false, grd_true (show (l.Segs : Int) ≠ 0 by omega), grd_true (show (l.Segs : Int) ≠ 0 by omega)]
    obtain ⟨a, ha1, ha2⟩ := idx_ok (n := l.Segs) (by omega) (by omega) a1
    rw [ha1]
    have ha : 0 ≤ (a : Int) ∧ (a : Int) < l.Segs := ⟨by omega, ha2⟩
    show ((flood_Reach l (opn3 l) (a : Int)).bind _) = _
    rw [Reach_eq l _ _ hf, if_pos ⟨h, hS⟩, if_pos ha, reach_prt hf h, Option.bind_some]
    show ((flood_Copies l (opn3 l) (a : Int)).bind _) = _
    rw [copies_prt hf h ha, Option.bind_some, Part_eq l hf, if_pos h, if_pos ha, Option.bind_some]
    have hpl : (prt l (a : Int)).length ≤ 8 := by
      have := partI_len (ed l) l.Segs (a : Int)
      unfold prt; omega
    have hp0 : 0 < (prt l (a : Int)).length := List.length_pos_of_mem ((prt_mem hf h).2 ⟨ha, .refl⟩)
    show ((gd _ (ref06_Same (prt l (a : Int)) (prt l (a : Int)))).bind _) = _
    rw [same_eq _ _ (by omega), decide_eq_true rfl]
    simp only [decide_true, Bool.not_true, Bool.cond_false, Bool.not_false, gd_true, Option.bind_some]
    have hw : IntKind.i64.wrap ((((partI (ed l) l.Segs (a : Int)).length : Nat) : Int) - 1) = (((prt l (a : Int)).length : Nat) : Int) - 1 := wr_in (by unfold prt at *; omega) (by unfold prt at *; omega)
    rw [hw]
    simp only [decide_true, Bool.not_true, Bool.cond_false, Bool.not_false, gd_true, alive17, Option.bind_some]
    show (bif decide ((((opn3 l).length : Nat) : Int) = 0) then some true else _) = _
    by_cases h0 : l.Plans.length = 0
    · rw [decide_eq_true (by rw [hol]; omega)]; rfl
    · have hne : (((opn3 l).length : Nat) : Int) ≠ 0 := by rw [hol]; omega
      rw [decide_eq_false hne, cond_false, grd_true hne, grd_true hne]
      obtain ⟨b, hb1, hb2⟩ := idx_ok (n := (((opn3 l).length : Nat) : Int)) (by omega) (by omega) a2
      have hbl : b < l.Plans.length := by omega
      obtain ⟨p, hp⟩ : ∃ p, l.Plans[b]? = some p := ⟨_, List.getElem?_eq_getElem hbl⟩
      obtain ⟨row, hrow⟩ : ∃ row, (opn3 l)[b]? = some row := ⟨_, opn3_get hp⟩
      have hrl := hS.row b p row hp hrow
      have hpo := (h.planOk hp).2.1
      simp only [hb1]
      have hg : gix (opn3 l) ((b : Nat) : Int) = some row := by rw [gix_nat]; exact hrow
      rw [hg, Option.bind_some]
      have hne2 : ((row.length : Nat) : Int) ≠ 0 := by omega
      rw [decide_eq_false hne2, cond_false, grd_true hne2, grd_true hne2]
      obtain ⟨k, hk1, hk2⟩ := idx_ok (n := ((row.length : Nat) : Int)) (by omega) (by omega) a3
      have hkl : k < row.length := by omega
      obtain ⟨was, hwas⟩ : ∃ w, row[k]? = some w := ⟨_, List.getElem?_eq_getElem hkl⟩
      simp only [hk1]
      rw [gix_nat, hwas, Option.bind_some]
      simp only [List.nil_append, Int.toNat_natCast]
      rw [grd_true (fits_of (by omega) (by decide)), grd_true (fits_of (by omega) (by decide)), grd_true ⟨by omega, by omega⟩]
      have hg2 : gixN (opn3 l) b = some row := hrow
      rw [hg2, Option.bind_some, grd_true ⟨by omega, by omega⟩, grd_true ⟨by omega, by omega⟩]
      have hg3 : gixN row k = some was := hwas
      rw [hg3, Option.bind_some]
      show ((flood_Reach l ((opn3 l).set b (row.set k false)) (a : Int)).bind _) = _
      rw [Reach_eq l _ _ hf, if_pos ⟨h, fewer_shp hrow⟩, if_pos ha, Option.bind_some]
      have hsub : ∀ t, t ∈ partI (edO l ((opn3 l).set b (row.set k false))) l.Segs (a : Int) → t ∈ prt l (a : Int) := fun t ht => by
        obtain ⟨t1, t2⟩ := partI_mem.1 ht
        rw [← reach_prt hf h]
        exact partI_mem.2 ⟨t1, Eqv.mono (fun x y q => .one (fewer_sub hrow q)) t2⟩
      have hle : (partI (edO l ((opn3 l).set b (row.set k false))) l.Segs (a : Int)).length ≤ (prt l (a : Int)).length :=
        nodup_len ((partI_asc _ _ _).imp fun q e => by omega) hsub
      have hfin : was = false → partI (edO l ((opn3 l).set b (row.set k false))) l.Segs (a : Int) = prt l (a : Int) := fun e => by
        rw [e] at hwas
        rw [set_same hwas, set_same hrow, reach_prt hf h]
      generalize partI (edO l ((opn3 l).set b (row.set k false))) l.Segs (a : Int) = F at *
      simp only [decide_true, Bool.not_true, Bool.cond_false]
      rw [decide_eq_false (show ¬ (((prt l (a : Int)).length : Nat) : Int) < ((F.length : Nat) : Int) by omega), cond_false]
      rw [rangeL_all (by omega) (fun _ => true) false (fun j x hx => by
        unfold law17_FloodTree_c0
        dsimp only
        rw [has_eq _ _ (by omega), decide_eq_true (hsub x (List.mem_of_getElem? hx))]; rfl)]
      have hall : F.all (fun _ => true) = true := by induction F <;> simp_all
      rw [hall]
      simp only [cond_true, aft_some_nxt]
      cases was with
      | true => rfl
      | false => rw [hfin rfl, decide_eq_true rfl]; rfl
  · rw [if_neg h]
    simp [alive17]
end
end Go.RX
