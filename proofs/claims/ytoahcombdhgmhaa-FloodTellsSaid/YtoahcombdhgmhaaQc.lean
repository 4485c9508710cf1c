/- What the functions of layer 17 answer, plainly. -/
import Derived.Test.YtoahcombdhgmhaaQa
set_option linter.unusedVariables false
set_option linter.unusedSimpArgs false
open Go Go.RX
namespace Go.RX
theorem few17_eq (l : LanT) : law17_few l = some (fewL l) := by
  unfold law17_few
  rw [grd_true (mn_ok _ _ (by decide)), show (8 : Int) = ((8 : Nat) : Int) from rfl, take_mn,
    rangeL_map (f := fun p : PlanT => (⟨p.ID, p.Ports.take 10⟩ : PlanT)) (by rw [List.length_take]; omega) (fun k x s hx hk => by
      have hk8 : k < 8 := by have := (List.getElem?_eq_some_iff.1 hx).1; rw [List.length_take] at this; omega
      unfold law17_few_b14
      rw [grd_true (mn_ok _ _ (by decide)), grd_true (fits_of (by simp; omega) (by decide)), show (10 : Int) = ((10 : Nat) : Int) from rfl, take_mn]),
    aft_some_nxt, grd_true (mn_ok _ _ (by decide)), show (12 : Int) = ((12 : Nat) : Int) from rfl, take_mn]
  rfl
def rowsL (o : List (List Bool)) : List (List Bool) := (o.take 8).map fun x => x.take 10
structure FewO (o : List (List Bool)) : Prop where
  len : o.length ≤ 8
  row : ∀ x ∈ o, x.length ≤ 10
theorem rowsL_few (o : List (List Bool)) : FewO (rowsL o) where
  len := by unfold rowsL; rw [List.length_map, List.length_take]; omega
  row x hx := by
    obtain ⟨y, _, rfl⟩ := List.mem_map.1 hx
    rw [List.length_take]; omega
theorem rows_eq (o : List (List Bool)) : law17_rows o = some (rowsL o) := by
  unfold law17_rows
  rw [grd_true (mn_ok _ _ (by decide)), show (8 : Int) = ((8 : Nat) : Int) from rfl, take_mn,
    rangeL_map (f := fun x : List Bool => x.take 10) (by rw [List.length_take]; omega) (fun k x s hx hk => by
      have hk8 : k < 8 := by have := (List.getElem?_eq_some_iff.1 hx).1; rw [List.length_take] at this; omega
      unfold law17_rows_b15
      rw [grd_true (mn_ok _ _ (by decide)), grd_true (fits_of (by rw [List.length_append]; simp; omega) (by decide)), show (10 : Int) = ((10 : Nat) : Int) from rfl, take_mn]), aft_some_nxt]
  rfl
open Classical in
theorem fmay_eq (l : LanT) (o : List (List Bool)) (ss : List Int) (hf : FewL l) (hss : ss.length ≤ 100) : flood_may l o ss = some (if LR l ∧ Shp l o then (if ∀ s ∈ ss, 0 ≤ s ∧ s < l.Segs then 0 else 3) else 1) := by
  unfold flood_may
  rw [LanRight_eq l hf, Option.bind_some]
  have hpl := hf.plans
  by_cases h : LR l
  · rw [decide_eq_true h]
    by_cases hl : o.length = l.Plans.length
    · rw [decide_eq_true (show ((o.length : Nat) : Int) = ((l.Plans.length : Nat) : Int) by omega)]
      simp only [Bool.not_true, cond_false]
      rcases rangeL_find (s0 := ()) (body := flood_may_b16 o) (xs := l.Plans) (by omega) (fun k p => !decide ((o[k]?.getD []).length = p.Ports.length)) (fun _ _ => 1) (fun k p hk => by
        have hkl := (List.getElem?_eq_some_iff.1 hk).1
        unfold flood_may_b16
        rw [gix_nat, List.getElem?_eq_getElem (show k < o.length by omega), Option.bind_some]
        have : (decide ((((o[k]'(by omega)).length : Nat) : Int) = ((p.Ports.length : Nat) : Int))) = decide ((o[k]'(by omega)).length = p.Ports.length) := decide_eq_decide.2 (by omega)
        rw [this]
        simp only [Option.getD_some]
        cases decide ((o[k]'(by omega)).length = p.Ports.length) <;> rfl) with ⟨k, p, hk, hp, _, h2⟩ | ⟨hp, h2⟩
      · rw [h2, aft_some_ret, if_neg]
        rintro ⟨_, hs⟩
        have hkl := (List.getElem?_eq_some_iff.1 hk).1
        have hok : o[k]? = some (o[k]'(by omega)) := List.getElem?_eq_getElem (by omega)
        have := hs.row k p _ hk hok
        rw [hok] at hp
        simp [this] at hp
      · have hS : Shp l o := ⟨hl, fun b p q h3 h4 => by
          have := hp b p h3
          rw [h4] at this
          simpa using this⟩
        rw [h2, aft_some_nxt, if_pos ⟨h, hS⟩]
        have hc : slices_ContainsFunc_int ss (fun x => flood_may_1 x l) = some (ss.any fun s => (bif (decide (s < 0)) then true else (decide (l.Segs ≤ s)))) :=
          (show slices_ContainsFunc_int ss (fun x => flood_may_1 x l) = conG (fun x => flood_may_1 x l) ss from rfl).trans (conG_eq (by omega) (fun x _ => rfl))
        rw [hc, Option.bind_some]
        by_cases ha : ∀ s ∈ ss, 0 ≤ s ∧ s < l.Segs
        · rw [if_pos ha, List.any_eq_false.2 fun s hs => by
            have := ha s hs
            rw [decide_eq_false (show ¬ s < 0 by omega), decide_eq_false (show ¬ l.Segs ≤ s by omega)]; simp]
          rfl
        · rw [if_neg ha]
          have : ss.any (fun s => (bif (decide (s < 0)) then true else (decide (l.Segs ≤ s)))) = true := by
            rw [List.any_eq_true]
            simp only [Classical.not_forall] at ha
            obtain ⟨s, hs, hn⟩ := ha
            refine ⟨s, hs, ?_⟩
            by_cases h1 : s < 0
            · rw [decide_eq_true h1]; rfl
            · rw [decide_eq_false h1, decide_eq_true (show l.Segs ≤ s by omega)]; rfl
          rw [this]; rfl
    · rw [decide_eq_false (show ¬ ((o.length : Nat) : Int) = ((l.Plans.length : Nat) : Int) by omega), if_neg (fun hh => hl hh.2.len)]; rfl
  · rw [decide_eq_false h, if_neg (fun hh => h hh.1)]; rfl
/-- How far all segments are. -/
def stepsT (l : LanT) (o : List (List Bool)) (a : Int) : List Int := (flood_steps l o a).getD []
theorem stepsT_eq {l : LanT} {o : List (List Bool)} (hf : FewL l) (h : LR l) (hs : Shp l o) {a : Int} (ha : 0 ≤ a ∧ a < l.Segs) : flood_steps l o a = some (stepsT l o a) ∧ DT (Jn (edO l o)) a l.Segs.toNat (stepsT l o a) := by
  obtain ⟨d, h1, h2⟩ := steps_eq l o hf h hs a ha
  have : stepsT l o a = d := by unfold stepsT; rw [h1]; rfl
  rw [this]; exact ⟨h1, h2⟩
open Classical in
theorem Steps_eq (l : LanT) (o : List (List Bool)) (a : Int) (hf : FewL l) : flood_Steps l o a = some (if LR l ∧ Shp l o then (if 0 ≤ a ∧ a < l.Segs then (stepsT l o a, 0) else ([], 3)) else ([], 1)) := by
  unfold flood_Steps
  rw [fmay_eq l o [a] hf (by simp), Option.bind_some]
  by_cases h : LR l ∧ Shp l o
  · rw [if_pos h, if_pos h]
    by_cases ha : 0 ≤ a ∧ a < l.Segs
    · rw [if_pos (by simpa using ha), if_pos ha, (stepsT_eq hf h.1 h.2 ha).1]; rfl
    · rw [if_neg (by simpa using ha), if_neg ha]; rfl
  · rw [if_neg h, if_neg h]; rfl
theorem dt_reach {G : Int → Int → Prop} {a : Int} {N : Nat} {d : List Int} (h : DT G a N d) {s : Nat} (hs : s < N) : ∃ v, d[s]? = some v ∧ (0 ≤ v ↔ Eqv G a s) := by
  rcases h.2 s hs with ⟨h1, h2⟩ | ⟨n, h1, h2⟩
  · exact ⟨-1, h1, ⟨fun h => by omega, fun hr => by obtain ⟨n, hn⟩ := Wk.eqv.1 hr; exact absurd hn (h2 n)⟩⟩
  · exact ⟨n, h1, ⟨fun _ => Wk.eqv.2 ⟨n, h2.1⟩, fun _ => by omega⟩⟩
theorem reachRow {ρ : Type} {body : Nat → List Int → Option (Step ρ (List Int))} {E : List (List Int)} {a N : Int} {d : List Int} (hN : 0 ≤ N ∧ N ≤ 8) (h : DT (Jn E) a N.toNat d)
    (hb : ∀ (k : Nat) (v : Int) (s : List Int), (k : Int) < N → d[k]? = some v → s.length ≤ 100 → body k s = some (bif decide (0 ≤ v) then .nxt (s ++ [(k : Int)]) else .nxt s)) : rangeN body N [] = some (.nxt (partI E N a)) := by
  obtain ⟨t, h1, h2, h3, h4⟩ := rangeN_inv (body := body) (n := N) (s0 := []) (by omega) (fun k t => t.length ≤ k ∧ t.Pairwise (· < ·) ∧ ∀ x, x ∈ t ↔ (0 ≤ x ∧ x < (k : Int)) ∧ Rc E a x) ⟨by simp, by simp, fun x => by simp; omega⟩ (fun k t hk ⟨t1, t2, t3⟩ => by
    obtain ⟨v, hv, hr⟩ := dt_reach h (s := k) (by omega)
    rw [hb k v t hk hv (by omega)]
    by_cases h0 : 0 ≤ v
    · rw [decide_eq_true h0]
      refine ⟨_, rfl, by rw [List.length_append]; simp; omega, ?_, fun x => ?_⟩
      · rw [List.pairwise_append]
        refine ⟨t2, by simp, fun x hx y hy => ?_⟩
        obtain rfl := List.mem_singleton.1 hy
        have := ((t3 x).1 hx).1; omega
      · rw [List.mem_append, List.mem_singleton, t3]
        constructor
        · rintro (h1 | rfl)
          · exact ⟨⟨h1.1.1, by omega⟩, h1.2⟩
          · exact ⟨⟨by omega, by omega⟩, hr.1 h0⟩
        · rintro ⟨h1, h2⟩
          by_cases e : x = (k : Int)
          · exact .inr e
          · exact .inl ⟨⟨h1.1, by omega⟩, h2⟩
    · rw [decide_eq_false h0]
      refine ⟨_, rfl, by omega, t2, fun x => ?_⟩
      rw [t3]
      constructor
      · rintro ⟨h1, h2⟩; exact ⟨⟨h1.1, by omega⟩, h2⟩
      · rintro ⟨h1, h2⟩
        by_cases e : x = (k : Int)
        · subst e; exact absurd (hr.2 h2) h0
        · exact ⟨⟨h1.1, by omega⟩, h2⟩)
  rw [h1]
  have : t = partI E N a := partI_eq h3 fun x => by rw [h4]; rw [Int.toNat_of_nonneg hN.1]
  rw [this]
open Classical in
theorem Reach_eq (l : LanT) (o : List (List Bool)) (a : Int) (hf : FewL l) : flood_Reach l o a = some (if LR l ∧ Shp l o then (if 0 ≤ a ∧ a < l.Segs then (partI (edO l o) l.Segs a, 0) else ([], 3)) else ([], 1)) := by
  unfold flood_Reach
  rw [fmay_eq l o [a] hf (by simp), Option.bind_some]
  by_cases h : LR l ∧ Shp l o
  · rw [if_pos h, if_pos h]
    by_cases ha : 0 ≤ a ∧ a < l.Segs
    · have hseg := h.1.segs
      obtain ⟨e1, e2⟩ := stepsT_eq hf h.1 h.2 ha
      rw [if_pos (by simpa using ha), if_pos ha, e1, decide_eq_true rfl, Bool.not_true, cond_false, Option.bind_some,
        reachRow (E := edO l o) (a := a) (d := stepsT l o a) (by omega) e2 (fun k v s hk hv hs => by
          unfold flood_Reach_b20
          have hl := e2.1
          rw [grd_true ⟨by omega, by omega⟩, Int.toNat_natCast]
          unfold gixN
          rw [hv, Option.bind_some, grd_true (fits_of (by rw [List.length_append]; simp; omega) (by decide))]
          cases decide (0 ≤ v) <;> rfl)]
      rfl
    · rw [if_neg (by simpa using ha), if_neg ha]; rfl
  · rw [if_neg h, if_neg h]; rfl
theorem has_eq (l : List Int) (a : Int) (hl : l.length ≤ 1000000) : ref06_Has l a = some (decide (a ∈ l)) := by
  unfold ref06_Has
  rcases rangeL_find (s0 := ()) (body := ref06_Has_b12 a) hl (fun _ x => decide (x = a)) (fun _ _ => true) (fun k x hx => by
    unfold ref06_Has_b12; cases decide (x = a) <;> rfl) with ⟨k, x, hx, hp, _, h⟩ | ⟨hp, h⟩
  · rw [h, aft_some_ret, decide_eq_true (of_decide_eq_true hp ▸ List.mem_of_getElem? hx)]
  · rw [h, aft_some_nxt, decide_eq_false (fun hx => by obtain ⟨k, hk⟩ := List.getElem?_of_mem hx; exact absurd rfl (of_decide_eq_false (hp k a hk)))]
theorem same_eq (x y : List Int) (hl : x.length ≤ 1000000) : ref06_Same x y = some (decide (x = y)) := by
  unfold ref06_Same
  by_cases h : x.length = y.length
  · rw [decide_eq_true (show ((x.length : Nat) : Int) = ((y.length : Nat) : Int) by omega), Bool.not_true, cond_false]
    rcases rangeL_find (s0 := ()) (body := ref06_Same_b13 y) hl (fun k a => !decide (y[k]? = some a)) (fun _ _ => false) (fun k a hk => by
      have hlt : k < y.length := by have := (List.getElem?_eq_some_iff.1 hk).1; omega
      unfold ref06_Same_b13
      rw [gix_lt hlt, Option.bind_some, List.getElem?_eq_getElem hlt]
      by_cases e : a = y[k]
      · subst e; simp
      · have e' : ¬ y[k] = a := fun h => e h.symm
        simp [e, e']) with ⟨k, a, hx, hp, _, h2⟩ | ⟨hp, h2⟩
    · rw [h2, aft_some_ret]
      have : ¬ x = y := fun e => by subst e; rw [hx] at hp; simp at hp
      rw [decide_eq_false this]
    · rw [h2, aft_some_nxt]
      have : x = y := List.ext_getElem? fun k => by
        by_cases hk : k < x.length
        · have := hp k x[k] (List.getElem?_eq_getElem hk)
          simp only [Bool.not_eq_false', decide_eq_true_eq] at this
          rw [List.getElem?_eq_getElem hk, this]
        · rw [List.getElem?_eq_none (by omega), List.getElem?_eq_none (by omega)]
      rw [decide_eq_true this]
  · have : ¬ x = y := fun e => h (by rw [e])
    rw [decide_eq_false (show ¬ ((x.length : Nat) : Int) = ((y.length : Nat) : Int) by omega), decide_eq_false this]; rfl
theorem partI_len (E : List (List Int)) (N s : Int) : (partI E N s).length ≤ N.toNat := by
  have := List.length_filter_le (fun t => @decide (Rc E s t) (Classical.propDecidable _)) (upI N)
  have hu : (upI N).length = N.toNat := by simp [upI]
  show (List.filter _ _).length ≤ _
  omega
theorem alive17 : law17_alive = some true := by
  unfold law17_alive
  have hf : FewL (⟨2, [⟨1, [⟨0, 1, true⟩, ⟨1, 1, true⟩]⟩], []⟩ : LanT) := ⟨by simp, by simp, by simp⟩
  have hl : LR (⟨2, [⟨1, [⟨0, 1, true⟩, ⟨1, 1, true⟩]⟩], []⟩ : LanT) := by decide
  have hs : Shp (⟨2, [⟨1, [⟨0, 1, true⟩, ⟨1, 1, true⟩]⟩], []⟩ : LanT) [[true, true]] := ⟨rfl, fun b p q h1 h2 => by
    match b, h1, h2 with
    | 0, h1, h2 => simp at h1 h2; subst h1; subst h2; rfl
    | b + 1, h1, _ => simp at h1⟩
  rw [Steps_eq _ _ _ hf, if_pos ⟨hl, hs⟩, if_pos (by decide), Option.bind_some]
  have h2 := (stepsT_eq hf hl hs (a := 0) (by decide)).2
  have hd : stepsT (⟨2, [⟨1, [⟨0, 1, true⟩, ⟨1, 1, true⟩]⟩], []⟩ : LanT) [[true, true]] 0 = [0, 1] := by
    refine h2.uniq ⟨rfl, fun s hs => ?_⟩
    have hs : s < 2 := hs
    match s, hs with
    | 0, _ => exact .inr ⟨0, rfl, .zero⟩
    | 1, _ =>
      refine .inr ⟨1, rfl, .succ .zero ⟨[0, 1], by simp [edO, opn], by simp, by simp⟩, fun m hm hw => ?_⟩
      obtain rfl : m = 0 := by omega
      have := Dist.zero_iff.1 (show Dist _ 0 0 ((1 : Nat) : Int) from ⟨hw, fun m hm => absurd hm (Nat.not_lt_zero _)⟩)
      simp at this
  dsimp only
  rw [hd, same_eq _ _ (by simp)]
  rfl
end Go.RX
