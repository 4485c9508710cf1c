/- The law LanParts, plainly. -/
import Derived.Test.YtoahcombdhgmhaaPb
import Derived.Test.YtoahcombdhgmhaaLc
set_option linter.unusedVariables false
set_option linter.unusedSimpArgs false
open Go Go.RX
namespace Go.RX
theorem has_eq (l : List Int) (a : Int) (hl : l.length ≤ 1000000) : ref06_Has l a = some (decide (a ∈ l)) := by
  unfold ref06_Has
  rcases rangeL_find (s0 := ()) (body := ref06_Has_b12 a) hl (fun _ x => decide (x = a)) (fun _ _ => true) (fun k x hx => by
    unfold ref06_Has_b12; cases decide (x = a) <;> rfl) with ⟨k, x, hx, hp, _, h⟩ | ⟨hp, h⟩
  · rw [h, aft_some_ret, decide_eq_true (of_decide_eq_true hp ▸ List.mem_of_getElem? hx)]
  · rw [h, aft_some_nxt, decide_eq_false (fun hx => by obtain ⟨k, hk⟩ := List.getElem?_of_mem hx; exact absurd rfl (of_decide_eq_false (hp k a hk)))]
theorem same_eq (x y : List Int) (hl : x.length ≤ 1000000) : ref06_Same x y = some (decide (x = y)) := by
  unfold ref06_Same
  by_cases h : x.length = y.length
  · rw [decide_eq_true (show ((x.length : Nat) : Int) = ((y.length : Nat) : Int) by omega), Bool.not_true, cond_false]
    rcases rangeL_find (s0 := ()) (body := ref06_Same_b13 y) hl (fun k a => !decide (y[k]? = some a)) (fun _ _ => false) (fun k a hk => by
      have hlt : k < y.length := by have := (List.getElem?_eq_some_iff.1 hk).1; omega
      unfold ref06_Same_b13
      rw [gix_lt hlt, Option.bind_some, List.getElem?_eq_getElem hlt]
      by_cases e : a = y[k]
      · subst e; simp
      · have e' : ¬ y[k] = a := fun h => e h.symm
        simp [e, e']) with ⟨k, a, hx, hp, _, h2⟩ | ⟨hp, h2⟩
    · rw [h2, aft_some_ret]
      have : ¬ x = y := fun e => by subst e; rw [hx] at hp; simp at hp
      rw [decide_eq_false this]
    · rw [h2, aft_some_nxt]
      have : x = y := List.ext_getElem? fun k => by
        by_cases hk : k < x.length
        · have := hp k x[k] (List.getElem?_eq_getElem hk)
          simp only [Bool.not_eq_false', decide_eq_true_eq] at this
          rw [List.getElem?_eq_getElem hk, this]
        · rw [List.getElem?_eq_none (by omega), List.getElem?_eq_none (by omega)]
      rw [decide_eq_true this]
  · have : ¬ x = y := fun e => h (by rw [e])
    rw [decide_eq_false (show ¬ ((x.length : Nat) : Int) = ((y.length : Nat) : Int) by omega), decide_eq_false this]; rfl
theorem partI_len (E : List (List Int)) (N s : Int) : (partI E N s).length ≤ N.toNat := by
  have := List.length_filter_le (fun t => @decide (Rc E s t) (Classical.propDecidable _)) (upI N)
  have hu : (upI N).length = N.toNat := by simp [upI]
  show (List.filter _ _).length ≤ _
  omega
theorem on_eq (s : Int) (p : PlanT) (hp : p.Ports.length ≤ 1000000) : law15_LanParts_1 s p = some (decide (s ∈ ups p)) := by
  unfold law15_LanParts_1
  rcases rangeL_find (s0 := ()) (body := law15_LanParts_1_b17 s) hp (fun _ x => x.Up && decide (x.Seg = s)) (fun _ _ => true) (fun k x hx => by
    unfold law15_LanParts_1_b17; cases x.Up <;> cases decide (x.Seg = s) <;> rfl) with ⟨k, x, hx, hp, _, h⟩ | ⟨hp, h⟩
  · simp only [Bool.and_eq_true, decide_eq_true_eq] at hp
    rw [h, aft_some_ret, decide_eq_true (mem_ups.2 ⟨x, List.mem_of_getElem? hx, hp.1, hp.2⟩)]
  · rw [h, aft_some_nxt, decide_eq_false (fun hm => by
      obtain ⟨x, hx, hu, e⟩ := mem_ups.1 hm
      obtain ⟨k, hk⟩ := List.getElem?_of_mem hx
      have := hp k x hk
      simp [hu, e] at this)]
theorem LanParts_true (a0 : LanT) (a1 a2 : Int) : law15_LanParts a0 a1 a2 = some true := by
  unfold law15_LanParts
  rw [few_eq, Option.bind_some]
  have hf := fewL_few a0
  generalize fewL a0 = l at hf ⊢
  rw [LanRight_eq l hf, Option.bind_some, Parts_eq l hf, alive15]
  by_cases h : LR l
  · rw [decide_eq_true h, if_pos h, Bool.not_true, cond_false]
    have hseg := h.segs
    have e0 : l.Segs ≠ 0 := by omega
    obtain ⟨a, ha, hal⟩ := idx_ok (n := l.Segs) (by omega) (by omega) a1
    obtain ⟨b, hb, hbl⟩ := idx_ok (n := l.Segs) (by omega) (by omega) a2
    rw [grd_true e0, grd_true e0, grd_true e0, grd_true e0]
    simp only [ha, hb]
    rw [Part_eq l hf, if_pos h, if_pos ⟨by omega, hal⟩, Option.bind_some, Part_eq l hf, if_pos h, if_pos ⟨by omega, hbl⟩, Option.bind_some, Option.bind_some]
    have lx : (partI (ed l) l.Segs a).length ≤ 1000000 := by have := partI_len (ed l) l.Segs a; omega
    have ly : (partI (ed l) l.Segs b).length ≤ 1000000 := by have := partI_len (ed l) l.Segs b; omega
    have ax : (a : Int) ∈ partI (ed l) l.Segs a := partI_mem.2 ⟨⟨by omega, hal⟩, .refl⟩
    have by' : (b : Int) ∈ partI (ed l) l.Segs b := partI_mem.2 ⟨⟨by omega, hbl⟩, .refl⟩
    have hbx : (b : Int) ∈ partI (ed l) l.Segs a ↔ Rc (ed l) a b := partI_mem.trans ⟨fun h => h.2, fun h => ⟨⟨by omega, hbl⟩, h⟩⟩
    have hsame : partI (ed l) l.Segs a = partI (ed l) l.Segs b ↔ Rc (ed l) a b := by
      constructor
      · intro e; rw [← e] at by'; exact hbx.1 by'
      · intro hr
        exact partI_eq (partI_asc _ _ _) fun t => partI_mem.trans (and_congr_right fun _ => ⟨fun k => hr.symm.trans k, fun k => hr.trans k⟩)
    have l14 : rangeL (law15_LanParts_b14 a2 l (partI (ed l) l.Segs a, 0) (partI (ed l) l.Segs b, 0)) (partI (ed l) l.Segs a) () = some (.nxt ()) := by
      rcases rangeL_find (s0 := ()) (body := law15_LanParts_b14 a2 l (partI (ed l) l.Segs a, 0) (partI (ed l) l.Segs b, 0)) lx (fun _ _ => false) (fun _ _ => false) (fun k s hs => by
        unfold law15_LanParts_b14
        simp only [hb]
        rw [has_eq _ _ lx, has_eq _ _ ly, Option.bind_some, gd_some, Option.bind_some]
        by_cases hr : Rc (ed l) a b
        · rw [decide_eq_true (hbx.2 hr)]; rfl
        · have : s ∉ partI (ed l) l.Segs b := fun hm => hr ((partI_mem.1 (List.mem_of_getElem? hs)).2.trans (partI_mem.1 hm).2.symm)
          rw [decide_eq_false this]; cases decide ((b : Int) ∈ partI (ed l) l.Segs a) <;> rfl) with ⟨_, _, _, h, _⟩ | ⟨_, h⟩
      · cases h
      · exact h
    have l15 : rangeN (law15_LanParts_b15 l) l.Segs 0 = some (.nxt ((partsN l : Nat) : Int)) := by
      have := rangeN_up (ρ := Bool) (body := law15_LanParts_b15 l) (n := l.Segs) (s0 := 0) (by omega) (fun k => ((cnt (Rc (ed l)) k : Nat) : Int)) rfl (fun k hk => by
        unfold law15_LanParts_b15
        have hc := cnt_le (R := Rc (ed l)) k
        obtain ⟨z, z1, z2⟩ := partI_head (E := ed l) (N := l.Segs) (s := k) hk
        rw [Part_eq l hf, if_pos h, if_pos ⟨by omega, hk⟩, Option.bind_some]
        have hne : ¬ (((partI (ed l) l.Segs k).length : Nat) : Int) = 0 := by have := (List.getElem?_eq_some_iff.1 z1).1; omega
        rw [decide_eq_true rfl, decide_eq_false hne, gix_of (Int.le_refl 0) z1]
        simp only [Bool.not_true, cond_false, Option.bind_some]
        by_cases hz : z = (k : Int)
        · rw [decide_eq_true hz, cond_true, w64_succ (by omega) (by omega)]; simp [cnt, z2.1 hz]
        · have : ¬ Lst (Rc (ed l)) k := fun h => hz (z2.2 h)
          rw [decide_eq_false hz]; simp [cnt, this])
      exact this
    have l16 : rangeL (law15_LanParts_b16 a1 a2 l (partI (ed l) l.Segs a, 0)) l.Plans () = some (.nxt ()) := by
      rcases rangeL_find (s0 := ()) (body := law15_LanParts_b16 a1 a2 l (partI (ed l) l.Segs a, 0)) (xs := l.Plans) (by have := hf.plans; omega) (fun _ _ => false) (fun _ _ => false) (fun k p hp => by
        have hm := List.mem_of_getElem? hp
        have hpl := hf.ports p hm
        unfold law15_LanParts_b16
        simp only [ha, hb]
        rw [on_eq _ _ (by omega), on_eq _ _ (by omega), has_eq _ _ lx, Option.bind_some, gd_some, Option.bind_some, gd_some, Option.bind_some]
        by_cases q1 : (a : Int) ∈ ups p
        · by_cases q2 : (b : Int) ∈ ups p
          · have : Rc (ed l) a b := .one (jn_ed.2 ⟨p, hm, q1, q2⟩)
            rw [decide_eq_true (hbx.2 this), decide_eq_true q1, decide_eq_true q2]; rfl
          · rw [decide_eq_true q1, decide_eq_false q2]; rfl
        · rw [decide_eq_false q1]; rfl) with ⟨_, _, _, h, _⟩ | ⟨_, h⟩
      · cases h
      · exact h
    dsimp only
    rw [has_eq _ _ lx, has_eq _ _ ly, has_eq _ _ lx, same_eq _ _ lx, decide_eq_true ax, decide_eq_true by', decide_eq_true rfl]
    simp only [Bool.not_true, Bool.not_false, cond_false, cond_true, gd_true, Option.bind_some]
    have e1 : decide ((b : Int) ∈ partI (ed l) l.Segs a) = decide (partI (ed l) l.Segs a = partI (ed l) l.Segs b) := by
      rw [Bool.eq_iff_iff, decide_eq_true_eq, decide_eq_true_eq, hbx, hsame]
    rw [e1]
    simp only [BEq.rfl, Bool.not_true, cond_false]
    rw [l14, aft_some_nxt, l15, aft_some_nxt, l16, aft_some_nxt, decide_eq_true rfl]
  · rw [decide_eq_false h, if_neg h]; rfl
end Go.RX
