/- The law FloodBoth, plainly. -/
import Derived.Test.YtoahcombdhgmhaaQe
import Derived.Test.YtoahcombdhgmhaaFd
set_option linter.unusedVariables false
set_option linter.unusedSimpArgs false
open Go Go.RX
namespace Go.RX
theorem in17_eq (s n : Int) : law17_in s n = some (decide (0 ≤ s ∧ s < n)) := by
  unfold law17_in
  by_cases h : 0 ≤ s <;> simp [h]
theorem opn_sub {p : PlanT} {o : List Bool} {s : Int} (h : s ∈ opn p o) : s ∈ ups p := by
  obtain ⟨k, x, hx, _, hu, hs⟩ := mem_opn.1 h
  exact mem_ups.2 ⟨x, List.mem_of_getElem? hx, hu, hs⟩
theorem edO_sub {l : LanT} {o : List (List Bool)} {a b : Int} (h : Rc (edO l o) a b) : Rc (ed l) a b :=
  Eqv.mono (fun x y hj => by
    obtain ⟨c, p, q, h1, _, h3, h4⟩ := jn_edO.1 hj
    exact .one (jn_ed.2 ⟨p, List.mem_of_getElem? h1, opn_sub h3, opn_sub h4⟩)) h
theorem dv_idx {d : List Int} {a : Nat} {N : Nat} (hl : d.length = N) (ha : a < N) : gix d ((a : Nat) : Int) = some (dv d a) := by
  rw [gix_nat, List.getElem?_eq_getElem (by omega)]; unfold dv; rw [Int.toNat_natCast, List.getElem?_eq_getElem (by omega)]; rfl
theorem FloodBoth_true (a0 : LanT) (a1 : List (List Bool)) (a2 a3 : Int) : law17_FloodBoth a0 a1 a2 a3 = some true := by
  unfold law17_FloodBoth
  rw [few17_eq, Option.bind_some, rows_eq, Option.bind_some]
  have hf := fewL_few a0
  have hr := rowsL_few a1
  generalize fewL a0 = l at hf ⊢
  generalize rowsL a1 = o at hr ⊢
  by_cases h : LR l ∧ Shp l o
  · have hseg := h.1.segs
    have hN : ((l.Segs.toNat : Nat) : Int) = l.Segs := by omega
    obtain ⟨cn, hcn⟩ := Copies_ex l o hf h
    obtain ⟨a, ha, hal⟩ := idx_ok (n := l.Segs) (by omega) (by omega) a2
    obtain ⟨b, hb, hbl⟩ := idx_ok (n := l.Segs) (by omega) (by omega) a3
    have e0 : l.Segs ≠ 0 := by omega
    rw [hcn, Option.bind_some]
    dsimp only
    rw [decide_eq_true rfl, decide_eq_false (show ¬ l.Segs < 1 by omega)]
    simp only [Bool.not_true, cond_false]
    rw [grd_true e0, grd_true e0, ha, Option.bind_some, grd_true e0, grd_true e0, hb, Option.bind_some]
    have ha' : (0 : Int) ≤ (a : Int) ∧ (a : Int) < l.Segs := ⟨by omega, hal⟩
    have hb' : (0 : Int) ≤ (b : Int) ∧ (b : Int) < l.Segs := ⟨by omega, hbl⟩
    obtain ⟨_, d1⟩ := stepsT_eq hf h.1 h.2 ha'
    obtain ⟨_, d2⟩ := stepsT_eq hf h.1 h.2 hb'
    have hG := edO_bnd (o := o) h.1
    have hpath := Path_eq l o hf h ha' hb'
    rw [Reach_eq l o _ hf, if_pos h, if_pos ha', Option.bind_some, Reach_eq l o _ hf, if_pos h, if_pos hb', Option.bind_some, Steps_eq l o _ hf, if_pos h, if_pos ha', Option.bind_some, Steps_eq l o _ hf, if_pos h, if_pos hb', Option.bind_some]
    have hsub : ∀ x, x ∈ partI (edO l o) l.Segs a → x ∈ partI (ed l) l.Segs a := fun x hx => by
      obtain ⟨h1, h2⟩ := partI_mem.1 hx
      exact partI_mem.2 ⟨h1, edO_sub h2⟩
    have hla := partI_len (edO l o) l.Segs a
    have hlb := partI_len (edO l o) l.Segs b
    have hlp := partI_len (ed l) l.Segs a
    have hz0 : dv (stepsT l o a) a = 0 := by
      rcases dt_dv d1 ha'.1 (by omega) with ⟨_, h2⟩ | ⟨n, h1, h2⟩
      · exact absurd Wk.zero (h2 0)
      · have := h2.uniq Dist.zero; omega
    have hsym : dv (stepsT l o a) b = dv (stepsT l o b) a := by
      rcases dt_dv d1 hb'.1 (by omega) with ⟨h1, h2⟩ | ⟨n, h1, h2⟩ <;> rcases dt_dv d2 ha'.1 (by omega) with ⟨h3, h4⟩ | ⟨m, h3, h4⟩
      · omega
      · exact absurd (h4.1.symm fun x y hj => hj.symm) (h2 m)
      · exact absurd (h2.1.symm fun x y hj => hj.symm) (h4 n)
      · have := (h2.symm fun x y hj => hj.symm).uniq h4; omega
    have hreach : ∀ x : Int, 0 ≤ x → x < l.Segs → (0 ≤ dv (stepsT l o a) x ↔ Rc (edO l o) a x) := fun x x0 x1 => by
      rcases dt_dv d1 x0 (by omega) with ⟨h1, h2⟩ | ⟨n, h1, h2⟩
      · exact ⟨fun h => by omega, fun hr => by obtain ⟨n, hn⟩ := Wk.eqv.1 hr; exact absurd hn (h2 n)⟩
      · exact ⟨fun _ => Wk.eqv.2 ⟨n, h2.1⟩, fun _ => by omega⟩
    have l1 := d1.1
    have l2 := d2.1
    generalize hs1 : stepsT l o (a : Int) = s at *
    generalize hs2 : stepsT l o (b : Int) = t at *
    have l24 : rangeL (law17_FloodBoth_b24 l (s, 0) (partI (ed l) l.Segs a, 0)) (partI (edO l o) l.Segs a) () = some (.nxt ()) := by
      rcases rangeL_find (s0 := ()) (body := law17_FloodBoth_b24 l (s, 0) (partI (ed l) l.Segs a, 0)) (xs := partI (edO l o) l.Segs a) (by omega) (fun _ _ => false) (fun _ _ => false) (fun k x hk => by
        have hx := List.mem_of_getElem? hk
        obtain ⟨hxb, hxr⟩ := partI_mem.1 hx
        unfold law17_FloodBoth_b24
        dsimp only
        rw [has_eq _ _ (by omega), decide_eq_true (hsub x hx), in17_eq, decide_eq_true hxb]
        simp only [Bool.not_true, Bool.not_false, gd_true, Option.bind_some, cond_false]
        rw [gix_of hxb.1 (dv_some (n := 0) hxb.1 (by omega)), Option.bind_some, decide_eq_false (show ¬ dv s x < 0 by have := (hreach x hxb.1 hxb.2).2 hxr; omega)]; rfl) with ⟨_, _, _, h, _⟩ | ⟨_, h⟩
      · cases h
      · exact h
    have hhas : (decide ((b : Int) ∈ partI (edO l o) l.Segs a)) = decide (0 ≤ dv s b) := by
      rw [decide_eq_decide, partI_mem, hreach b hb'.1 hb'.2]
      exact ⟨fun h => h.2, fun h => ⟨hb', h⟩⟩
    rcases hpath with ⟨p1, p2⟩ | ⟨n, r, p1, p2, p3⟩
    · rw [p2, Option.bind_some, Part_eq l hf, if_pos h.1, if_pos ha', Option.bind_some]
      dsimp only
      rw [dv_idx l1 (show a < l.Segs.toNat by omega), dv_idx l1 (show b < l.Segs.toNat by omega), dv_idx l2 (show a < l.Segs.toNat by omega), hz0, ← hsym, alive17, decide_eq_true (show ((s.length : Nat) : Int) = l.Segs by omega), decide_eq_true (show ((t.length : Nat) : Int) = l.Segs by omega)]
      simp only [decide_true, Bool.not_true, Bool.not_false, cond_false, gd_true, Option.bind_some]
      rw [l24, aft_some_nxt, decide_eq_true p1, has_eq _ _ (by omega), hhas, decide_eq_false (show ¬ 0 ≤ dv s b by omega)]
      rfl
    · rw [p2, Option.bind_some, Part_eq l hf, if_pos h.1, if_pos ha', Option.bind_some]
      dsimp only
      have hsame : partI (edO l o) l.Segs a = partI (edO l o) l.Segs b := by
        have hr : Rc (edO l o) a b := (hreach b hb'.1 hb'.2).1 (by omega)
        exact partI_eq (partI_asc _ _ _) fun t => partI_mem.trans (and_congr_right fun _ => ⟨fun k => hr.symm.trans k, fun k => hr.trans k⟩)
      rw [dv_idx l1 (show a < l.Segs.toNat by omega), dv_idx l1 (show b < l.Segs.toNat by omega), dv_idx l2 (show a < l.Segs.toNat by omega), hz0, ← hsym, alive17, decide_eq_true (show ((s.length : Nat) : Int) = l.Segs by omega), decide_eq_true (show ((t.length : Nat) : Int) = l.Segs by omega)]
      simp only [decide_true, Bool.not_true, Bool.not_false, cond_false, gd_true, Option.bind_some]
      have hnn : (n : Int) ≤ 1000 := by
        have := p3.at_ n b p3.last
        rcases dt_dv d1 hb'.1 (by omega) with ⟨h1, h2⟩ | ⟨m, h1, h2⟩
        · omega
        · have := h2.lt (N := l.Segs.toNat) (by omega) (by rw [hN]; exact hG); omega
      have hrl := p3.len
      rw [l24, aft_some_nxt, has_eq _ _ (by omega), hhas, same_eq _ _ (by omega), decide_eq_true hsame, decide_eq_false (show ¬ dv s b < 0 by omega), decide_eq_true (show (0 : Int) ≤ dv s b by omega), p1, w64_in (x := (n : Int) + 1) (by omega) (by omega), w64_in (by omega) (by omega), decide_eq_true (show ((r.length : Nat) : Int) = (n : Int) + 1 by omega), show ((r.length : Nat) : Int) - 1 = ((n : Nat) : Int) by omega]
      have g0 : gix r 0 = some (a : Int) := gix_of (Int.le_refl 0) p3.first
      have gn : gix r ((n : Nat) : Int) = some (b : Int) := by rw [gix_nat]; exact p3.last
      have q4 : decide ((0 : Int) = 4) = false := rfl
      simp only [q4, decide_true, BEq.rfl, Bool.not_true, Bool.not_false, cond_false, cond_true, gd_true, Option.bind_some, g0, gn]
      have l25 : rangeL (law17_FloodBoth_b25 l (s, 0)) r () = some (.nxt ()) := by
        rcases rangeL_find (s0 := ()) (body := law17_FloodBoth_b25 l (s, 0)) (xs := r) (by omega) (fun _ _ => false) (fun _ _ => false) (fun k x hk => by
          obtain ⟨hxb, hxv⟩ := p3.at_ k x hk
          unfold law17_FloodBoth_b25
          dsimp only
          rw [in17_eq, decide_eq_true hxb, gix_of hxb.1 (dv_some (n := 0) hxb.1 (by omega))]
          simp only [Bool.not_true, Bool.not_false, gd_true, Option.bind_some, cond_false]
          rw [decide_eq_true hxv]; rfl) with ⟨_, _, _, h, _⟩ | ⟨_, h⟩
        · cases h
        · exact h
      rw [l25]; rfl
  · have : ∃ n, flood_Copies l o 0 = some (n, 1) := by
      unfold flood_Copies
      rw [fmay_eq l o [0] hf (by simp), if_neg h]
      exact ⟨_, rfl⟩
    obtain ⟨n, hn⟩ := this
    rw [hn, Option.bind_some, alive17]; rfl
end Go.RX
