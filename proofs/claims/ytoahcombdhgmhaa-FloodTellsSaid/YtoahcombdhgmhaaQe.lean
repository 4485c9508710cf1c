/- The law FloodBoth, plainly: paths. -/
import Derived.Test.YtoahcombdhgmhaaQc
import Derived.Test.YtoahcombdhgmhaaFc
set_option linter.unusedVariables false
set_option linter.unusedSimpArgs false
open Go Go.RX
namespace Go.RX
theorem reverse_eq (l : List Int) (hl : l.length ≤ 900000) : slices_Reverse_int l = some l.reverse := by
  unfold slices_Reverse_int
  rw [w64_in (by omega) (by omega)]
  obtain ⟨o, h1, h2⟩ := loopF_rec (ρ := List Int) (body := slices_Reverse_int_b21) (fun s => l.length - s.1.toNat)
    (fun s => ∃ i : Nat, s.1 = (i : Int) ∧ s.2.1 = ((l.length : Nat) : Int) - 1 - (i : Int) ∧ 2 * i ≤ l.length + 1 ∧ s.2.2.length = l.length ∧ ∀ m, m < l.length → s.2.2[m]? = if m < i ∨ l.length - 1 - i < m then l[l.length - 1 - m]? else l[m]?)
    (fun _ => False) (fun s => s.2.2 = l.reverse) (fun s ⟨i, e1, e2, hi, hL, hg⟩ => by
      obtain ⟨s1, s2, L⟩ := s
      dsimp only at e1 e2 hL hg
      subst e1; subst e2
      unfold slices_Reverse_int_b21
      dsimp only
      by_cases hlt : (i : Int) < ((l.length : Nat) : Int) - 1 - (i : Int)
      · have hj : (((l.length : Nat) : Int) - 1 - (i : Int)).toNat = l.length - 1 - i := by omega
        have gj : L[l.length - 1 - i]? = some (l[l.length - 1 - i]'(by omega)) := by rw [hg _ (by omega), if_neg (by omega), List.getElem?_eq_getElem]
        have gi : L[i]? = some (l[i]'(by omega)) := by rw [hg _ (by omega), if_neg (by omega), List.getElem?_eq_getElem]
        rw [decide_eq_true hlt, cond_true, grd_true ⟨by omega, by omega⟩]
        unfold gixN
        rw [hj, gj, Option.bind_some, grd_true ⟨by omega, by omega⟩, Int.toNat_natCast, gi, Option.bind_some, grd_true ⟨by omega, by omega⟩, List.length_set, grd_true ⟨by omega, by omega⟩, List.getElem?_set_ne (by omega), gj, Option.bind_some, w64_in (by omega) (by omega), w64_in (by omega) (by omega)]
        refine ⟨_, rfl, ⟨i + 1, by show (i : Int) + 1 = _; omega, by show ((l.length : Nat) : Int) - 1 - (i : Int) - 1 = _; omega, by omega, by show ((L.set _ _).set _ _).length = _; rw [List.length_set, List.length_set, hL], fun m hm => ?_⟩, ?_⟩
        · show ((L.set i _).set (l.length - 1 - i) _)[m]? = _
          by_cases m1 : m = l.length - 1 - i
          · subst m1
            rw [List.getElem?_set_self (by rw [List.length_set]; omega), if_pos (by omega), show l.length - 1 - (l.length - 1 - i) = i by omega, List.getElem?_eq_getElem]
          · rw [List.getElem?_set_ne (fun e => m1 e.symm)]
            by_cases m2 : m = i
            · subst m2
              rw [List.getElem?_set_self (by omega), if_pos (by omega), List.getElem?_eq_getElem]
            · rw [List.getElem?_set_ne (fun e => m2 e.symm), hg m hm]
              by_cases m3 : m < i ∨ l.length - 1 - i < m
              · rw [if_pos m3, if_pos (by omega)]
              · rw [if_neg m3, if_neg (by omega)]
        · show l.length - ((i : Int) + 1).toNat < l.length - ((i : Int)).toNat; omega
      · rw [decide_eq_false hlt]
        refine ⟨_, rfl, ?_⟩
        show L = l.reverse
        refine List.ext_getElem? fun m => ?_
        by_cases hm : m < l.length
        · rw [hg m hm, List.getElem?_reverse hm]
          by_cases c : m < i ∨ l.length - 1 - i < m
          · rw [if_pos c]
          · rw [if_neg c]; congr 1; omega
        · rw [List.getElem?_eq_none (by omega), List.getElem?_eq_none (by rw [List.length_reverse]; omega)]) 1000000 (0, ((l.length : Nat) : Int) - 1, l)
    ⟨0, rfl, by show ((l.length : Nat) : Int) - 1 = _; omega, by omega, rfl, fun m hm => by rw [if_neg (by omega)]⟩ (by show l.length - _ < _; omega)
  cases o with
  | ret r => exact h2.elim
  | brk s => exact h2.elim
  | nxt s => rw [h1, aft_some_nxt, h2]
open Classical in
theorem Copies_ex (l : LanT) (o : List (List Bool)) (hf : FewL l) (h : LR l ∧ Shp l o) : ∃ n, flood_Copies l o 0 = some (n, 0) := by
  have hseg := h.1.segs
  unfold flood_Copies
  obtain ⟨e1, e2⟩ := stepsT_eq hf h.1 h.2 (a := 0) (by omega)
  rw [fmay_eq l o [0] hf (by simp), if_pos h, if_pos (by simp; omega), Option.bind_some, decide_eq_true rfl, Bool.not_true, cond_false, e1, Option.bind_some]
  obtain ⟨n, h1, _⟩ := rangeL_inv (ρ := Int × Int) (body := flood_Copies_b22 l o (stepsT l o 0)) (xs := l.Plans) (s0 := 0) (by have := hf.plans; omega) (fun _ _ => True) trivial (fun k p s hk _ => by
    have hkl := (List.getElem?_eq_some_iff.1 hk).1
    have ho : o[k]? = some (o[k]'(by rw [h.2.len]; exact hkl)) := List.getElem?_eq_getElem _
    have hpl := hf.ports p (List.mem_of_getElem? hk)
    unfold flood_Copies_b22
    rw [opens_eq l o hf h.2 hk ho, Option.bind_some]
    generalize o[k]'(by rw [h.2.len]; exact hkl) = q at ho
    have hol := opn_len p q
    have hc : slices_ContainsFunc_int (opn p q) (fun x => flood_Copies_1 x (stepsT l o 0)) = some ((opn p q).any fun s => decide (0 ≤ dv (stepsT l o 0) s)) :=
      (show slices_ContainsFunc_int (opn p q) (fun x => flood_Copies_1 x (stepsT l o 0)) = conG (fun x => flood_Copies_1 x (stepsT l o 0)) (opn p q) from rfl).trans (conG_eq (by omega) (fun x hx => by
        obtain ⟨m, y, hy, _, _, rfl⟩ := mem_opn.1 hx
        have hb := ((h.1.plan p (List.mem_of_getElem? hk)).2.2 y (List.mem_of_getElem? hy)).1
        unfold flood_Copies_1
        rw [gix_of hb.1 (dv_some (n := 0) hb.1 (by rw [e2.1]; omega)), Option.bind_some]))
    rw [hc, Option.bind_some]
    cases (opn p q).any fun s => decide (0 ≤ dv (stepsT l o 0) s) <;> exact ⟨_, rfl, trivial⟩)
  exact ⟨n, by rw [h1]; rfl⟩
theorem dt_dv {G : Int → Int → Prop} {a : Int} {N : Nat} {d : List Int} (h : DT G a N d) {s : Int} (h0 : 0 ≤ s) (hs : s < N) : (dv d s = -1 ∧ ∀ n, ¬ Wk G a n s) ∨ ∃ n : Nat, dv d s = n ∧ Dist G a n s := by
  have := h.2 s.toNat (by omega)
  rw [Int.toNat_of_nonneg h0, dv_some (n := 0) h0 (by rw [h.1]; omega)] at this
  rcases this with ⟨h1, h2⟩ | ⟨n, h1, h2⟩
  · exact .inl ⟨Option.some.inj h1, h2⟩
  · exact .inr ⟨n, Option.some.inj h1, h2⟩
/-- A path: as long as there are steps, each one farther. -/
structure PathOk (d : List Int) (a b : Int) (N : Int) (n : Nat) (r : List Int) : Prop where
  len : r.length = n + 1
  first : r[0]? = some a
  last : r[n]? = some b
  at_ : ∀ (k : Nat) (x : Int), r[k]? = some x → (0 ≤ x ∧ x < N) ∧ dv d x = (k : Int)
open Classical in
theorem Path_eq (l : LanT) (o : List (List Bool)) (hf : FewL l) (h : LR l ∧ Shp l o) {a b : Int} (ha : 0 ≤ a ∧ a < l.Segs) (hb : 0 ≤ b ∧ b < l.Segs) :
    (dv (stepsT l o a) b < 0 ∧ flood_Path l o a b = some ([], 4)) ∨ ∃ (n : Nat) (r : List Int), dv (stepsT l o a) b = (n : Int) ∧ flood_Path l o a b = some (r, 0) ∧ PathOk (stepsT l o a) a b l.Segs n r := by
  have hseg := h.1.segs
  have hN : ((l.Segs.toNat : Nat) : Int) = l.Segs := by omega
  obtain ⟨e1, e2⟩ := stepsT_eq hf h.1 h.2 ha
  have hE1 : (edO l o).length ≤ 100 := by unfold edO; rw [List.length_map, List.length_zip]; have := hf.plans; omega
  have hE2 : ∀ q ∈ edO l o, q.length ≤ 100 := fun q hq => by
    obtain ⟨x, hx, rfl⟩ := List.mem_map.1 hq
    have h1 := opn_len x.1 x.2
    have h2 := hf.ports x.1 (List.of_mem_zip hx).1
    omega
  have hG := edO_bnd (o := o) h.1
  unfold flood_Path
  rw [fmay_eq l o [a, b] hf (by simp), if_pos h, if_pos (by simp; omega), Option.bind_some, decide_eq_true rfl, Bool.not_true, cond_false, e1, Option.bind_some]
  have hdl := e2.1
  generalize stepsT l o a = d at e1 e2 hdl ⊢
  rw [grd_true ⟨hb.1, by omega⟩]
  unfold gixN
  rw [dv_some (n := 0) hb.1 (by omega), Option.bind_some]
  rcases dt_dv e2 hb.1 (by omega) with ⟨h1, h2⟩ | ⟨n, h1, h2⟩
  · exact .inl ⟨by omega, by rw [h1]; rfl⟩
  · refine .inr ⟨n, ?_⟩
    rw [decide_eq_false (show ¬ dv d b < 0 by omega), cond_false, neighbours_eq l o hf h.2, Option.bind_some]
    have hnN := h2.lt (N := l.Segs.toNat) (by omega) (by rw [hN]; exact hG)
    generalize edO l o = E at *
    obtain ⟨u, u1, u2⟩ := loopF_rec (ρ := (List Int) × Int) (body := flood_Path_b23 a d E) (fun s => (dv d s.2).toNat)
      (fun s => ∃ m : Nat, m ≤ n ∧ s.1.length = n - m + 1 ∧ (0 ≤ s.2 ∧ s.2 < l.Segs) ∧ dv d s.2 = (m : Int) ∧ s.1[0]? = some b ∧ s.1[n - m]? = some s.2 ∧ ∀ (k : Nat) (x : Int), s.1[k]? = some x → (0 ≤ x ∧ x < l.Segs) ∧ dv d x = ((n - k : Nat) : Int))
      (fun _ => False) (fun s => s.1.length = n + 1 ∧ s.1[0]? = some b ∧ s.1[n]? = some a ∧ ∀ (k : Nat) (x : Int), s.1[k]? = some x → (0 ≤ x ∧ x < l.Segs) ∧ dv d x = ((n - k : Nat) : Int))
      (fun s ⟨m, m1, m2, m3, m4, m5, m6, m7⟩ => by
        obtain ⟨out, t⟩ := s
        dsimp only at m2 m3 m4 m5 m6 m7
        unfold flood_Path_b23
        dsimp only
        have hd : Dist (Jn E) a m t := by
          rcases dt_dv e2 m3.1 (by omega) with ⟨g1, _⟩ | ⟨q, g1, g2⟩
          · omega
          · have : q = m := by omega
            subst this; exact g2
        by_cases hta : t = a
        · rw [decide_eq_true hta]
          have : m = 0 := by
            have := hd.uniq (show Dist (Jn E) a 0 t by rw [hta]; exact Dist.zero); omega
          subst this
          exact ⟨_, rfl, m2, m5, by rw [Nat.sub_zero] at m6; rw [m6, hta], m7⟩
        · rw [decide_eq_false hta, Bool.not_false, cond_true]
          obtain ⟨m', rfl⟩ : ∃ m', m = m' + 1 := by
            cases m with
            | zero => exact absurd (Dist.zero_iff.1 hd) hta
            | succ m' => exact ⟨m', rfl⟩
          obtain ⟨c, c1, c2⟩ := hd.pred
          obtain ⟨nb, n1, n2, n3⟩ := near_eq t E hE1 hE2
          have hnl : nb.length ≤ 8 := by
            have := nodup_len (m := upI l.Segs) (n2.imp fun h => by omega) fun x hx => mem_upI.2 (hG t x ((n3 x).1 hx))
            have hu : (upI l.Segs).length = l.Segs.toNat := by simp [upI]
            omega
          have hcb : 0 ≤ c ∧ c < l.Segs := hG t c c2.symm
          have hcv : dv d c = (m' : Int) := by
            rcases dt_dv e2 hcb.1 (by omega) with ⟨_, g2⟩ | ⟨q, g1, g2⟩
            · exact absurd c1.1 (g2 _)
            · rw [g1, g2.uniq c1]
          rw [n1, Option.bind_some]
          have hq : ∀ x ∈ nb, flood_Path_1 x d t = some (decide (dv d x = (m' : Int))) := fun x hx => by
            have hxb := hG t x ((n3 x).1 hx)
            unfold flood_Path_1
            rw [gix_of hxb.1 (dv_some (n := 0) hxb.1 (by omega)), Option.bind_some, gix_of m3.1 (dv_some (n := 0) m3.1 (by omega)), Option.bind_some, m4, w64_in (by omega) (by omega), show (((m' + 1 : Nat) : Int) - 1) = (m' : Int) by omega]
          rw [show slices_IndexFunc_int nb (fun x => flood_Path_1 x d t) = idxG (fun x => flood_Path_1 x d t) nb from rfl]
          rcases idxG_eq (by omega) hq with ⟨k, x, k1, k2, _, k4⟩ | ⟨k1, _⟩
          · have hkl := (List.getElem?_eq_some_iff.1 k1).1
            have hxb := hG t x ((n3 x).1 (List.mem_of_getElem? k1))
            have hxv := of_decide_eq_true k2
            rw [k4, Option.bind_some, grd_true ⟨by omega, by omega⟩]
            unfold gixN
            rw [Int.toNat_natCast, k1, Option.bind_some, grd_true (fits_of (by rw [List.length_append]; simp; omega) (by decide))]
            refine ⟨_, rfl, ⟨m', by omega, ?_, hxb, hxv, ?_, ?_, fun j y hj => ?_⟩, ?_⟩
            · show (out ++ [x]).length = _; rw [List.length_append]; simp; omega
            · show (out ++ [x])[0]? = _; rw [List.getElem?_append_left (by omega)]; exact m5
            · show (out ++ [x])[n - m']? = some x
              rw [List.getElem?_append_right (by omega), show n - m' - out.length = 0 by omega]; rfl
            · have hj : (out ++ [x])[j]? = some y := hj
              by_cases hjl : j < out.length
              · rw [List.getElem?_append_left hjl] at hj; exact m7 j y hj
              · have hjl2 := (List.getElem?_eq_some_iff.1 hj).1
                rw [List.length_append, List.length_singleton] at hjl2
                have : j = out.length := by omega
                subst this
                rw [List.getElem?_append_right (Nat.le_refl _), Nat.sub_self] at hj
                obtain rfl := Option.some.inj hj
                exact ⟨hxb, by rw [hxv]; omega⟩
            · show (dv d x).toNat < (dv d t).toNat; omega
          · have := k1 c ((n3 c).2 c2.symm)
            rw [decide_eq_true hcv] at this; cases this) 1000000 ([b], b)
      ⟨n, Nat.le_refl _, by simp, hb, h1, rfl, by simp, fun k x hk => by
        have hk0 : k = 0 := by have := (List.getElem?_eq_some_iff.1 hk).1; simpa using this
        subst hk0
        simp at hk; subst hk
        exact ⟨hb, by rw [h1]; omega⟩⟩ (by show (dv d b).toNat < _; omega)
    cases u with
    | ret r => exact u2.elim
    | brk s => exact u2.elim
    | nxt s =>
      obtain ⟨v1, v2, v3, v4⟩ := u2
      rw [u1, aft_some_nxt, reverse_eq _ (by omega), Option.bind_some]
      refine ⟨s.1.reverse, h1, rfl, by rw [List.length_reverse, v1], ?_, ?_, fun k x hk => ?_⟩
      · rw [List.getElem?_reverse (by omega), v1, show n + 1 - 1 - 0 = n by omega, v3]
      · rw [List.getElem?_reverse (by omega), v1, show n + 1 - 1 - n = 0 by omega, v2]
      · have hkl := (List.getElem?_eq_some_iff.1 hk).1
        rw [List.length_reverse, v1] at hkl
        rw [List.getElem?_reverse (by omega), v1] at hk
        obtain ⟨w1, w2⟩ := v4 _ x hk
        exact ⟨w1, by rw [w2]; omega⟩
end Go.RX
