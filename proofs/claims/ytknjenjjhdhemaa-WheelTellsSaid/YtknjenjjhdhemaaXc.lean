/- The document's timers; the law of telling. -/
import Derived.Test.YtknjenjjhdhemaaVn
import Derived.Test.YtknjenjjhdhemaaXb
set_option linter.unusedVariables false
set_option linter.unusedSimpArgs false
namespace Go.RX
set_option maxHeartbeats 2000000

theorem rMay_eq (t : TimerT) : ref05_May t = some (decide (TmOk t)) := by
  unfold ref05_May TmOk
  by_cases h1 : 0 ≤ t.ID <;> by_cases h2 : 0 ≤ t.At <;> simp [h1, h2]
theorem rAhead_eq (a b : TimerT) : ref05_ahead a b = some (decide (Bef a b)) := by
  unfold ref05_ahead Bef
  by_cases h1 : a.At < b.At
  · simp [h1]
  · by_cases h2 : a.At = b.At <;> simp [h1, h2]
theorem rPlace_eq {l : List TimerT} (hl : l.length ≤ 1000) (id : Int) : ∃ r, ref05_Place l id = some r ∧ (0 ≤ r ↔ id ∈ l.map (·.ID)) := by
  unfold ref05_Place
  rcases rangeL_find (s0 := ()) (body := ref05_Place_c0 id) (xs := l) (by omega) (fun _ x => decide (x.ID = id)) (fun k _ => ((k : Nat) : Int)) (fun k x hx => by unfold ref05_Place_c0; cases decide (x.ID = id) <;> rfl) with ⟨k, x, hx, hp, hj, h⟩ | ⟨hp, h⟩
  · rw [h, aft_some_ret]
    exact ⟨_, rfl, fun _ => List.mem_map.2 ⟨x, List.mem_of_getElem? hx, by simpa using hp⟩, fun _ => by omega⟩
  · rw [h, aft_some_nxt]
    refine ⟨_, rfl, fun h => by omega, fun hm => ?_⟩
    obtain ⟨x, hx, he⟩ := List.mem_map.1 hm
    obtain ⟨k, hk⟩ := List.getElem?_of_mem hx
    have := hp k x hk
    simp [he] at this
/-- Timers that may be, one by one. -/
def Gd (l : List TimerT) (k : Nat) (x : TimerT) : Prop := TmOk x ∧ x.ID ∉ (l.take k).map (·.ID) ∧ ∀ y, 0 < k → l[k - 1]? = some y → Bef y x
theorem gd_iff {l : List TimerT} : (∀ k x, l[k]? = some x → Gd l k x) ↔ ((∀ t ∈ l, TmOk t) ∧ (l.map (·.ID)).Nodup ∧ l.Pairwise Bef) := by
  constructor
  · intro h
    have key : ∀ n, n ≤ l.length → ((l.take n).map (·.ID)).Nodup ∧ (l.take n).Pairwise Bef := by
      intro n
      induction n with
      | zero => simp
      | succ n ih =>
        intro hn
        obtain ⟨i1, i2⟩ := ih (by omega)
        have hx : l[n]? = some l[n] := List.getElem?_eq_getElem (by omega)
        obtain ⟨g1, g2, g3⟩ := h n _ hx
        have ht : l.take (n + 1) = l.take n ++ [l[n]] := by rw [List.take_add_one, hx]; rfl
        rw [ht]
        refine ⟨?_, ?_⟩
        · rw [List.map_append, List.nodup_append]
          exact ⟨i1, by simp, fun a ha b hb => by simp at hb; subst hb; exact fun e => g2 (e ▸ ha)⟩
        · rw [List.pairwise_append]
          refine ⟨i2, by simp, fun y hy b hb => ?_⟩
          simp at hb; subst hb
          obtain ⟨q, hq⟩ := List.getElem?_of_mem hy
          have hq1 : q < n := by
            have := (List.getElem?_eq_some_iff.1 hq).1
            rw [List.length_take] at this; omega
          have hy' : y = l[q] := by
            rw [List.getElem?_take_of_lt hq1, List.getElem?_eq_getElem (by omega)] at hq
            exact (Option.some.inj hq).symm
          have hl := g3 l[n - 1] (by omega) (List.getElem?_eq_getElem (by omega))
          by_cases hqn : q = n - 1
          · subst hqn; rw [hy']; exact hl
          · have hp := List.pairwise_iff_getElem.1 i2 q (n - 1) (by rw [List.length_take]; omega) (by rw [List.length_take]; omega) (by omega)
            rw [List.getElem_take, List.getElem_take] at hp
            rw [hy']; exact hp.trans hl
    have := key l.length (Nat.le_refl _)
    rw [List.take_length] at this
    exact ⟨fun t ht => by
      obtain ⟨k, hk⟩ := List.getElem?_of_mem ht
      exact (h k t hk).1, this.1, this.2⟩
  · intro ⟨h1, h2, h3⟩ k x hx
    have hk := (List.getElem?_eq_some_iff.1 hx).1
    refine ⟨h1 x (List.mem_of_getElem? hx), fun hm => ?_, fun y h0 hy => ?_⟩
    · have ht : l.take (k + 1) = l.take k ++ [x] := by rw [List.take_add_one, hx]; rfl
      have := ((List.take_sublist (k + 1) l).map (·.ID)).nodup h2
      rw [ht, List.map_append, List.nodup_append] at this
      exact this.2.2 _ hm _ (by simp) rfl
    · have hj := (List.getElem?_eq_some_iff.1 hy).1
      have := List.pairwise_iff_getElem.1 h3 (k - 1) k hj hk (by omega)
      rw [(List.getElem?_eq_some_iff.1 hy).2, (List.getElem?_eq_some_iff.1 hx).2] at this
      exact this
theorem rRight_eq {l : List TimerT} (hl : l.length ≤ 1000) : ref05_Right l = some (decide (TLOk l)) := by
  have hb : ∀ k x, l[k]? = some x → ∃ b : Bool, ref05_Right_c0 l k x () = some (bif b then .ret false else .nxt ()) ∧ (b = true ↔ ¬ Gd l k x) := by
    intro k x hx
    have hk := (List.getElem?_eq_some_iff.1 hx).1
    obtain ⟨r, r1, r2⟩ := rPlace_eq (l := l.take k) (by rw [List.length_take]; omega) x.ID
    unfold ref05_Right_c0
    rw [rMay_eq]
    simp only [Option.bind_some]
    rw [grd_true (fun _ => ⟨by omega, by omega⟩), Int.toNat_natCast, r1]
    by_cases h1 : TmOk x
    rotate_left
    · refine ⟨true, by simp [h1, gd], fun _ h => h1 h.1, fun _ => rfl⟩
    by_cases h2 : 0 ≤ r
    · refine ⟨true, by simp [h1, h2, gd], fun _ h => h.2.1 (r2.1 h2), fun _ => rfl⟩
    cases k with
    | zero =>
      refine ⟨false, by simp [h1, h2, gd], fun h => (by cases h), fun h => absurd ⟨h1, by simp, fun y h0 => absurd h0 (Nat.lt_irrefl _)⟩ h⟩
    | succ j =>
      have hj : l[j]? = some l[j] := List.getElem?_eq_getElem (by omega)
      have e1 : (bif !decide (TmOk x) then true else decide (0 ≤ r)) = false := by simp [h1, h2]
      simp only [decide_eq_true h1, Bool.not_true, Bool.not_false, gd_true, Option.bind_some, cond_false, decide_eq_false h2, cond_true]
      rw [decide_eq_true (show (0 : Int) < ((j + 1 : Nat) : Int) by omega), w64t (x := ((j + 1 : Nat) : Int) - 1) (by omega) (by omega), show ((j + 1 : Nat) : Int) - 1 = ((j : Nat) : Int) by omega, gix_nat, hj]
      simp only [gd_true, Option.bind_some, rAhead_eq, cond_true]
      by_cases h3 : Bef l[j] x
      · refine ⟨false, by simp [h3], fun h => (by cases h), fun h => absurd ⟨h1, fun hm => h2 (r2.2 hm), fun y _ hy => ?_⟩ h⟩
        rw [show j + 1 - 1 = j from rfl, hj] at hy
        rw [← Option.some.inj hy]; exact h3
      · refine ⟨true, by simp [h3], fun _ h => h3 (h.2.2 l[j] (by omega) hj), fun _ => rfl⟩
  obtain ⟨o, h1, h2⟩ := rangeL_rec (s0 := ()) (body := ref05_Right_c0 l) (xs := l) (by omega) (fun k _ => ∀ j y, j < k → l[j]? = some y → Gd l j y) (fun r => r = false ∧ ∃ k x, l[k]? = some x ∧ ¬ Gd l k x) (fun _ => False) (fun j y h => by omega) (fun k x s hx hi => by
    obtain ⟨b, b1, b2⟩ := hb k x hx
    refine ⟨_, b1, ?_⟩
    cases b with
    | true => exact ⟨rfl, k, x, hx, b2.1 rfl⟩
    | false =>
      intro j y hj hy
      by_cases hjk : j = k
      · subst hjk
        rw [hx] at hy
        rw [← Option.some.inj hy]
        exact Classical.not_not.1 fun h => absurd (b2.2 h) (by simp)
      · exact hi j y (by omega) hy)
  unfold ref05_Right
  rw [h1]
  cases o with
  | ret r =>
    obtain ⟨rfl, k, x, hx, hg⟩ := h2
    rw [aft_some_ret, decide_eq_false (fun h => hg (gd_iff.2 h.1 k x hx))]
  | brk s => exact h2.elim
  | nxt s =>
    have h3 := h2.resolve_right id
    rw [aft_some_nxt]
    congr 1
    rw [decide_eq_decide]
    have h4 := gd_iff.1 fun k x hx => h3 k x (List.getElem?_eq_some_iff.1 hx).1 hx
    exact ⟨fun h => ⟨h4, by omega⟩, fun h => by have := h.2; omega⟩
theorem rWithout_eq {l : List TimerT} (hl : l.length ≤ 1000) (id : Int) : ref05_Without l id = some (l.filter fun t => !decide (t.ID = id)) := by
  have hf : ∀ k, ((l.take k).filter fun t => !decide (t.ID = id)).length ≤ 1000 := fun k => by
    have := List.length_filter_le (fun t : TimerT => !decide (t.ID = id)) (l.take k)
    rw [List.length_take] at this; omega
  have e := rangeL_foldI (ρ := List TimerT) (body := ref05_Without_c0 id) (xs := l) (s0 := ([] : List TimerT)) (by omega) (fun q => q.filter fun t => !decide (t.ID = id)) rfl (fun k x hx => by
    unfold ref05_Without_c0
    rw [List.filter_append]
    by_cases h : x.ID = id
    · simp [h]
    · simp only [decide_eq_false h, Bool.not_false, cond_true]
      rw [grd_true (fitsT (by rw [List.length_append]; have := hf k; simp; omega) (by omega))]
      simp [h])
  unfold ref05_Without
  rw [e, aft_some_nxt]
theorem rDue_eq {l : List TimerT} (hl : l.length ≤ 1000) (now : Int) : ref05_Due l now = some ((l.countP (fun x => decide (x.At ≤ now)) : Nat) : Int) := by
  have e := rangeL_foldI (ρ := Int) (body := ref05_Due_c0 now) (xs := l) (s0 := (0 : Int)) (by omega) (fun q => ((q.countP (fun x => decide (x.At ≤ now)) : Nat) : Int)) rfl (fun k x hx => by
    have hc := List.countP_le_length (p := fun x : TimerT => decide (x.At ≤ now)) (l := l.take k)
    rw [List.length_take] at hc
    unfold ref05_Due_c0
    rw [List.countP_append]
    by_cases h : x.At ≤ now
    · simp only [decide_eq_true h, cond_true]
      rw [w64t (by omega) (by omega)]
      simp [h]
    · simp [h])
  unfold ref05_Due
  rw [e, aft_some_nxt]
theorem bef_total {a b : TimerT} (h : a.ID ≠ b.ID) (g : ¬ Bef a b) : Bef b a := by unfold Bef at *; omega
theorem rArm_eq {l : List TimerT} (h : TLOk l) (t : TimerT) : ∃ W, ref05_Arm l t = some W ∧ W.Perm (armU l t) ∧ W.Pairwise Bef := by
  have hl := h.2
  have hfl := List.length_filter_le (fun x : TimerT => !decide (x.ID = t.ID)) l
  have hF := (filt_ok h fun x => !decide (x.ID = t.ID)).1.2.2
  have hne : ∀ y ∈ l.filter (fun x => !decide (x.ID = t.ID)), y.ID ≠ t.ID := fun y hy => by
    have := (List.mem_filter.1 hy).2
    simpa using this
  unfold ref05_Arm armU
  rw [rWithout_eq (by omega)]
  simp only [Option.bind_some]
  generalize (l.filter fun x => !decide (x.ID = t.ID)) = F at hfl hF hne
  obtain ⟨s, h1, h2⟩ := rangeN_inv (ρ := List TimerT) (body := ref05_Arm_c0 t F) (n := ((F.length : Nat) : Int)) (s0 := (([] : List TimerT), false)) (by omega)
    (fun k s => (s.2 = false ∧ s.1 = F.take k ∧ ∀ y ∈ F.take k, Bef y t) ∨ (s.2 = true ∧ ∃ j, j ≤ k ∧ s.1 = F.take j ++ [t] ++ (F.take k).drop j ∧ (∀ y ∈ F.take j, Bef y t) ∧ ∃ y, F[j]? = some y ∧ Bef t y)) (.inl ⟨rfl, by simp, by simp⟩) (fun k s hk hi => by
      have hk' : k < F.length := by omega
      have hx : F[k]? = some F[k] := List.getElem?_eq_getElem hk'
      have hs : s.1.length ≤ 70 := by
        rcases hi with ⟨_, h, _⟩ | ⟨_, j, hj, h, _⟩
        · rw [h, List.length_take]; omega
        · rw [h]; simp; omega
      unfold ref05_Arm_c0
      rw [grd_true ⟨by omega, by omega⟩, Int.toNat_natCast, show gixN F k = some F[k] from hx]
      simp only [Option.bind_some, rAhead_eq]
      rcases hi with ⟨h3, h4, h5⟩ | ⟨h3, j, hj, h4, h5, h6⟩
      · rw [h3]
        simp only [Bool.not_false, gd_true, Option.bind_some, cond_true]
        by_cases hb : Bef t F[k]
        · rw [decide_eq_true hb, cond_true, grd_true (fitsT (by rw [List.length_append]; simp; omega) (by omega)), grd_true (fitsT (by rw [List.length_append, List.length_append]; simp; omega) (by omega))]
          refine ⟨_, rfl, .inr ⟨rfl, k, by omega, ?_, h5, F[k], hx, hb⟩⟩
          simp only
          rw [h4, List.take_succ_eq_append_getElem hk', List.drop_append_of_le_length (by rw [List.length_take]; omega), List.drop_of_length_le (by rw [List.length_take]; omega)]
          simp
        · rw [decide_eq_false hb, cond_false, grd_true (fitsT (by rw [List.length_append]; simp; omega) (by omega))]
          refine ⟨_, rfl, .inl ⟨rfl, ?_, fun y hy => ?_⟩⟩
          · simp only
            rw [h4, List.take_succ_eq_append_getElem hk']
          · rw [List.take_succ_eq_append_getElem hk'] at hy
            rcases List.mem_append.1 hy with hy | hy
            · exact h5 y hy
            · simp at hy; subst hy
              exact bef_total (fun e => hne _ (List.getElem_mem hk') e.symm) hb
      · rw [h3]
        simp only [Bool.not_true, gd_false, Option.bind_some, cond_false]
        rw [grd_true (fitsT (by rw [List.length_append]; simp; omega) (by omega))]
        refine ⟨_, rfl, .inr ⟨rfl, j, by omega, ?_, h5, h6⟩⟩
        simp only
        rw [h4, List.take_succ_eq_append_getElem hk', List.drop_append_of_le_length (by rw [List.length_take]; omega)]
        simp)
  rw [h1, aft_some_nxt]
  rw [Int.toNat_natCast, List.take_length] at h2
  rcases h2 with ⟨h3, h4, h5⟩ | ⟨h3, j, hj, h4, h5, y, hy, h6⟩
  · rw [h3]
    simp only [Bool.not_false, cond_true]
    rw [h4, grd_true (fitsT (by rw [List.length_append]; simp; omega) (by omega))]
    refine ⟨_, rfl, List.Perm.refl _, ?_⟩
    rw [List.pairwise_append]
    exact ⟨hF, by simp, fun a ha b hb => by simp at hb; subst hb; exact h5 a ha⟩
  · rw [h3]
    simp only [Bool.not_true, cond_false]
    refine ⟨_, rfl, ?_, ?_⟩
    · rw [h4, List.append_assoc]
      have e := List.take_append_drop j F
      have : (F.take j ++ ([t] ++ F.drop j)).Perm (F.take j ++ (F.drop j ++ [t])) := List.perm_append_comm.append_left _
      refine this.trans ?_
      rw [← List.append_assoc, e]
    · rw [h4, List.append_assoc]
      have e := List.take_append_drop j F
      have hF' := hF
      rw [← e, List.pairwise_append] at hF'
      obtain ⟨p1, p2, p3⟩ := hF'
      have htd : ∀ z ∈ F.drop j, Bef t z := by
        intro z hz
        have hd : F.drop j = y :: F.drop (j + 1) := by
          have hjl := (List.getElem?_eq_some_iff.1 hy).1
          rw [List.drop_eq_getElem_cons hjl, (List.getElem?_eq_some_iff.1 hy).2]
        rw [hd] at hz p2
        rcases List.mem_cons.1 hz with rfl | hz
        · exact h6
        · exact h6.trans (List.rel_of_pairwise_cons p2 hz)
      rw [List.pairwise_append]
      refine ⟨p1, ?_, fun a ha b hb => ?_⟩
      · rw [List.singleton_append, List.pairwise_cons]
        exact ⟨htd, p2⟩
      · rcases List.mem_append.1 hb with hb | hb
        · simp at hb; subst hb; exact h5 a ha
        · exact p3 a ha b hb

theorem WheelTells_true (a0 : List TimerT) (a1 : TimerT) (a2 a3 : Int) : law05_WheelTells a0 a1 a2 a3 = some true := by
  unfold law05_WheelTells
  rw [tfew_eq]
  simp only [Option.bind_some]
  have hl : (a0.take 70).length ≤ 70 := by rw [List.length_take]; omega
  generalize a0.take 70 = l at hl
  rw [rRight_eq (by omega), wRight_eq (by omega), alive05]
  by_cases hR : TLOk l
  rotate_left
  · have hc : wheel_Cancel l a2 = some ([], 1) := by
      unfold wheel_Cancel
      rw [wRight_eq (by omega), decide_eq_false hR]; rfl
    have hn : wheel_Next l = some (0, 1) := by
      unfold wheel_Next
      rw [wRight_eq (by omega), decide_eq_false hR]; rfl
    rw [Arm_bad (by omega) (fun h => hR h.1), hc, Advance_bad (by omega) (fun h => hR h.1), hn, decide_eq_false hR]
    rfl
  have hl64 := hR.2
  obtain ⟨W, w1, w2, w3⟩ := rArm_eq hR a1
  obtain ⟨p, p1, p2⟩ := rPlace_eq (l := l) (by omega) a2
  rw [decide_eq_true hR, w1, rMay_eq, p1]
  have hn : wheel_Next l = some (if l.length = 0 then ((0 : Int), (4 : Int)) else ((l.headD default).At, 0)) := by
    unfold wheel_Next
    rw [wRight_eq (by omega), decide_eq_true hR]
    cases l with
    | nil => rfl
    | cons x l =>
      have : ¬ ((((x :: l).length : Nat) : Int) = 0) := by simp; omega
      simp only [Option.bind_some, Bool.not_true, cond_false, decide_eq_false this]
      rfl
  have hc : wheel_Cancel l a2 = some (if a2 < 0 then ([], 1) else if a2 ∈ l.map (·.ID) then (l.filter fun t => !decide (t.ID = a2), 0) else ([], 4)) := by
    by_cases h : a2 < 0
    · rw [if_pos h]
      unfold wheel_Cancel
      rw [wRight_eq (by omega), decide_eq_true hR]
      simp [h]
    · rw [if_neg h]
      exact Cancel_eq hR (by omega)
  rw [hn, hc]
  obtain ⟨y7, h7, t7⟩ : ∃ y7, wheel_Advance l a3 = some y7 ∧ (bif (bif (decide (a3 < 0)) then true else (decide (1099511627776 < a3))) then
        some (bif (bif (decide (y7.2.2 = 1)) then (decide (((y7.1.length : Nat) : Int) = 0)) else false) then (decide (((y7.2.1.length : Nat) : Int) = 0)) else false)
      else
        (ref05_Due l a3).bind fun y31 =>
        grd (((decide (y7.2.2 = 0)) = true → (0 : Int) ≤ y31 ∧ y31 ≤ ((l.length : Nat) : Int))) <|
        (gd (decide (y7.2.2 = 0)) (ref05_Same y7.1 (l.drop (y31 : Int).toNat))).bind fun y34 =>
        grd (((bif (decide (y7.2.2 = 0)) then y34 else false) = true → (0 : Int) ≤ y31 ∧ y31 ≤ ((l.length : Nat) : Int))) <|
        (gd (bif (decide (y7.2.2 = 0)) then y34 else false) (ref05_Same y7.2.1 (l.take (y31 : Int).toNat))).bind fun y37 =>
        some (bif (bif (decide (y7.2.2 = 0)) then y34 else false) then y37 else false)) = some true := by
    by_cases hr : 0 ≤ a3 ∧ a3 ≤ 1099511627776
    · obtain ⟨k, k1, k2, k3, k4⟩ := Advance_eq hR hr.1 hr.2
      refine ⟨_, k2, ?_⟩
      have hk : l.countP (fun x => decide (x.At ≤ a3)) = k := by
        conv => lhs; rw [← List.take_append_drop k l]
        rw [List.countP_append, List.countP_eq_length.2 (fun x hx => by simp [k3 x hx]), List.countP_eq_zero.2 (fun x hx => by have := k4 x hx; simp; omega), List.length_take]
        omega
      rw [decide_eq_false (show ¬ a3 < 0 by omega), decide_eq_false (show ¬ 1099511627776 < a3 by omega), rDue_eq (by omega), hk]
      simp only [cond_false, Option.bind_some, Int.toNat_natCast, decide_true, gd_true]
      rw [grd_true (fun _ => ⟨by omega, by omega⟩), tSame_self _ (by rw [List.length_drop]; omega)]
      simp only [Option.bind_some, cond_true, gd_true]
      rw [grd_true (fun _ => ⟨by omega, by omega⟩), tSame_self _ (by rw [List.length_take]; omega)]
      rfl
    · refine ⟨_, Advance_bad (by omega) (fun h => hr h.2), ?_⟩
      have : (bif (decide (a3 < 0)) then true else (decide (1099511627776 < a3))) = true := by
        by_cases h : a3 < 0
        · simp [h]
        · have : 1099511627776 < a3 := by
            rw [← Int.not_le]; exact fun g => hr ⟨by omega, g⟩
          simp [h, this]
      rw [this]; rfl
  rw [h7]
  obtain ⟨y3, h3, t3⟩ : ∃ y3, wheel_Arm l a1 = some y3 ∧ ((¬ TmOk a1 ∧ y3 = ([], 1)) ∨ (TmOk a1 ∧ 64 < W.length ∧ y3 = ([], 5)) ∨ (TmOk a1 ∧ ¬ 64 < W.length ∧ y3 = (W, 0))) := by
    by_cases ht : TmOk a1
    · rcases Arm_eq hR ht with ⟨g1, g2⟩ | ⟨g1, L, g2, g3, g4⟩
      · exact ⟨_, g2, .inr (.inl ⟨ht, by rw [w2.length_eq]; exact g1, rfl⟩)⟩
      · refine ⟨_, g2, .inr (.inr ⟨ht, by rw [w2.length_eq]; omega, ?_⟩)⟩
        rw [bef_uniq g4.1.2.2 w3 (g3.trans w2.symm)]
    · exact ⟨_, Arm_bad (by omega) (fun h => ht h.2), .inl ⟨ht, rfl⟩⟩
  rw [h3]
  have hW : W.length ≤ 100 := by
    rw [w2.length_eq]
    unfold armU
    have := List.length_filter_le (fun x : TimerT => !decide (x.ID = a1.ID)) l
    rw [List.length_append]; simp; omega
  have hfl := List.length_filter_le (fun x : TimerT => !decide (x.ID = a2)) l
  simp only [Option.bind_some, beq_self_eq_true, Bool.not_true, Bool.not_false, gd_true, cond_false]
  generalize hTA : (bif (bif (decide (a3 < 0)) then true else (decide (1099511627776 < a3))) then
        some (bif (bif (decide (y7.2.2 = 1)) then (decide (((y7.1.length : Nat) : Int) = 0)) else false) then (decide (((y7.2.1.length : Nat) : Int) = 0)) else false)
      else
        (ref05_Due l a3).bind fun y31 =>
        grd (((decide (y7.2.2 = 0)) = true → (0 : Int) ≤ y31 ∧ y31 ≤ ((l.length : Nat) : Int))) <|
        (gd (decide (y7.2.2 = 0)) (ref05_Same y7.1 (l.drop (y31 : Int).toNat))).bind fun y34 =>
        grd (((bif (decide (y7.2.2 = 0)) then y34 else false) = true → (0 : Int) ≤ y31 ∧ y31 ≤ ((l.length : Nat) : Int))) <|
        (gd (bif (decide (y7.2.2 = 0)) then y34 else false) (ref05_Same y7.2.1 (l.take (y31 : Int).toNat))).bind fun y37 =>
        some (bif (bif (decide (y7.2.2 = 0)) then y34 else false) then y37 else false)) = TA at t7 ⊢
  subst t7
  have hpl : decide (p < 0) = !decide (a2 ∈ l.map (·.ID)) := by
    by_cases h : a2 ∈ l.map (·.ID)
    · have := p2.2 h
      rw [decide_eq_true h, decide_eq_false (by omega)]; rfl
    · have : p < 0 := by
        rw [← Int.not_le]; exact fun g => h (p2.1 g)
      rw [decide_eq_false h, decide_eq_true this]; rfl
  rw [hpl]
  have hhd : l.length ≠ 0 → gix l 0 = some (l.headD default) := fun h => by
    cases l with
    | nil => exact absurd rfl h
    | cons x l => rfl
  rw [rWithout_eq (by omega)]
  have hWI : ((64 : Int) < ((W.length : Nat) : Int)) ↔ 64 < W.length := by omega
  rcases t3 with ⟨ht, rfl⟩ | ⟨ht, h64, rfl⟩ | ⟨ht, h64, rfl⟩ <;> by_cases c1 : a2 < 0 <;> by_cases c2 : a2 ∈ l.map (·.ID) <;> by_cases c3 : l.length = 0 <;>
    simp [ht, c1, c2, c3, gd, hWI, tSame_self _ (show (l.filter fun t => !decide (t.ID = a2)).length ≤ 100000 by omega), tSame_self W (by omega), hhd, *]
end Go.RX
