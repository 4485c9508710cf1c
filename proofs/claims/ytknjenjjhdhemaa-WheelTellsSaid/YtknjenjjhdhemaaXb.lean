/- The law of arming. -/
import Derived.Test.YtknjenjjhdhemaaVm
import Derived.Test.YtknjenjjhdhemaaXa
import Derived.KernelRfl
set_option linter.unusedVariables false
set_option linter.unusedSimpArgs false
namespace Go.RX
set_option maxHeartbeats 1000000

theorem tSame_self (l : List TimerT) (h : l.length ≤ 100000) : ref05_Same l l = some true := by
  unfold ref05_Same
  obtain ⟨s, h1, _⟩ := rangeL_inv (ρ := Bool) (s0 := ()) (body := ref05_Same_c0 l) (xs := l) (by omega) (fun _ _ => True) trivial (fun k x s hx _ => ⟨(), by simp [ref05_Same_c0, gix_nat, hx], trivial⟩)
  rw [h1]
  simp
theorem tfew_eq (l : List TimerT) : law05_few l = some (l.take 70) := by
  unfold law05_few
  have e : l.take (mn ((l.length : Nat) : Int) 70).toNat = l.take 70 := take_mn l 70
  rw [grd_true (mn_ok l 70 (by omega)), e]
theorem alive05 : law05_alive = some true := by kernel_rfl
theorem u64mod {x n : Int} (hn : 0 < n) (hb : n ≤ 1000000000000) : 0 ≤ IntKind.i64.wrap ((IntKind.u64.wrap x).tmod n) ∧ IntKind.i64.wrap ((IntKind.u64.wrap x).tmod n) < n := by
  have h0 : 0 ≤ IntKind.u64.wrap x := by
    show 0 ≤ x % 18446744073709551616
    exact Int.emod_nonneg _ (by decide)
  rw [Int.tmod_eq_emod_of_nonneg h0]
  have h1 := Int.emod_nonneg (IntKind.u64.wrap x) (by omega : n ≠ 0)
  have h2 := Int.emod_lt_of_pos (IntKind.u64.wrap x) hn
  rw [w64t (by omega) (by omega)]
  exact ⟨h1, h2⟩
theorem Cancel_eq {l : List TimerT} (h : TLOk l) {id : Int} (hid : 0 ≤ id) : wheel_Cancel l id = some (if id ∈ l.map (·.ID) then (l.filter fun t => !decide (t.ID = id), 0) else ([], 4)) := by
  have hl := h.2
  unfold wheel_Cancel
  rw [wRight_eq (by omega), decide_eq_true h]
  simp only [Option.bind_some, Bool.not_true, cond_false, decide_eq_false (show ¬ id < 0 by omega)]
  rw [twithout_eq (by omega)]
  simp only [Option.bind_some]
  by_cases hm : id ∈ l.map (·.ID)
  · have hlt : (l.filter fun t => !decide (t.ID = id)).length < l.length := by
      rw [List.length_filter_lt_length_iff_exists]
      obtain ⟨t, ht, he⟩ := List.mem_map.1 hm
      exact ⟨t, ht, by simp [he]⟩
    rw [if_pos hm, decide_eq_false (by omega)]; rfl
  · have he : (l.filter fun t => !decide (t.ID = id)) = l := List.filter_eq_self.2 fun t ht => by
      have : t.ID ≠ id := fun e => hm (List.mem_map.2 ⟨t, ht, e⟩)
      simp [this]
    rw [if_neg hm, he, decide_eq_true rfl]; rfl
theorem filt_ok {l : List TimerT} (h : TLOk l) (p : TimerT → Bool) : TLOk (l.filter p) := by
  have hs : (l.filter p).Sublist l := List.filter_sublist
  exact ⟨⟨fun t ht => h.1.1 t (List.mem_filter.1 ht).1, (hs.map (·.ID)).nodup h.1.2.1, h.1.2.2.sublist hs⟩, by have := hs.length_le; have := h.2; omega⟩
/-- One of an ID, among some that differ. -/
theorem count_id {l : List TimerT} (hn : (l.map (·.ID)).Nodup) {t : TimerT} (ht : t ∈ l) : l.countP (fun x => decide (x.ID = t.ID)) = 1 := by
  have h := List.Nodup.count (a := t.ID) hn
  rw [if_pos (List.mem_map.2 ⟨t, ht, rfl⟩)] at h
  rw [List.count, List.countP_map] at h
  rw [← h]
  exact List.countP_congr fun x _ => by simp
theorem WheelArms_true (a0 : List TimerT) (a1 : TimerT) (a2 : Int) : law05_WheelArms a0 a1 a2 = some true := by
  obtain ⟨b1, b2⟩ := u64mod (x := a1.ID) (n := 1000) (by omega) (by omega)
  obtain ⟨c1, c2⟩ := u64mod (x := a1.At) (n := 549755813888) (by omega) (by omega)
  obtain ⟨d1, d2⟩ := u64mod (x := a2) (n := 549755813888) (by omega) (by omega)
  unfold law05_WheelArms
  have hbody : ∀ k x s, law05_WheelArms_c0 a1 k x s = some (.nxt (if x.ID = IntKind.i64.wrap ((IntKind.u64.wrap a1.ID).tmod 1000) then IntKind.i64.wrap (s + 1) else s)) := fun k x s => by
    unfold law05_WheelArms_c0
    by_cases h : x.ID = IntKind.i64.wrap ((IntKind.u64.wrap a1.ID).tmod 1000) <;> simp [h]
  generalize law05_WheelArms_c0 a1 = body at hbody
  generalize IntKind.i64.wrap ((IntKind.u64.wrap a1.ID).tmod 1000) = id at *
  generalize IntKind.i64.wrap ((IntKind.u64.wrap a1.At).tmod 549755813888) = at1 at *
  generalize IntKind.i64.wrap ((IntKind.u64.wrap a2).tmod 549755813888) = at2 at *
  rw [tfew_eq]
  simp only [Option.bind_some]
  have hl : (a0.take 70).length ≤ 70 := by rw [List.length_take]; omega
  generalize a0.take 70 = l at hl
  have ht1 : TmOk ⟨id, at1⟩ := ⟨b1, c1, by show at1 ≤ _; omega⟩
  have ht2 : TmOk ⟨id, at2⟩ := ⟨b1, d1, by show at2 ≤ _; omega⟩
  by_cases hR : TLOk l
  rotate_left
  · rw [Arm_bad (by omega) (fun h => hR h.1), alive05, wRight_eq (by omega), decide_eq_false hR]
    simp [gd]
  rcases Arm_eq hR ht1 with ⟨_, h1⟩ | ⟨h64, a, h1, h2, h3⟩
  · rw [h1, alive05]
    simp [wRight_eq (show l.length ≤ 1000 by omega), gd]
  rw [h1]
  simp only [Option.bind_some, decide_true, Bool.not_true, cond_false]
  -- what is left of either
  have hfp : (a.filter fun x => !decide (x.ID = id)).Perm (l.filter fun x => !decide (x.ID = id)) := by
    have := h2.filter fun x => !decide (x.ID = id)
    unfold armU at this
    rw [List.filter_append, List.filter_filter] at this
    simpa using this
  have hfe : (a.filter fun x => !decide (x.ID = id)) = (l.filter fun x => !decide (x.ID = id)) := bef_uniq (filt_ok h3 _).1.2.2 (filt_ok hR _).1.2.2 hfp
  have hlen : ∀ q : Int, (armU a ⟨id, q⟩).length ≤ 64 ∧ (armU l ⟨id, q⟩).length ≤ 64 := fun q => by
    unfold armU at h64 ⊢
    rw [List.length_append] at h64 ⊢
    rw [List.length_append]
    have := hfp.length_eq
    simp only [List.length_singleton] at h64 ⊢
    have e : ∀ z : List TimerT, (z.filter fun x => !decide (x.ID = (⟨id, q⟩ : TimerT).ID)) = (z.filter fun x => !decide (x.ID = id)) := fun _ => rfl
    rw [e, e]
    have e2 : (l.filter fun x => !decide (x.ID = (⟨id, at1⟩ : TimerT).ID)) = (l.filter fun x => !decide (x.ID = id)) := rfl
    rw [e2] at h64
    omega
  rcases Arm_eq h3 ht2 with ⟨g, _⟩ | ⟨_, L, l1, l2, l3⟩
  · have := (hlen at2).1; omega
  rcases Arm_eq hR ht2 with ⟨g, _⟩ | ⟨_, M, m1, m2, m3⟩
  · have := (hlen at2).2; omega
  have hLM : L = M := bef_uniq l3.1.2.2 m3.1.2.2 (l2.trans ((show (armU a ⟨id, at2⟩).Perm (armU l ⟨id, at2⟩) from hfp.append_right _).trans m2.symm))
  subst hLM
  have hma : id ∈ a.map (·.ID) := (h2.map (·.ID)).mem_iff.2 (by unfold armU; simp)
  have hL64 := l3.2
  have ha64 := h3.2
  rw [l1, m1, Cancel_eq h3 b1, if_pos hma, alive05, hfe]
  simp only [Option.bind_some, decide_true, Bool.not_true, Bool.not_false, cond_false, gd_true]
  rw [tSame_self L (by omega)]
  simp only [Option.bind_some, Bool.not_true, Bool.not_false, cond_false, gd_true]
  have hfl := List.length_filter_le (fun x : TimerT => !decide (x.ID = id)) l
  -- due
  obtain ⟨k, k1, k2, k3, k4⟩ := Advance_eq l3 (now := at2) d1 (by omega)
  have hmem : (⟨id, at2⟩ : TimerT) ∈ L.take k := by
    have hL : (⟨id, at2⟩ : TimerT) ∈ L := l2.mem_iff.2 (by unfold armU; simp)
    rw [← List.take_append_drop k L] at hL
    rcases List.mem_append.1 hL with h | h
    · exact h
    · have := k4 _ h
      exact absurd this (Int.lt_irrefl _)
  have hcnt : (L.take k).countP (fun x => decide (x.ID = id)) = 1 := count_id (((List.take_sublist k L).map (·.ID)).nodup l3.1.2.1) hmem
  have hloop := rangeL_foldI (ρ := Bool) (body := body) (xs := L.take k) (s0 := (0 : Int)) (by rw [List.length_take]; omega) (fun q => ((q.countP (fun x => decide (x.ID = id)) : Nat) : Int)) rfl (fun j x hx => by
    have hc := List.countP_le_length (p := fun x : TimerT => decide (x.ID = id)) (l := (L.take k).take j)
    have hc2 : ((L.take k).take j).length ≤ 64 := by rw [List.length_take, List.length_take]; omega
    rw [hbody, List.countP_append]
    by_cases h : x.ID = id
    · rw [if_pos h, w64t (by omega) (by omega)]
      simp [h]
    · rw [if_neg h]
      simp [h])
  rw [hcnt] at hloop
  have tail : ((wheel_Advance L at2).bind fun y25 => aft (rangeL body y25.2.1 0) fun s25 => some (bif (decide (y25.2.2 = 0)) then (decide (s25 = 1)) else false)) = some true := by
    rw [k2]
    simp only [Option.bind_some]
    rw [hloop, aft_some_nxt]
    rfl
  rw [Cancel_eq hR b1]
  by_cases hml : id ∈ l.map (·.ID)
  · rw [if_pos hml]
    simp only [Option.bind_some, decide_true, Bool.not_true, Bool.not_false, cond_false, cond_true, gd_true, gd_false]
    rw [tSame_self _ (by omega)]
    simp only [Option.bind_some, decide_true, Bool.not_true, Bool.not_false, cond_false, cond_true, gd_true, gd_false]
    exact tail
  · have he : (l.filter fun t => !decide (t.ID = id)) = l := List.filter_eq_self.2 fun t ht => by
      have : t.ID ≠ id := fun e => hml (List.mem_map.2 ⟨t, ht, e⟩)
      simp [this]
    rw [if_neg hml, he]
    simp only [Option.bind_some, show decide ((4 : Int) = 0) = false from rfl, Bool.not_true, Bool.not_false, cond_false, cond_true, gd_true, gd_false]
    rw [tSame_self l (by omega)]
    simp only [Option.bind_some, Bool.not_true, Bool.not_false, cond_false, cond_true, gd_true, gd_false]
    exact tail
end Go.RX
