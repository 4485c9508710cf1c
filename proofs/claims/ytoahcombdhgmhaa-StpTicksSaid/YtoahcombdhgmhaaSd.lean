/- A tree that hears, plainly; the law of what trees hear. -/
import Derived.Test.YtoahcombdhgmhaaSc
set_option linter.unusedVariables false
set_option linter.unusedSimpArgs false
namespace Go.RX
set_option maxHeartbeats 1000000

/-- A tree whose port knows something else. -/
def know (s : StpT) (p : Nat) (x : InfoT) : StpT := ⟨⟨s.Self.ID, s.Self.Costs, s.Self.Ups, s.Self.Infos.set p x⟩, s.States, s.Max, s.Delay⟩
theorem know_ok {s : StpT} {p : Nat} {x : InfoT} (h : SelfOk s.Self) (hx : infR x (upP s.Self p) = true) : SelfOk (know s p x).Self := by
  refine ⟨h.1, h.2.1, h.2.2.1, by simp [know]; exact h.2.2.2.1, fun q hq => ?_⟩
  obtain ⟨h1, h2⟩ := h.2.2.2.2 q hq
  refine ⟨h1, ?_⟩
  show infR ((s.Self.Infos.set p x).getD q zInfo) (upP s.Self q) = true
  by_cases hpq : p = q
  · subst hpq
    have : p < s.Self.Infos.length := by rw [h.2.2.2.1]; exact hq
    rw [List.getD_eq_getElem?_getD, List.getElem?_set_self this]
    exact hx
  · rw [List.getD_eq_getElem?_getD, List.getElem?_set_ne hpq, ← List.getD_eq_getElem?_getD]
    exact h2
theorem StpOk.lens {s : StpT} (h : StpOk s) : s.Self.Costs.length ≤ 8 ∧ s.Self.Ups.length = s.Self.Costs.length ∧ s.Self.Infos.length = s.Self.Costs.length ∧ s.States.length = s.Self.Costs.length :=
  ⟨h.1.n8, h.1.2.2.1, h.1.2.2.2.1, h.2.1⟩
theorem changed_Hear_eq {s : StpT} (h : StpOk s) {p : Nat} (hp : p < s.Self.Costs.length) {c : ConfigT} (hx : infR ⟨true, c.Vec, c.Age⟩ (upP s.Self p) = true) : stp_changed_x2 s c (p : Int) = some (stl (know s p ⟨true, c.Vec, c.Age⟩)) := by
  obtain ⟨h1, h2, h3, h4⟩ := h.lens
  have hk := know_ok h.1 hx
  unfold stp_changed_x2
  simp only [copy_self]
  rw [grd_true (mk_ok (by omega) (by omega)), grd_true (mk_ok (by omega) (by omega)), clone_eq (by omega)]
  have hg : gixN s.Self.Infos p = some (infoP s.Self p) := some_getD _ (by omega)
  simp only [Option.bind_some, stp_Hear_1_x, Int.toNat_natCast, hg]
  rw [grd_true ⟨by omega, by omega⟩]
  simp only [Option.bind_some]
  rw [show (⟨⟨s.Self.ID, s.Self.Costs, s.Self.Ups, s.Self.Infos.set p ⟨true, c.Vec, c.Age⟩⟩, s.States, s.Max, s.Delay⟩ : StpT) = know s p ⟨true, c.Vec, c.Age⟩ from rfl, show (⟨s.Self.ID, s.Self.Costs, s.Self.Ups, s.Self.Infos.set p ⟨true, c.Vec, c.Age⟩⟩ : SelfT) = (know s p ⟨true, c.Vec, c.Age⟩).Self from rfl, Roles_eq _ (by show s.Self.Costs.length ≤ 1000000; omega), if_pos hk]
  simp only [Option.bind_some]
  rw [settle_loop (body := stp_changed_x2_b14) (fun k x s => rfl) _ _ (by simp [know]; omega) (by show s.States.length ≤ 1000000; omega), aft_some_nxt, setl_stl hk h4 (fun q hq => (h.2.2.2 q hq).1)]
def cfgOk (c : ConfigT) : Bool := vR c.Vec && inB c.Age 255
def idle (s : StpT) (p : Nat) (c : ConfigT) : Bool := (!upP s.Self p) || decide (s.Max ≤ c.Age) || ((infoP s.Self p).Has && !vlt c.Vec (infoP s.Self p).Vec && !(decide (c.Vec.Bridge = (infoP s.Self p).Vec.Bridge) && decide (c.Vec.Port = (infoP s.Self p).Vec.Port)))
theorem may_eq {s : StpT} (hc : s.Self.Costs.length ≤ 1000000) (hst : s.States.length ≤ 1000000) (p : Int) : stp_may s p = some (if StpOk s then (if p < 0 ∨ ((s.States.length : Nat) : Int) ≤ p then 3 else 0) else 1) := by
  unfold stp_may
  rw [stp_Right_eq _ hc hst, Option.bind_some]
  by_cases h : StpOk s
  · rw [if_pos h, decide_eq_true h]
    by_cases h1 : p < 0
    · simp [h1]
    · by_cases h2 : ((s.States.length : Nat) : Int) ≤ p <;> simp [h1, h2]
  · rw [if_neg h, decide_eq_false h]; rfl
theorem Hear_bad {s : StpT} (hc : s.Self.Costs.length ≤ 1000000) (hst : s.States.length ≤ 1000000) (h : ¬ StpOk s) (p : Int) (c : ConfigT) : stp_Hear s p c = some (zStp, false, 1) := by
  unfold stp_Hear
  rw [may_eq hc hst, if_neg h]; rfl
theorem Hear_range {s : StpT} (h : StpOk s) {p : Int} (hp : p < 0 ∨ ((s.States.length : Nat) : Int) ≤ p) (c : ConfigT) : stp_Hear s p c = some (zStp, false, 3) := by
  obtain ⟨h1, h2, h3, h4⟩ := h.lens
  unfold stp_Hear
  rw [may_eq (by omega) (by omega), if_pos h, if_pos hp]; rfl
theorem cfg_cond (c : ConfigT) : (bif (bif (!vR c.Vec) then true else (decide (c.Age < 0))) then true else (decide (255 < c.Age))) = !cfgOk c := by
  have e1 : decide (c.Age < 0) = !decide (0 ≤ c.Age) := by by_cases h : 0 ≤ c.Age <;> simp [h] <;> omega
  have e2 : decide (255 < c.Age) = !decide (c.Age ≤ 255) := by by_cases h : c.Age ≤ 255 <;> simp [h] <;> omega
  unfold cfgOk inB
  rw [e1, e2]
  cases vR c.Vec <;> cases decide (0 ≤ c.Age) <;> cases decide (c.Age ≤ 255) <;> rfl
theorem Hear_arg {s : StpT} (h : StpOk s) {p : Nat} (hp : p < s.Self.Costs.length) {c : ConfigT} (hc : cfgOk c = false) : stp_Hear s (p : Int) c = some (zStp, false, 1) := by
  obtain ⟨h1, h2, h3, h4⟩ := h.lens
  unfold stp_Hear
  rw [may_eq (by omega) (by omega), if_pos h, if_neg (by omega)]
  simp only [Option.bind_some, decide_true, Bool.not_true, cond_false, vec_Right_eq, cfg_cond, hc, Bool.not_false, cond_true]
  rfl
theorem cfg_age {c : ConfigT} (h : cfgOk c = true) : vR c.Vec = true ∧ 0 ≤ c.Age ∧ c.Age ≤ 255 := by
  simpa [cfgOk, inB] using h
theorem cfg_info {c : ConfigT} {up : Bool} (h : cfgOk c = true) (hu : up = true) : infR ⟨true, c.Vec, c.Age⟩ up = true := by
  subst hu
  have := cfg_age h
  simp [infR, inB, this]
theorem Hear_eq {s : StpT} (h : StpOk s) {p : Nat} (hp : p < s.Self.Costs.length) {c : ConfigT} (hc : cfgOk c = true) :
    stp_Hear s (p : Int) c = some (bif idle s p c then (s, false, 0) else (stl (know s p ⟨true, c.Vec, c.Age⟩), true, 0)) := by
  obtain ⟨h1, h2, h3, h4⟩ := h.lens
  unfold stp_Hear
  rw [may_eq (by omega) (by omega), if_pos h, if_neg (by omega)]
  simp only [Option.bind_some, decide_true, Bool.not_true, cond_false, vec_Right_eq, cfg_cond, hc, h.1.info hp, h.1.up hp, vec_Better_eq (cfg_age hc).1 (infR_vec (h.1.inf hp))]
  have e : (bif (bif (!upP s.Self p) then true else (decide (s.Max ≤ c.Age))) then true else (bif (bif (infoP s.Self p).Has then (!vlt c.Vec (infoP s.Self p).Vec) else false) then (!(bif (decide (c.Vec.Bridge = (infoP s.Self p).Vec.Bridge)) then (decide (c.Vec.Port = (infoP s.Self p).Vec.Port)) else false)) else false)) = idle s p c := by
    unfold idle
    cases upP s.Self p <;> cases decide (s.Max ≤ c.Age) <;> cases (infoP s.Self p).Has <;> cases vlt c.Vec (infoP s.Self p).Vec <;> cases decide (c.Vec.Bridge = (infoP s.Self p).Vec.Bridge) <;> cases decide (c.Vec.Port = (infoP s.Self p).Vec.Port) <;> rfl
  rw [e]
  cases hi : idle s p c
  · have hu : upP s.Self p = true := by
      cases hu : upP s.Self p
      · simp [idle, hu] at hi
      · rfl
    simp only [cond_false, changed_Hear_eq h hp (cfg_info hc hu), Option.bind_some]
  · rfl

theorem ref12_know_eq {s : StpT} (hl : s.Self.Infos.length ≤ 1000000) (p : Nat) (x : InfoT) : ref12_know s (p : Int) x = some (know s p x) := by
  obtain ⟨st, h1, h2⟩ := rangeL_inv (s0 := ([] : List InfoT)) (body := ref12_know_b25 (p : Int) x) (xs := s.Self.Infos) hl (fun k st => st = (s.Self.Infos.set p x).take k) (by simp) (fun k y st hy hst => by
    have hk := (List.getElem?_eq_some_iff.1 hy).1
    subst hst
    have ht : ((s.Self.Infos.set p x).take k).length ≤ k := by rw [List.length_take]; omega
    refine ⟨(s.Self.Infos.set p x).take (k + 1), ?_, rfl⟩
    rw [List.take_add_one]
    simp only [ref12_know_b25]
    by_cases hkp : k = p
    · subst hkp
      rw [List.getElem?_set_self hk]
      simp only [decide_true, cond_true, Option.toList_some]
      rw [grd_true (fits_small (by rw [List.length_append]; simp; omega) (by omega))]
    · have : decide (((k : Nat) : Int) = (p : Int)) = false := decide_eq_false (by omega)
      rw [List.getElem?_set_ne (fun h => hkp h.symm), hy]
      simp only [this, cond_false, Option.toList_some]
      rw [grd_true (fits_small (by rw [List.length_append]; simp; omega) (by omega))])
  unfold ref12_know
  rw [h1, aft_some_nxt, h2, List.take_of_length_le (by simp)]
  rfl
theorem ref12_Config_eq (c : ConfigT) : ref12_Config c = some (cfgOk c) := by
  unfold ref12_Config cfgOk inB
  rw [ref04_Right_eq, Option.bind_some]
  cases vR c.Vec <;> cases decide (0 ≤ c.Age) <;> cases decide (c.Age ≤ 255) <;> rfl
theorem ref12_Hear_eq {s : StpT} (h : StpOk s) {p : Nat} (hp : p < s.Self.Costs.length) {c : ConfigT} (hc : cfgOk c = true) :
    ref12_Hear s (p : Int) c = some (bif idle s p c then (s, false) else (stl (know s p ⟨true, c.Vec, c.Age⟩), true)) := by
  obtain ⟨h1, h2, h3, h4⟩ := h.lens
  have key : idle s p c = false → ref12_know s (p : Int) ⟨true, c.Vec, c.Age⟩ = some (know s p ⟨true, c.Vec, c.Age⟩) ∧ ref12_settle (know s p ⟨true, c.Vec, c.Age⟩) = some (stl (know s p ⟨true, c.Vec, c.Age⟩)) := fun hi => by
    have hu : upP s.Self p = true := by
      cases hu : upP s.Self p
      · simp [idle, hu] at hi
      · rfl
    exact ⟨ref12_know_eq (by omega) p _, ref12_settle_eq (know_ok h.1 (cfg_info hc hu)) h4⟩
  unfold ref12_Hear
  simp only [h.1.info hp, h.1.up hp, Option.bind_some, ref04_Better_eq, eq_comm (a := (infoP s.Self p).Vec.Bridge), eq_comm (a := (infoP s.Self p).Vec.Port)]
  cases hi : idle s p c
  · obtain ⟨k1, k2⟩ := key hi
    simp only [k1, k2, Option.bind_some, cond_false]
    unfold idle at hi
    cases hu : upP s.Self p <;> cases hm : decide (s.Max ≤ c.Age) <;> cases hh : (infoP s.Self p).Has <;> cases hv : vlt c.Vec (infoP s.Self p).Vec <;> cases hb : decide (c.Vec.Bridge = (infoP s.Self p).Vec.Bridge) <;> cases hq : decide (c.Vec.Port = (infoP s.Self p).Vec.Port) <;> (rw [hu, hm, hh, hv, hb, hq] at hi; first | (cases hi; done) | rfl)
  · unfold idle at hi
    cases hu : upP s.Self p <;> cases hm : decide (s.Max ≤ c.Age) <;> cases hh : (infoP s.Self p).Has <;> cases hv : vlt c.Vec (infoP s.Self p).Vec <;> cases hb : decide (c.Vec.Bridge = (infoP s.Self p).Vec.Bridge) <;> cases hq : decide (c.Vec.Port = (infoP s.Self p).Vec.Port) <;> (rw [hu, hm, hh, hv, hb, hq] at hi; first | (cases hi; done) | rfl)

theorem mn12 (n : Nat) : (mn ((n : Nat) : Int) 12).toNat = min n 12 ∧ (0 : Int) ≤ mn ((n : Nat) : Int) 12 ∧ mn ((n : Nat) : Int) 12 ≤ ((n : Nat) : Int) := by
  unfold mn; split <;> omega
def fewS (s : StpT) : StpT := ⟨⟨s.Self.ID, s.Self.Costs.take 12, s.Self.Ups.take 12, s.Self.Infos.take 12⟩, s.States.take 12, s.Max, s.Delay⟩
theorem take_min {α : Type} (l : List α) : l.take (min l.length 12) = l.take 12 := by
  rw [List.take_eq_take_iff]; omega
theorem few_eq (s : StpT) : law12_few s = some (fewS s) := by
  unfold law12_few
  obtain ⟨a1, a2, a3⟩ := mn12 s.Self.Costs.length
  obtain ⟨b1, b2, b3⟩ := mn12 s.Self.Ups.length
  obtain ⟨c1, c2, c3⟩ := mn12 s.Self.Infos.length
  obtain ⟨d1, d2, d3⟩ := mn12 s.States.length
  simp only [grd_true (And.intro a2 a3), grd_true (And.intro b2 b3), grd_true (And.intro c2 c3), grd_true (And.intro d2 d3), a1, b1, c1, d1, take_min]
  rfl
theorem alive12 : law12_alive = some true := by kernel_rfl

theorem newS_len {id most delay : Int} {costs : List Int} (hc : costs.length ≤ 12) : ref12_Same (newS id costs most delay) (newS id costs most delay) = some true :=
  ref12_Same_self _ (by show costs.length ≤ _; omega) (by simp [newS, blankS]; omega) (by simp [newS, blankS]; omega) (by simp [newS]; omega)
theorem stl_len {s : StpT} {p : Nat} {x : InfoT} (h : StpOk s) : ref12_Same (stl (know s p x)) (stl (know s p x)) = some true := by
  obtain ⟨h1, h2, h3, h4⟩ := h.lens
  exact ref12_Same_self _ (by show s.Self.Costs.length ≤ _; omega) (by show s.Self.Ups.length ≤ _; omega) (by show (s.Self.Infos.set p x).length ≤ _; simp; omega) (by simp [stl, know]; omega)
theorem StpHears_true (a0 : Int) (a1 : List Int) (a2 a3 : Int) (a4 : StpT) (a5 : Int) (a6 : ConfigT) : law12_StpHears a0 a1 a2 a3 a4 a5 a6 = some true := by
  obtain ⟨m1, m2, m3⟩ := mn12 a1.length
  unfold law12_StpHears
  rw [grd_true ⟨m2, m3⟩, few_eq]
  simp only [m1, take_min, Option.bind_some]
  generalize hs : fewS a4 = s
  have l1 : s.Self.Costs.length ≤ 12 := by rw [← hs]; simp [fewS]; omega
  have l2 : s.States.length ≤ 12 := by rw [← hs]; simp [fewS]; omega
  generalize hcs : a1.take 12 = costs
  have l3 : costs.length ≤ 12 := by rw [← hcs]; simp; omega
  rw [New_eq l3, stp_Right_eq s (by omega) (by omega), ref12_Right_eq s (by omega) (by omega), alive12, ref12_New_eq l3]
  simp only [Option.bind_some]
  have hz := ref12_Same_z
  have hnew := newS_len (id := a0) (most := a2) (delay := a3) l3
  -- what comes of the hearing
  have tail : ∀ (y : StpT × Bool × Int), stp_Hear s a5 a6 = some y → (bif (!decide (StpOk s)) then
        (gd (bif (decide (y.2.2 = 1)) then (!y.2.1) else false) (ref12_Same y.1 (⟨(⟨0, [], [], []⟩ : SelfT), [], 0, 0⟩ : StpT))).bind fun y234 =>
        some (bif (bif (decide (y.2.2 = 1)) then (!y.2.1) else false) then y234 else false)
      else
        (bif (bif (decide (a5 < 0)) then true else (decide (((s.States.length : Nat) : Int) ≤ a5))) then
          (gd (bif (decide (y.2.2 = 3)) then (!y.2.1) else false) (ref12_Same y.1 (⟨(⟨0, [], [], []⟩ : SelfT), [], 0, 0⟩ : StpT))).bind fun y236 =>
          some (bif (bif (decide (y.2.2 = 3)) then (!y.2.1) else false) then y236 else false)
        else
          (ref12_Config a6).bind fun y240 =>
          (bif (!y240) then
            (gd (bif (decide (y.2.2 = 1)) then (!y.2.1) else false) (ref12_Same y.1 (⟨(⟨0, [], [], []⟩ : SelfT), [], 0, 0⟩ : StpT))).bind fun y242 =>
            some (bif (bif (decide (y.2.2 = 1)) then (!y.2.1) else false) then y242 else false)
          else
            (ref12_Hear s a5 a6).bind fun y256 =>
            (gd (bif (decide (y.2.2 = 0)) then (y.2.1 == y256.2) else false) (ref12_Same y.1 y256.1)).bind fun y258 =>
            some (bif (bif (decide (y.2.2 = 0)) then (y.2.1 == y256.2) else false) then y258 else false)))) = some true := by
    intro y hy
    rw [show (⟨(⟨0, [], [], []⟩ : SelfT), [], 0, 0⟩ : StpT) = zStp from rfl]
    by_cases h : StpOk s
    rotate_left
    · rw [Hear_bad (by omega) (by omega) h] at hy
      cases hy
      simp [h, hz, gd]
    obtain ⟨k1, k2, k3, k4⟩ := h.lens
    by_cases hp : a5 < 0 ∨ ((s.States.length : Nat) : Int) ≤ a5
    · rw [Hear_range h hp] at hy
      cases hy
      have : (bif (decide (a5 < 0)) then true else (decide (((s.States.length : Nat) : Int) ≤ a5))) = true := by
        rcases hp with hp | hp
        · simp [hp]
        · by_cases h0 : a5 < 0 <;> simp [hp, h0]
      simp only [decide_eq_true h, this]
      simp [hz, gd]
    obtain ⟨p, rfl⟩ : ∃ p : Nat, a5 = (p : Int) := ⟨a5.toNat, by omega⟩
    have hpn : p < s.Self.Costs.length := by omega
    have hcond : (bif (decide ((p : Int) < 0)) then true else (decide (((s.States.length : Nat) : Int) ≤ (p : Int)))) = false := by
      rw [decide_eq_false (by omega), decide_eq_false (by omega)]; rfl
    simp only [decide_eq_true h, hcond, ref12_Config_eq, Option.bind_some, Bool.not_true, cond_false]
    cases hc : cfgOk a6
    · rw [Hear_arg h hpn hc] at hy
      cases hy
      simp [hz, gd]
    · rw [Hear_eq h hpn hc] at hy
      rw [ref12_Hear_eq h hpn hc]
      cases hi : idle s p a6
      · rw [hi] at hy
        cases hy
        simp [gd, stl_len h]
      · rw [hi] at hy
        cases hy
        have := ref12_Same_self s (by omega) (by omega) (by omega) (by omega)
        simp [gd, this]
  have hy : ∃ y, stp_Hear s a5 a6 = some y := by
    by_cases h : StpOk s
    rotate_left
    · exact ⟨_, Hear_bad (by omega) (by omega) h a5 a6⟩
    obtain ⟨k1, k2, k3, k4⟩ := h.lens
    by_cases hp : a5 < 0 ∨ ((s.States.length : Nat) : Int) ≤ a5
    · exact ⟨_, Hear_range h hp a6⟩
    obtain ⟨p, rfl⟩ : ∃ p : Nat, a5 = (p : Int) := ⟨a5.toNat, by omega⟩
    have hpn : p < s.Self.Costs.length := by omega
    cases hc : cfgOk a6
    · exact ⟨_, Hear_arg h hpn hc⟩
    · exact ⟨_, Hear_eq h hpn hc⟩
  obtain ⟨y, hy⟩ := hy
  have ht := tail y hy
  rw [hy]
  simp only [Option.bind_some]
  rw [show (⟨(⟨0, [], [], []⟩ : SelfT), [], 0, 0⟩ : StpT) = zStp from rfl] at ht ⊢
  by_cases hn : NewOk a0 costs a2 a3
  · rw [if_pos hn, if_pos hn]
    simp only [beq_self_eq_true, Bool.not_true, cond_false, gd, Option.bind_some, hnew, decide_true, Bool.not_false, cond_true]
    exact ht
  · rw [if_neg hn, if_neg hn]
    simp only [beq_self_eq_true, Bool.not_true, cond_false, gd, Option.bind_some, hz, decide_true, Bool.not_false, cond_true]
    exact ht
end Go.RX
