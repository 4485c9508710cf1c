/- A tree that hears, ticks and links, plainly: what the program computes. -/
import Derived.Test.YtoahcombdhgmhaaTg
import Derived.Test.YtoahcombdhgmhaaSb
set_option linter.unusedVariables false
set_option linter.unusedSimpArgs false
namespace Go.RX
set_option maxHeartbeats 1000000

/-- Settled. -/
def stl (s : StpT) : StpT := ⟨s.Self, (List.range s.States.length).map (fun p => prole (stP s p) s.Delay (act (roleP s.Self p))), s.Max, s.Delay⟩
theorem setl_stl {s : StpT} (h : SelfOk s.Self) (h2 : s.States.length = s.Self.Costs.length) (hp : ∀ p, p < s.Self.Costs.length → pR (stP s p) s.Delay = true) : setl s ((List.range s.Self.Costs.length).map (roleP s.Self)) = stl s := by
  unfold setl stl
  congr 1
  apply List.map_congr_left
  intro p hpm
  rw [List.mem_range, h2] at hpm
  have : ((List.range s.Self.Costs.length).map (roleP s.Self)).getD p 0 = roleP s.Self p := by
    rw [List.getD_eq_getElem?_getD, List.getElem?_map, List.getElem?_range hpm]; rfl
  rw [this]
  unfold proleE
  rw [if_pos (hp p hpm)]
/-- A tree whose port knows something else. -/
def know (s : StpT) (p : Nat) (x : InfoT) : StpT := ⟨⟨s.Self.ID, s.Self.Costs, s.Self.Ups, s.Self.Infos.set p x⟩, s.States, s.Max, s.Delay⟩
theorem know_ok {s : StpT} {p : Nat} {x : InfoT} (h : SelfOk s.Self) (hx : infR x (upP s.Self p) = true) : SelfOk (know s p x).Self := by
  refine ⟨h.1, h.2.1, h.2.2.1, by simp [know]; exact h.2.2.2.1, fun q hq => ?_⟩
  obtain ⟨h1, h2⟩ := h.2.2.2.2 q hq
  refine ⟨h1, ?_⟩
  show infR ((s.Self.Infos.set p x).getD q zInfo) (upP s.Self q) = true
  by_cases hpq : p = q
  · subst hpq
    have : p < s.Self.Infos.length := by rw [h.2.2.2.1]; exact hq
    rw [List.getD_eq_getElem?_getD, List.getElem?_set_self this]
    exact hx
  · rw [List.getD_eq_getElem?_getD, List.getElem?_set_ne hpq, ← List.getD_eq_getElem?_getD]
    exact h2
theorem StpOk.lens {s : StpT} (h : StpOk s) : s.Self.Costs.length ≤ 8 ∧ s.Self.Ups.length = s.Self.Costs.length ∧ s.Self.Infos.length = s.Self.Costs.length ∧ s.States.length = s.Self.Costs.length :=
  ⟨h.1.n8, h.1.2.2.1, h.1.2.2.2.1, h.2.1⟩
theorem changed_Hear_eq {s : StpT} (h : StpOk s) {p : Nat} (hp : p < s.Self.Costs.length) {c : ConfigT} (hx : infR ⟨true, c.Vec, c.Age⟩ (upP s.Self p) = true) : stp_changed_x2 s c (p : Int) = some (stl (know s p ⟨true, c.Vec, c.Age⟩)) := by
  obtain ⟨h1, h2, h3, h4⟩ := h.lens
  have hk := know_ok h.1 hx
  unfold stp_changed_x2
  simp only [copy_self]
  rw [grd_true (mk_ok (by omega) (by omega)), grd_true (mk_ok (by omega) (by omega)), clone_eq (by omega)]
  have hg : gixN s.Self.Infos p = some (infoP s.Self p) := some_getD _ (by omega)
  simp only [Option.bind_some, stp_Hear_1_x, Int.toNat_natCast, hg]
  rw [grd_true ⟨by omega, by omega⟩]
  simp only [Option.bind_some]
  rw [show (⟨⟨s.Self.ID, s.Self.Costs, s.Self.Ups, s.Self.Infos.set p ⟨true, c.Vec, c.Age⟩⟩, s.States, s.Max, s.Delay⟩ : StpT) = know s p ⟨true, c.Vec, c.Age⟩ from rfl, show (⟨s.Self.ID, s.Self.Costs, s.Self.Ups, s.Self.Infos.set p ⟨true, c.Vec, c.Age⟩⟩ : SelfT) = (know s p ⟨true, c.Vec, c.Age⟩).Self from rfl, Roles_eq _ (by show s.Self.Costs.length ≤ 1000000; omega), if_pos hk]
  simp only [Option.bind_some]
  rw [settle_loop (body := stp_changed_x2_b14) (fun k x s => rfl) _ _ (by simp [know]; omega) (by show s.States.length ≤ 1000000; omega), aft_some_nxt, setl_stl hk h4 (fun q hq => (h.2.2.2 q hq).1)]
def cfgOk (c : ConfigT) : Bool := vR c.Vec && inB c.Age 255
def idle (s : StpT) (p : Nat) (c : ConfigT) : Bool := (!upP s.Self p) || decide (s.Max ≤ c.Age) || ((infoP s.Self p).Has && !vlt c.Vec (infoP s.Self p).Vec && !(decide (c.Vec.Bridge = (infoP s.Self p).Vec.Bridge) && decide (c.Vec.Port = (infoP s.Self p).Vec.Port)))
theorem may_eq {s : StpT} (hc : s.Self.Costs.length ≤ 1000000) (hst : s.States.length ≤ 1000000) (p : Int) : stp_may s p = some (if StpOk s then (if p < 0 ∨ ((s.States.length : Nat) : Int) ≤ p then 3 else 0) else 1) := by
  unfold stp_may
  rw [stp_Right_eq _ hc hst, Option.bind_some]
  by_cases h : StpOk s
  · rw [if_pos h, decide_eq_true h]
    by_cases h1 : p < 0
    · simp [h1]
    · by_cases h2 : ((s.States.length : Nat) : Int) ≤ p <;> simp [h1, h2]
  · rw [if_neg h, decide_eq_false h]; rfl
theorem cfg_cond (c : ConfigT) : (bif (bif (!vR c.Vec) then true else (decide (c.Age < 0))) then true else (decide (255 < c.Age))) = !cfgOk c := by
  have e1 : decide (c.Age < 0) = !decide (0 ≤ c.Age) := by by_cases h : 0 ≤ c.Age <;> simp [h] <;> omega
  have e2 : decide (255 < c.Age) = !decide (c.Age ≤ 255) := by by_cases h : c.Age ≤ 255 <;> simp [h] <;> omega
  unfold cfgOk inB
  rw [e1, e2]
  cases vR c.Vec <;> cases decide (0 ≤ c.Age) <;> cases decide (c.Age ≤ 255) <;> rfl
theorem cfg_age {c : ConfigT} (h : cfgOk c = true) : vR c.Vec = true ∧ 0 ≤ c.Age ∧ c.Age ≤ 255 := by
  simpa [cfgOk, inB] using h
theorem cfg_info {c : ConfigT} {up : Bool} (h : cfgOk c = true) (hu : up = true) : infR ⟨true, c.Vec, c.Age⟩ up = true := by
  subst hu
  have := cfg_age h
  simp [infR, inB, this]
theorem Hear_eq {s : StpT} (h : StpOk s) {p : Nat} (hp : p < s.Self.Costs.length) {c : ConfigT} (hc : cfgOk c = true) :
    stp_Hear s (p : Int) c = some (bif idle s p c then (s, false, 0) else (stl (know s p ⟨true, c.Vec, c.Age⟩), true, 0)) := by
  obtain ⟨h1, h2, h3, h4⟩ := h.lens
  unfold stp_Hear
  rw [may_eq (by omega) (by omega), if_pos h, if_neg (by omega)]
  simp only [Option.bind_some, decide_true, Bool.not_true, cond_false, vec_Right_eq, cfg_cond, hc, h.1.info hp, h.1.up hp, vec_Better_eq (cfg_age hc).1 (infR_vec (h.1.inf hp))]
  have e : (bif (bif (!upP s.Self p) then true else (decide (s.Max ≤ c.Age))) then true else (bif (bif (infoP s.Self p).Has then (!vlt c.Vec (infoP s.Self p).Vec) else false) then (!(bif (decide (c.Vec.Bridge = (infoP s.Self p).Vec.Bridge)) then (decide (c.Vec.Port = (infoP s.Self p).Vec.Port)) else false)) else false)) = idle s p c := by
    unfold idle
    cases upP s.Self p <;> cases decide (s.Max ≤ c.Age) <;> cases (infoP s.Self p).Has <;> cases vlt c.Vec (infoP s.Self p).Vec <;> cases decide (c.Vec.Bridge = (infoP s.Self p).Vec.Bridge) <;> cases decide (c.Vec.Port = (infoP s.Self p).Vec.Port) <;> rfl
  rw [e]
  cases hi : idle s p c
  · have hu : upP s.Self p = true := by
      cases hu : upP s.Self p
      · simp [idle, hu] at hi
      · rfl
    simp only [cond_false, changed_Hear_eq h hp (cfg_info hc hu), Option.bind_some]
  · rfl
theorem mn12 (n : Nat) : (mn ((n : Nat) : Int) 12).toNat = min n 12 ∧ (0 : Int) ≤ mn ((n : Nat) : Int) 12 ∧ mn ((n : Nat) : Int) 12 ≤ ((n : Nat) : Int) := by
  unfold mn; split <;> omega
theorem take_min {α : Type} (l : List α) : l.take (min l.length 12) = l.take 12 := by
  rw [List.take_eq_take_iff]; omega
theorem alive12 : law12_alive = some true := by kernel_rfl
/-- An info a tick older. -/
def ageI (m : Int) (x : InfoT) : InfoT := if x.Has = true ∧ x.Age + 1 < m then ⟨true, x.Vec, x.Age + 1⟩ else zInfo
def aged (s : StpT) : StpT := ⟨⟨s.Self.ID, s.Self.Costs, s.Self.Ups, s.Self.Infos.map (ageI s.Max)⟩, s.States, s.Max, s.Delay⟩
theorem infR_z (up : Bool) : infR zInfo up = true := by cases up <;> rfl
theorem aged_len (s : StpT) : (aged s).Self.Infos.length = s.Self.Infos.length := by simp [aged]
theorem aged_info {s : StpT} {p : Nat} (hp : p < s.Self.Infos.length) : infoP (aged s).Self p = ageI s.Max (infoP s.Self p) := by
  show (s.Self.Infos.map (ageI s.Max)).getD p zInfo = _
  rw [List.getD_eq_getElem?_getD, List.getElem?_map, some_getD zInfo hp]; rfl
theorem ageI_inf {m : Int} {x : InfoT} {up : Bool} (h : infR x up = true) (hm : m ≤ 255) : infR (ageI m x) up = true := by
  unfold ageI
  split
  · rename_i hh
    obtain ⟨h1, h2, h3, h4⟩ := infR_has h hh.1
    subst h1
    have e1 : decide (0 ≤ x.Age + 1) = true := decide_eq_true (by omega)
    have e2 : decide (x.Age + 1 ≤ 255) = true := decide_eq_true (by omega)
    simp [infR, inB, h2, e1, e2]
  · exact infR_z _
theorem aged_ok {s : StpT} (h : StpOk s) : SelfOk (aged s).Self := by
  obtain ⟨h1, h2, h3, h4⟩ := h.lens
  refine ⟨h.1.1, h.1.2.1, h.1.2.2.1, by rw [aged_len]; exact h3, fun p hp => ⟨(h.1.2.2.2.2 p hp).1, ?_⟩⟩
  have hp' : p < s.Self.Costs.length := hp
  rw [aged_info (by omega)]
  exact ageI_inf (h.1.inf hp') h.2.2.1.2
/-- One more place done. -/
theorem range_set {α : Type} {n k : Nat} (f g : Nat → α) (hk : k < n) : ((List.range n).map (fun p => if p < k then f p else g p)).set k (f k) = (List.range n).map (fun p => if p < k + 1 then f p else g p) := by
  apply List.ext_getElem?
  intro i
  by_cases hi : i < n
  · rw [List.getElem?_map, List.getElem?_range hi, Option.map_some]
    by_cases hik : k = i
    · subst hik
      rw [List.getElem?_set_self (by simp; exact hk), if_pos (Nat.lt_succ_self k)]
    · rw [List.getElem?_set_ne hik, List.getElem?_map, List.getElem?_range hi, Option.map_some]
      by_cases h3 : i < k
      · rw [if_pos h3, if_pos (by omega)]
      · rw [if_neg h3, if_neg (by omega)]
  · rw [List.getElem?_eq_none (by simp; omega), List.getElem?_eq_none (by simp; omega)]
theorem range_at {α : Type} {n k : Nat} (f g : Nat → α) (hk : k < n) : gixN ((List.range n).map (fun p => if p < k then f p else g p)) k = some (g k) := by
  unfold gixN
  rw [List.getElem?_map, List.getElem?_range hk]; simp
theorem range_done {α : Type} {n : Nat} (f g : Nat → α) : (List.range n).map (fun p => if p < n then f p else g p) = (List.range n).map f := by
  apply List.map_congr_left
  intro p hp
  rw [List.mem_range] at hp
  rw [if_pos hp]
theorem range_none {α : Type} {n : Nat} (f g : Nat → α) : (List.range n).map (fun p => if p < 0 then f p else g p) = (List.range n).map g := by simp
theorem Tick1_eq {s : StpT} (h : StpOk s) : stp_Tick_1_x s = some (aged s) := by
  obtain ⟨h1, h2, h3, h4⟩ := h.lens
  obtain ⟨t, e1, e2⟩ := rangeN_inv (body := stp_Tick_1_x_b11) (n := ((s.Self.Infos.length : Nat) : Int)) (s0 := s) (by omega)
    (fun k t => t = ⟨⟨s.Self.ID, s.Self.Costs, s.Self.Ups, (List.range s.Self.Infos.length).map (fun p => if p < k then ageI s.Max (infoP s.Self p) else infoP s.Self p)⟩, s.States, s.Max, s.Delay⟩)
    (by
      rw [range_none, show (List.range s.Self.Infos.length).map (fun p => infoP s.Self p) = s.Self.Infos from map_getD s.Self.Infos zInfo]) (fun k t hk ht => by
      subst ht
      have hk' : k < s.Self.Infos.length := by omega
      have hinf := h.1.inf (p := k) (by omega)
      have ha := infR_age hinf
      have hw : IntKind.i64.wrap ((infoP s.Self k).Age + 1) = (infoP s.Self k).Age + 1 := w64i (by omega) (by omega)
      unfold stp_Tick_1_x_b11
      rw [grd_true ⟨by omega, by simp; exact hk'⟩]
      simp only [Int.toNat_natCast, range_at (fun p => ageI s.Max (infoP s.Self p)) (fun p => infoP s.Self p) hk', Option.bind_some, hw]
      have hg : gixN (((List.range s.Self.Infos.length).map (fun p => if p < k then ageI s.Max (infoP s.Self p) else infoP s.Self p)).set k ⟨(infoP s.Self k).Has, (infoP s.Self k).Vec, (infoP s.Self k).Age + 1⟩) k = some ⟨(infoP s.Self k).Has, (infoP s.Self k).Vec, (infoP s.Self k).Age + 1⟩ := by
        unfold gixN; rw [List.getElem?_set_self (by simp; exact hk')]
      simp only [hg, Option.bind_some, List.set_set]
      rw [← range_set (fun p => ageI s.Max (infoP s.Self p)) (fun p => infoP s.Self p) hk']
      cases hh : (infoP s.Self k).Has
      · have : ageI s.Max (infoP s.Self k) = zInfo := by unfold ageI; rw [if_neg (by rw [hh]; simp)]
        simp only [Bool.not_false, cond_true, this]
        exact ⟨_, rfl, rfl⟩
      · by_cases hm : s.Max ≤ (infoP s.Self k).Age + 1
        · have : ageI s.Max (infoP s.Self k) = zInfo := by unfold ageI; rw [if_neg (by omega)]
          simp only [decide_eq_true hm, Bool.not_true, cond_true, cond_false, this]
          exact ⟨_, rfl, rfl⟩
        · have : ageI s.Max (infoP s.Self k) = ⟨true, (infoP s.Self k).Vec, (infoP s.Self k).Age + 1⟩ := by unfold ageI; rw [if_pos ⟨hh, by omega⟩]
          simp only [decide_eq_false hm, Bool.not_true, cond_true, cond_false, this]
          exact ⟨_, rfl, rfl⟩)
  unfold stp_Tick_1_x
  rw [e1, aft_some_nxt, e2]
  unfold aged
  rw [Int.toNat_natCast, range_done]
  congr 3
  apply List.ext_getElem?
  intro i
  rw [List.getElem?_map, List.getElem?_map]
  by_cases hi : i < s.Self.Infos.length
  · rw [List.getElem?_range hi, some_getD zInfo hi]; rfl
  · rw [List.getElem?_eq_none (by simp; omega), List.getElem?_eq_none (by omega)]; rfl
theorem changed_Tick_eq {s : StpT} (h : StpOk s) : stp_changed_x1 s = some (stl (aged s)) := by
  obtain ⟨h1, h2, h3, h4⟩ := h.lens
  unfold stp_changed_x1
  simp only [copy_self]
  rw [grd_true (mk_ok (by omega) (by omega)), grd_true (mk_ok (by omega) (by omega)), clone_eq (by omega)]
  simp only [Option.bind_some]
  rw [show stp_Tick_1_x ⟨⟨s.Self.ID, s.Self.Costs, s.Self.Ups, s.Self.Infos⟩, s.States, s.Max, s.Delay⟩ = _ from Tick1_eq h]
  simp only [Option.bind_some]
  rw [Roles_eq _ (by show s.Self.Costs.length ≤ 1000000; omega), if_pos (aged_ok h)]
  simp only [Option.bind_some]
  rw [settle_loop (body := stp_changed_x1_b11) (fun k x s => rfl) _ _ (by simp [aged]; omega) (by show s.States.length ≤ 1000000; omega), aft_some_nxt, setl_stl (aged_ok h) h4 (fun q hq => (h.2.2.2 q hq).1)]
/-- A port's tick. -/
def tickP (d : Int) (x : PortStateT) : PortStateT := if 1 < x.Left then ⟨x.State, x.Left - 1⟩ else if x.State = 1 then ⟨2, d⟩ else if x.State = 2 then ⟨3, 0⟩ else x
theorem port_Tick_eq {x : PortStateT} {d : Int} (h : pR x d = true) : port_Tick x d = some (tickP d x, 0) := by
  have h' := h
  unfold pR at h'
  rw [decide_eq_true_eq] at h'
  unfold port_Tick tickP
  rw [port_Right_eq, h]
  simp only [Option.bind_some, Bool.not_true, cond_false]
  rw [w64i (by omega) (by omega)]
  by_cases h1 : 1 < x.Left
  · simp [h1]
  · by_cases h2 : x.State = 1
    · simp [h1, h2]
    · by_cases h3 : x.State = 2 <;> simp [h1, h2, h3]
theorem prole_pR {x : PortStateT} {d : Int} (a : Bool) (h : pR x d = true) : pR (prole x d a) d = true := by
  have h' := h
  unfold pR at h'
  rw [decide_eq_true_eq] at h'
  unfold prole
  split
  · unfold pR; rw [decide_eq_true_eq]; exact ⟨h'.1, h'.2.1, .inr ⟨.inl rfl, rfl⟩⟩
  · split
    · unfold pR; rw [decide_eq_true_eq]; exact ⟨h'.1, h'.2.1, .inl ⟨.inl rfl, h'.1, Int.le_refl _⟩⟩
    · exact h
/-- What a port is told to send. -/
def tellO (s : SelfT) (p : Nat) (m : Int) : Option ConfigT := if roleP s p = 1 ∧ ageP s < m then some ⟨tellsP s p, ageP s⟩ else none
theorem role_Tell_eq {s : SelfT} (h : SelfOk s) {p : Nat} (hp : p < s.Costs.length) {m : Int} (hm : 1 ≤ m ∧ m ≤ 255) :
    role_Tell s (p : Int) m = some (match tellO s p m with | some c => (c, true, 0) | none => (⟨⟨0, 0, 0, 0⟩, 0⟩, false, 0)) := by
  have hn := h.n8
  have hw : IntKind.i64.wrap (((s.Costs.length : Nat) : Int) - 1) = ((s.Costs.length : Nat) : Int) - 1 := w64i (by omega) (by omega)
  have i1 : (decide ((0 : Int) ≤ (p : Int)) && decide ((p : Int) ≤ ((s.Costs.length : Nat) : Int) - 1)) = true := by simp; omega
  have i2 : (decide (1 ≤ m) && decide (m ≤ 255)) = true := by simp; exact hm
  unfold role_Tell
  rw [role_Right_eq s (by omega), decide_eq_true h]
  simp only [role_in_eq, hw, i1, i2, Option.bind_some, Bool.not_true, cond_false, wayOf_eq h]
  have core : ((role_portOf s (toU (rootP s))).bind fun y92 =>
          (gd (!(decide (m ≤ y92.2))) (role_role s (toU (rootP s)) (p : Int))).bind fun y94 =>
          (bif (bif (decide (m ≤ y92.2)) then true else (!decide (y94 = 1))) then
            some ((⟨(⟨0, 0, 0, 0⟩ : VecT), 0⟩ : ConfigT), false, (0 : Int))
          else
            (role_tells s (toU (rootP s)) (p : Int)).bind fun y96 =>
            some ((⟨y96, y92.2⟩ : ConfigT), true, 0))) = some (match tellO s p m with | some c => (c, true, 0) | none => (⟨⟨0, 0, 0, 0⟩, 0⟩, false, 0)) := by
    simp only [portOf_eq h, role_eq h hp, tells_eq h, Option.bind_some]
    unfold tellO
    by_cases h1 : m ≤ ageP s
    · have : ¬ (roleP s p = 1 ∧ ageP s < m) := by omega
      simp [h1, gd, this]
    · have h2 : ageP s < m := by omega
      by_cases h3 : roleP s p = 1 <;> simp [h1, h2, h3, gd]
  cases hr : rootP s with
  | none => rw [hr] at core; exact core
  | some q => rw [hr] at core; exact core
def sends (s : StpT) (k : Nat) : List SendT := (List.range k).filterMap fun p => (tellO s.Self p s.Max).map fun c => ⟨(p : Int), c⟩
theorem sends_succ (s : StpT) (k : Nat) : sends s (k + 1) = match tellO s.Self k s.Max with | some c => sends s k ++ [⟨(k : Int), c⟩] | none => sends s k := by
  unfold sends
  rw [List.range_succ, List.filterMap_append]
  cases h : tellO s.Self k s.Max <;> simp [h]
theorem sends_len (s : StpT) (k : Nat) : (sends s k).length ≤ k := by
  have := List.length_filterMap_le (fun p => (tellO s.Self p s.Max).map fun c => (⟨(p : Int), c⟩ : SendT)) (List.range k)
  rwa [List.length_range] at this
/-- The ports after a tick. -/
def tickS (s : StpT) : StpT := ⟨s.Self, (List.range s.States.length).map (fun p => tickP s.Delay (stP s p)), s.Max, s.Delay⟩
theorem stl_st {s : StpT} {p : Nat} (hp : p < s.States.length) : stP (stl s) p = prole (stP s p) s.Delay (act (roleP s.Self p)) := by
  unfold stP stl
  rw [List.getD_eq_getElem?_getD, List.getElem?_map, List.getElem?_range hp]; rfl
theorem stl_slen (s : StpT) : (stl s).States.length = s.States.length := by simp [stl]
/-- What is known of an aged and settled tree. -/
structure Ripe (y : StpT) : Prop where
  self : SelfOk y.Self
  len : y.States.length = y.Self.Costs.length
  max : 1 ≤ y.Max ∧ y.Max ≤ 255
  st : ∀ p, p < y.Self.Costs.length → pR (stP y p) y.Delay = true
theorem ripe_stl {s : StpT} (h1 : SelfOk s.Self) (h2 : s.States.length = s.Self.Costs.length) (h3 : 1 ≤ s.Max ∧ s.Max ≤ 255) (h4 : ∀ p, p < s.Self.Costs.length → pR (stP s p) s.Delay = true) : Ripe (stl s) :=
  ⟨h1, by rw [stl_slen]; exact h2, h3, fun p hp => by
    have hp' : p < s.Self.Costs.length := hp
    rw [stl_st (by omega)]; exact prole_pR _ (h4 p hp')⟩
theorem Tick_loop {y : StpT} (h : Ripe y) : rangeN stp_Tick_b12 ((y.States.length : Nat) : Int) ([], y) = some (.nxt (sends y y.States.length, tickS y)) := by
  have hn := h.self.n8
  have hl := h.len
  obtain ⟨t, e1, e2⟩ := rangeN_inv (body := stp_Tick_b12) (n := ((y.States.length : Nat) : Int)) (s0 := (([] : List SendT), y)) (by omega)
    (fun k t => t = (sends y k, ⟨y.Self, (List.range y.States.length).map (fun p => if p < k then tickP y.Delay (stP y p) else stP y p), y.Max, y.Delay⟩))
    (by
      rw [range_none, show (List.range y.States.length).map (fun p => stP y p) = y.States from map_getD y.States ⟨0, 0⟩]; rfl) (fun k t hk ht => by
      subst ht
      have hk' : k < y.States.length := by omega
      unfold stp_Tick_b12
      rw [grd_true ⟨by omega, by simp; exact hk'⟩]
      simp only [Int.toNat_natCast, range_at (fun p => tickP y.Delay (stP y p)) (fun p => stP y p) hk', Option.bind_some, port_Tick_eq (h.st k (by omega))]
      rw [grd_true ⟨by omega, by simp; exact hk'⟩, role_Tell_eq h.self (by omega) h.max]
      simp only [Option.bind_some]
      rw [range_set (fun p => tickP y.Delay (stP y p)) (fun p => stP y p) hk']
      have hsl := sends_len y k
      cases ho : tellO y.Self k y.Max with
      | none =>
        simp only [cond_false]
        exact ⟨_, rfl, by rw [sends_succ, ho]⟩
      | some c =>
        simp only [cond_true]
        rw [grd_true (fits_small (by rw [List.length_append]; simp; omega) (by omega))]
        exact ⟨_, rfl, by rw [sends_succ, ho]⟩)
  rw [e1, e2, Int.toNat_natCast, range_done]
  rfl
theorem ripe_aged {s : StpT} (h : StpOk s) : Ripe (stl (aged s)) :=
  ripe_stl (aged_ok h) h.2.1 h.2.2.1 (fun p hp => (h.2.2.2 p hp).1)
theorem stp_Tick_eq {s : StpT} (h : StpOk s) : stp_Tick s = some (tickS (stl (aged s)), sends (stl (aged s)) s.States.length, 0) := by
  obtain ⟨h1, h2, h3, h4⟩ := h.lens
  unfold stp_Tick
  rw [stp_Right_eq _ (by omega) (by omega), decide_eq_true h]
  simp only [Option.bind_some, Bool.not_true, cond_false, changed_Tick_eq h]
  rw [Tick_loop (ripe_aged h), aft_some_nxt, stl_slen]
  rfl
/-- Who may forward. -/
def fwds (s : StpT) (k : Nat) : List Int := (List.range k).filterMap fun p => if (stP s p).State = 3 then some (p : Int) else none
theorem fwds_succ (s : StpT) (k : Nat) : fwds s (k + 1) = if (stP s k).State = 3 then fwds s k ++ [(k : Int)] else fwds s k := by
  unfold fwds
  rw [List.range_succ, List.filterMap_append]
  by_cases h : (stP s k).State = 3 <;> simp [h]
theorem fwds_len (s : StpT) (k : Nat) : (fwds s k).length ≤ k := by
  have := List.length_filterMap_le (fun p => if (stP s p).State = 3 then some (p : Int) else none) (List.range k)
  rwa [List.length_range] at this
theorem fwd_loop {ρ : Type} {body : Nat → PortStateT → List Int → Option (Step ρ (List Int))} (hb : ∀ k x s, body k x s = (bif (decide (x.State = 3)) then grd (fits ((s ++ ([((k : Nat) : Int)] : (List Int))) : List Int).length 8) <| some (.nxt (s ++ ([((k : Nat) : Int)] : (List Int)))) else some (.nxt s))) (s : StpT) (hl : s.States.length ≤ 100) :
    rangeL body s.States [] = some (.nxt (fwds s s.States.length)) := by
  obtain ⟨t, e1, e2⟩ := rangeL_inv (s0 := ([] : List Int)) (body := body) (xs := s.States) (by omega) (fun k t => t = fwds s k) rfl (fun k x t hx ht => by
    have hk := (List.getElem?_eq_some_iff.1 hx).1
    have hxe : stP s k = x := getD_some hx
    have := fwds_len s k
    subst ht
    rw [hb, fwds_succ, hxe]
    by_cases h3 : x.State = 3
    · simp only [decide_eq_true h3, cond_true]
      rw [grd_true (fits_small (by rw [List.length_append]; simp; omega) (by omega))]
      exact ⟨_, rfl, by rw [if_pos h3]⟩
    · simp only [decide_eq_false h3, cond_false]
      exact ⟨_, rfl, by rw [if_neg h3]⟩)
  rw [e1, e2]
theorem stp_Forwards_eq {s : StpT} (h : StpOk s) : stp_Forwards s = some (fwds s s.States.length, 0) := by
  obtain ⟨h1, h2, h3, h4⟩ := h.lens
  unfold stp_Forwards
  rw [stp_Right_eq _ (by omega) (by omega), decide_eq_true h]
  simp only [Option.bind_some, Bool.not_true, cond_false]
  rw [fwd_loop (body := stp_Forwards_b13) (fun k x s => rfl) s (by omega), aft_some_nxt]
def lnk (s : StpT) (p : Nat) (b : Bool) : StpT := if b = false ∨ upP s.Self p = false then ⟨⟨s.Self.ID, s.Self.Costs, s.Self.Ups.set p b, s.Self.Infos.set p zInfo⟩, s.States, s.Max, s.Delay⟩ else ⟨⟨s.Self.ID, s.Self.Costs, s.Self.Ups.set p b, s.Self.Infos⟩, s.States, s.Max, s.Delay⟩
theorem lnk_ok {s : StpT} (h : SelfOk s.Self) {p : Nat} (hp : p < s.Self.Costs.length) (b : Bool) : SelfOk (lnk s p b).Self := by
  have hu : ∀ q, q ≠ p → (s.Self.Ups.set p b).getD q false = upP s.Self q := fun q hq => by
    rw [List.getD_eq_getElem?_getD, List.getElem?_set_ne (fun h => hq h.symm), ← List.getD_eq_getElem?_getD]; rfl
  have hup : (s.Self.Ups.set p b).getD p false = b := by
    rw [List.getD_eq_getElem?_getD, List.getElem?_set_self (by rw [h.2.2.1]; exact hp)]; rfl
  unfold lnk
  split
  · refine ⟨h.1, h.2.1, by simp; exact h.2.2.1, by simp; exact h.2.2.2.1, fun q hq => ?_⟩
    obtain ⟨h1, h2⟩ := h.2.2.2.2 q hq
    refine ⟨h1, ?_⟩
    show infR ((s.Self.Infos.set p zInfo).getD q zInfo) ((s.Self.Ups.set p b).getD q false) = true
    by_cases hpq : q = p
    · subst hpq
      have : (s.Self.Infos.set q zInfo).getD q zInfo = zInfo := by
        rw [List.getD_eq_getElem?_getD, List.getElem?_set_self (by rw [h.2.2.2.1]; exact hp)]; rfl
      rw [this]; exact infR_z _
    · rw [hu q hpq, List.getD_eq_getElem?_getD, List.getElem?_set_ne (fun h => hpq h.symm), ← List.getD_eq_getElem?_getD]
      exact h2
  · rename_i hn
    refine ⟨h.1, h.2.1, by simp; exact h.2.2.1, h.2.2.2.1, fun q hq => ?_⟩
    obtain ⟨h1, h2⟩ := h.2.2.2.2 q hq
    refine ⟨h1, ?_⟩
    show infR (infoP s.Self q) ((s.Self.Ups.set p b).getD q false) = true
    by_cases hpq : q = p
    · subst hpq
      rw [hup]
      have hb : b = true := by cases b <;> simp at hn ⊢
      have hv : upP s.Self q = true := by cases hv : upP s.Self q <;> simp [hv] at hn ⊢
      rw [hv] at h2
      rw [hb]; exact h2
    · rw [hu q hpq]; exact h2
theorem lnk_cs (s : StpT) (p : Nat) (b : Bool) : (lnk s p b).Self.Costs = s.Self.Costs ∧ (lnk s p b).States = s.States ∧ (lnk s p b).Delay = s.Delay ∧ (lnk s p b).Max = s.Max := by
  unfold lnk; split <;> exact ⟨rfl, rfl, rfl, rfl⟩
theorem Link1_eq {s : StpT} (h : StpOk s) {p : Nat} (hp : p < s.Self.Costs.length) (b : Bool) : stp_Link_1_x s b (p : Int) = some (lnk s p b) := by
  obtain ⟨h1, h2, h3, h4⟩ := h.lens
  have hg : gixN s.Self.Ups p = some (upP s.Self p) := some_getD _ (by omega)
  have hi : gixN s.Self.Infos p = some (infoP s.Self p) := some_getD _ (by omega)
  unfold stp_Link_1_x
  rw [grd_true (fun _ => ⟨by omega, by omega⟩)]
  simp only [Int.toNat_natCast, hg, hi, Option.bind_some]
  rw [grd_true ⟨by omega, by omega⟩, grd_true ⟨by omega, by omega⟩, grd_true ⟨by omega, by omega⟩]
  unfold lnk
  cases b <;> cases upP s.Self p <;> rfl
theorem changed_Link_eq {s : StpT} (h : StpOk s) {p : Nat} (hp : p < s.Self.Costs.length) (b : Bool) : stp_changed_x3 s b (p : Int) = some (stl (lnk s p b)) := by
  obtain ⟨h1, h2, h3, h4⟩ := h.lens
  have hk := lnk_ok h.1 hp b
  obtain ⟨c1, c2, c3, c4⟩ := lnk_cs s p b
  unfold stp_changed_x3
  simp only [copy_self]
  rw [grd_true (mk_ok (by omega) (by omega)), grd_true (mk_ok (by omega) (by omega)), clone_eq (by omega)]
  simp only [Option.bind_some]
  rw [show stp_Link_1_x ⟨⟨s.Self.ID, s.Self.Costs, s.Self.Ups, s.Self.Infos⟩, s.States, s.Max, s.Delay⟩ b (p : Int) = _ from Link1_eq h hp b]
  simp only [Option.bind_some]
  rw [Roles_eq _ (by rw [c1]; omega), if_pos hk]
  simp only [Option.bind_some]
  rw [settle_loop (body := stp_changed_x3_b15) (fun k x s => rfl) _ _ (by rw [c1, c2]; simp; omega) (by rw [c2]; omega), aft_some_nxt, setl_stl hk (by rw [c1, c2]; exact h4) (fun q hq => by
    rw [c1] at hq
    unfold stP
    rw [c2, c3]
    exact (h.2.2.2 q hq).1)]
theorem stp_Link_eq {s : StpT} (h : StpOk s) {p : Nat} (hp : p < s.Self.Costs.length) (b : Bool) : stp_Link s (p : Int) b = some (stl (lnk s p b), 0) := by
  obtain ⟨h1, h2, h3, h4⟩ := h.lens
  unfold stp_Link
  rw [may_eq (by omega) (by omega), if_pos h, if_neg (by omega)]
  simp only [Option.bind_some, decide_true, Bool.not_true, cond_false, changed_Link_eq h hp]
end Go.RX
