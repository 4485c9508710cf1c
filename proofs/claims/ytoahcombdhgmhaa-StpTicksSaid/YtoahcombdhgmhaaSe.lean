/- A tree that ticks, plainly; the law of ticks. -/
import Derived.Test.YtoahcombdhgmhaaTf
import Derived.Test.YtoahcombdhgmhaaSd
set_option linter.unusedVariables false
set_option linter.unusedSimpArgs false
namespace Go.RX
set_option maxHeartbeats 1000000

/-- An info a tick older. -/
def ageI (m : Int) (x : InfoT) : InfoT := if x.Has = true ∧ x.Age + 1 < m then ⟨true, x.Vec, x.Age + 1⟩ else zInfo
def aged (s : StpT) : StpT := ⟨⟨s.Self.ID, s.Self.Costs, s.Self.Ups, s.Self.Infos.map (ageI s.Max)⟩, s.States, s.Max, s.Delay⟩
theorem infR_z (up : Bool) : infR zInfo up = true := by cases up <;> rfl
theorem aged_len (s : StpT) : (aged s).Self.Infos.length = s.Self.Infos.length := by simp [aged]
theorem aged_info {s : StpT} {p : Nat} (hp : p < s.Self.Infos.length) : infoP (aged s).Self p = ageI s.Max (infoP s.Self p) := by
  show (s.Self.Infos.map (ageI s.Max)).getD p zInfo = _
  rw [List.getD_eq_getElem?_getD, List.getElem?_map, some_getD zInfo hp]; rfl
theorem ageI_inf {m : Int} {x : InfoT} {up : Bool} (h : infR x up = true) (hm : m ≤ 255) : infR (ageI m x) up = true := by
  unfold ageI
  split
  · rename_i hh
    obtain ⟨h1, h2, h3, h4⟩ := infR_has h hh.1
    subst h1
    have e1 : decide (0 ≤ x.Age + 1) = true := decide_eq_true (by omega)
    have e2 : decide (x.Age + 1 ≤ 255) = true := decide_eq_true (by omega)
    simp [infR, inB, h2, e1, e2]
  · exact infR_z _
theorem aged_ok {s : StpT} (h : StpOk s) : SelfOk (aged s).Self := by
  obtain ⟨h1, h2, h3, h4⟩ := h.lens
  refine ⟨h.1.1, h.1.2.1, h.1.2.2.1, by rw [aged_len]; exact h3, fun p hp => ⟨(h.1.2.2.2.2 p hp).1, ?_⟩⟩
  have hp' : p < s.Self.Costs.length := hp
  rw [aged_info (by omega)]
  exact ageI_inf (h.1.inf hp') h.2.2.1.2
theorem range_map_eq {α : Type} {l : List α} {f : Nat → α} (h : ∀ p, p < l.length → l[p]? = some (f p)) : (List.range l.length).map f = l := by
  apply List.ext_getElem?
  intro i
  rw [List.getElem?_map]
  by_cases hi : i < l.length
  · rw [List.getElem?_range hi, Option.map_some, h i hi]
  · rw [List.getElem?_eq_none (by simp; omega), List.getElem?_eq_none (by omega)]; rfl
/-- One more place done. -/
theorem range_set {α : Type} {n k : Nat} (f g : Nat → α) (hk : k < n) : ((List.range n).map (fun p => if p < k then f p else g p)).set k (f k) = (List.range n).map (fun p => if p < k + 1 then f p else g p) := by
  apply List.ext_getElem?
  intro i
  by_cases hi : i < n
  · rw [List.getElem?_map, List.getElem?_range hi, Option.map_some]
    by_cases hik : k = i
    · subst hik
      rw [List.getElem?_set_self (by simp; exact hk), if_pos (Nat.lt_succ_self k)]
    · rw [List.getElem?_set_ne hik, List.getElem?_map, List.getElem?_range hi, Option.map_some]
      by_cases h3 : i < k
      · rw [if_pos h3, if_pos (by omega)]
      · rw [if_neg h3, if_neg (by omega)]
  · rw [List.getElem?_eq_none (by simp; omega), List.getElem?_eq_none (by simp; omega)]
theorem range_at {α : Type} {n k : Nat} (f g : Nat → α) (hk : k < n) : gixN ((List.range n).map (fun p => if p < k then f p else g p)) k = some (g k) := by
  unfold gixN
  rw [List.getElem?_map, List.getElem?_range hk]; simp
theorem range_done {α : Type} {n : Nat} (f g : Nat → α) : (List.range n).map (fun p => if p < n then f p else g p) = (List.range n).map f := by
  apply List.map_congr_left
  intro p hp
  rw [List.mem_range] at hp
  rw [if_pos hp]
theorem range_none {α : Type} {n : Nat} (f g : Nat → α) : (List.range n).map (fun p => if p < 0 then f p else g p) = (List.range n).map g := by simp

theorem Tick1_eq {s : StpT} (h : StpOk s) : stp_Tick_1_x s = some (aged s) := by
  obtain ⟨h1, h2, h3, h4⟩ := h.lens
  obtain ⟨t, e1, e2⟩ := rangeN_inv (body := stp_Tick_1_x_b11) (n := ((s.Self.Infos.length : Nat) : Int)) (s0 := s) (by omega)
    (fun k t => t = ⟨⟨s.Self.ID, s.Self.Costs, s.Self.Ups, (List.range s.Self.Infos.length).map (fun p => if p < k then ageI s.Max (infoP s.Self p) else infoP s.Self p)⟩, s.States, s.Max, s.Delay⟩)
    (by
      rw [range_none, show (List.range s.Self.Infos.length).map (fun p => infoP s.Self p) = s.Self.Infos from map_getD s.Self.Infos zInfo]) (fun k t hk ht => by
      subst ht
      have hk' : k < s.Self.Infos.length := by omega
      have hinf := h.1.inf (p := k) (by omega)
      have ha := infR_age hinf
      have hw : IntKind.i64.wrap ((infoP s.Self k).Age + 1) = (infoP s.Self k).Age + 1 := w64i (by omega) (by omega)
      unfold stp_Tick_1_x_b11
      rw [grd_true ⟨by omega, by simp; exact hk'⟩]
      simp only [Int.toNat_natCast, range_at (fun p => ageI s.Max (infoP s.Self p)) (fun p => infoP s.Self p) hk', Option.bind_some, hw]
      have hg : gixN (((List.range s.Self.Infos.length).map (fun p => if p < k then ageI s.Max (infoP s.Self p) else infoP s.Self p)).set k ⟨(infoP s.Self k).Has, (infoP s.Self k).Vec, (infoP s.Self k).Age + 1⟩) k = some ⟨(infoP s.Self k).Has, (infoP s.Self k).Vec, (infoP s.Self k).Age + 1⟩ := by
        unfold gixN; rw [List.getElem?_set_self (by simp; exact hk')]
      simp only [hg, Option.bind_some, List.set_set]
      rw [← range_set (fun p => ageI s.Max (infoP s.Self p)) (fun p => infoP s.Self p) hk']
      cases hh : (infoP s.Self k).Has
      · have : ageI s.Max (infoP s.Self k) = zInfo := by unfold ageI; rw [if_neg (by rw [hh]; simp)]
        simp only [Bool.not_false, cond_true, this]
        exact ⟨_, rfl, rfl⟩
      · by_cases hm : s.Max ≤ (infoP s.Self k).Age + 1
        · have : ageI s.Max (infoP s.Self k) = zInfo := by unfold ageI; rw [if_neg (by omega)]
          simp only [decide_eq_true hm, Bool.not_true, cond_true, cond_false, this]
          exact ⟨_, rfl, rfl⟩
        · have : ageI s.Max (infoP s.Self k) = ⟨true, (infoP s.Self k).Vec, (infoP s.Self k).Age + 1⟩ := by unfold ageI; rw [if_pos ⟨hh, by omega⟩]
          simp only [decide_eq_false hm, Bool.not_true, cond_true, cond_false, this]
          exact ⟨_, rfl, rfl⟩)
  unfold stp_Tick_1_x
  rw [e1, aft_some_nxt, e2]
  unfold aged
  rw [Int.toNat_natCast, range_done]
  congr 3
  apply List.ext_getElem?
  intro i
  rw [List.getElem?_map, List.getElem?_map]
  by_cases hi : i < s.Self.Infos.length
  · rw [List.getElem?_range hi, some_getD zInfo hi]; rfl
  · rw [List.getElem?_eq_none (by simp; omega), List.getElem?_eq_none (by omega)]; rfl
theorem changed_Tick_eq {s : StpT} (h : StpOk s) : stp_changed_x1 s = some (stl (aged s)) := by
  obtain ⟨h1, h2, h3, h4⟩ := h.lens
  unfold stp_changed_x1
  simp only [copy_self]
  rw [grd_true (mk_ok (by omega) (by omega)), grd_true (mk_ok (by omega) (by omega)), clone_eq (by omega)]
  simp only [Option.bind_some]
  rw [show stp_Tick_1_x ⟨⟨s.Self.ID, s.Self.Costs, s.Self.Ups, s.Self.Infos⟩, s.States, s.Max, s.Delay⟩ = _ from Tick1_eq h]
  simp only [Option.bind_some]
  rw [Roles_eq _ (by show s.Self.Costs.length ≤ 1000000; omega), if_pos (aged_ok h)]
  simp only [Option.bind_some]
  rw [settle_loop (body := stp_changed_x1_b11) (fun k x s => rfl) _ _ (by simp [aged]; omega) (by show s.States.length ≤ 1000000; omega), aft_some_nxt, setl_stl (aged_ok h) h4 (fun q hq => (h.2.2.2 q hq).1)]

/-- A port's tick. -/
def tickP (d : Int) (x : PortStateT) : PortStateT := if 1 < x.Left then ⟨x.State, x.Left - 1⟩ else if x.State = 1 then ⟨2, d⟩ else if x.State = 2 then ⟨3, 0⟩ else x
theorem port_Tick_eq {x : PortStateT} {d : Int} (h : pR x d = true) : port_Tick x d = some (tickP d x, 0) := by
  have h' := h
  unfold pR at h'
  rw [decide_eq_true_eq] at h'
  unfold port_Tick tickP
  rw [port_Right_eq, h]
  simp only [Option.bind_some, Bool.not_true, cond_false]
  rw [w64i (by omega) (by omega)]
  by_cases h1 : 1 < x.Left
  · simp [h1]
  · by_cases h2 : x.State = 1
    · simp [h1, h2]
    · by_cases h3 : x.State = 2 <;> simp [h1, h2, h3]
theorem ref10_Tick_eq {x : PortStateT} {d : Int} (h : pR x d = true) : ref10_Tick x d = some (tickP d x) := by
  unfold pR at h
  rw [decide_eq_true_eq] at h
  unfold ref10_Tick tickP
  rw [w64i (by omega) (by omega)]
  by_cases h2 : x.State = 1
  · by_cases h1 : 1 < x.Left <;> simp [h1, h2]
  · by_cases h3 : x.State = 2
    · by_cases h1 : 1 < x.Left <;> simp [h1, h3]
    · have h1 : ¬ 1 < x.Left := by omega
      simp [h1, h2, h3]
theorem prole_pR {x : PortStateT} {d : Int} (a : Bool) (h : pR x d = true) : pR (prole x d a) d = true := by
  have h' := h
  unfold pR at h'
  rw [decide_eq_true_eq] at h'
  unfold prole
  split
  · unfold pR; rw [decide_eq_true_eq]; exact ⟨h'.1, h'.2.1, .inr ⟨.inl rfl, rfl⟩⟩
  · split
    · unfold pR; rw [decide_eq_true_eq]; exact ⟨h'.1, h'.2.1, .inl ⟨.inl rfl, h'.1, Int.le_refl _⟩⟩
    · exact h

/-- What a port is told to send. -/
def tellO (s : SelfT) (p : Nat) (m : Int) : Option ConfigT := if roleP s p = 1 ∧ ageP s < m then some ⟨tellsP s p, ageP s⟩ else none
theorem role_Tell_eq {s : SelfT} (h : SelfOk s) {p : Nat} (hp : p < s.Costs.length) {m : Int} (hm : 1 ≤ m ∧ m ≤ 255) :
    role_Tell s (p : Int) m = some (match tellO s p m with | some c => (c, true, 0) | none => (⟨⟨0, 0, 0, 0⟩, 0⟩, false, 0)) := by
  have hn := h.n8
  have hw : IntKind.i64.wrap (((s.Costs.length : Nat) : Int) - 1) = ((s.Costs.length : Nat) : Int) - 1 := w64i (by omega) (by omega)
  have i1 : (decide ((0 : Int) ≤ (p : Int)) && decide ((p : Int) ≤ ((s.Costs.length : Nat) : Int) - 1)) = true := by simp; omega
  have i2 : (decide (1 ≤ m) && decide (m ≤ 255)) = true := by simp; exact hm
  unfold role_Tell
  rw [role_Right_eq s (by omega), decide_eq_true h]
  simp only [role_in_eq, hw, i1, i2, Option.bind_some, Bool.not_true, cond_false, wayOf_eq h]
  have core : ((role_portOf s (toU (rootP s))).bind fun y92 =>
          (gd (!(decide (m ≤ y92.2))) (role_role s (toU (rootP s)) (p : Int))).bind fun y94 =>
          (bif (bif (decide (m ≤ y92.2)) then true else (!decide (y94 = 1))) then
            some ((⟨(⟨0, 0, 0, 0⟩ : VecT), 0⟩ : ConfigT), false, (0 : Int))
          else
            (role_tells s (toU (rootP s)) (p : Int)).bind fun y96 =>
            some ((⟨y96, y92.2⟩ : ConfigT), true, 0))) = some (match tellO s p m with | some c => (c, true, 0) | none => (⟨⟨0, 0, 0, 0⟩, 0⟩, false, 0)) := by
    simp only [portOf_eq h, role_eq h hp, tells_eq h, Option.bind_some]
    unfold tellO
    by_cases h1 : m ≤ ageP s
    · have : ¬ (roleP s p = 1 ∧ ageP s < m) := by omega
      simp [h1, gd, this]
    · have h2 : ageP s < m := by omega
      by_cases h3 : roleP s p = 1 <;> simp [h1, h2, h3, gd]
  cases hr : rootP s with
  | none => rw [hr] at core; exact core
  | some q => rw [hr] at core; exact core
theorem ref11_Tell_eq {s : SelfT} (h : SelfOk s) {p : Nat} (hp : p < s.Costs.length) (m : Int) :
    ref11_Tell s (p : Int) m = some (match tellO s p m with | some c => (c, true) | none => (⟨⟨0, 0, 0, 0⟩, 0⟩, false)) := by
  unfold ref11_Tell
  rw [ref11_RootPort_eq h]
  simp only [Option.bind_some, ref11_Role_eq h hp, ref11_Tells_eq h]
  unfold tellO
  unfold portP ageP
  cases hr : rootP s with
  | none =>
    simp only [show decide ((0 : Int) ≤ -1) = false from rfl, cond_false]
    by_cases h1 : m ≤ 0
    · have h2 : ¬ (0 : Int) < m := by omega
      by_cases h3 : roleP s p = 1 <;> simp [h1, h2, h3]
    · have h2 : (0 : Int) < m := by omega
      by_cases h3 : roleP s p = 1 <;> simp [h1, h2, h3]
  | some q =>
    obtain ⟨hq, _⟩ := rootP_mem hr
    have ha := infR_age (h.inf hq)
    simp only [decide_eq_true (show (0 : Int) ≤ (q : Int) by omega), cond_true, h.info hq, Option.bind_some, w64i (show -9223372036854775808 ≤ (infoP s q).Age + 1 by omega) (by omega)]
    by_cases h1 : m ≤ (infoP s q).Age + 1
    · have h2 : ¬ (infoP s q).Age + 1 < m := by omega
      by_cases h3 : roleP s p = 1 <;> simp [h1, h2, h3]
    · have h2 : (infoP s q).Age + 1 < m := by omega
      by_cases h3 : roleP s p = 1 <;> simp [h1, h2, h3]
def sends (s : StpT) (k : Nat) : List SendT := (List.range k).filterMap fun p => (tellO s.Self p s.Max).map fun c => ⟨(p : Int), c⟩
theorem sends_succ (s : StpT) (k : Nat) : sends s (k + 1) = match tellO s.Self k s.Max with | some c => sends s k ++ [⟨(k : Int), c⟩] | none => sends s k := by
  unfold sends
  rw [List.range_succ, List.filterMap_append]
  cases h : tellO s.Self k s.Max <;> simp [h]
theorem sends_len (s : StpT) (k : Nat) : (sends s k).length ≤ k := by
  have := List.length_filterMap_le (fun p => (tellO s.Self p s.Max).map fun c => (⟨(p : Int), c⟩ : SendT)) (List.range k)
  rwa [List.length_range] at this
/-- The ports after a tick. -/
def tickS (s : StpT) : StpT := ⟨s.Self, (List.range s.States.length).map (fun p => tickP s.Delay (stP s p)), s.Max, s.Delay⟩
theorem stl_st {s : StpT} {p : Nat} (hp : p < s.States.length) : stP (stl s) p = prole (stP s p) s.Delay (act (roleP s.Self p)) := by
  unfold stP stl
  rw [List.getD_eq_getElem?_getD, List.getElem?_map, List.getElem?_range hp]; rfl
theorem stl_slen (s : StpT) : (stl s).States.length = s.States.length := by simp [stl]
/-- What is known of an aged and settled tree. -/
structure Ripe (y : StpT) : Prop where
  self : SelfOk y.Self
  len : y.States.length = y.Self.Costs.length
  max : 1 ≤ y.Max ∧ y.Max ≤ 255
  st : ∀ p, p < y.Self.Costs.length → pR (stP y p) y.Delay = true
theorem ripe_stl {s : StpT} (h1 : SelfOk s.Self) (h2 : s.States.length = s.Self.Costs.length) (h3 : 1 ≤ s.Max ∧ s.Max ≤ 255) (h4 : ∀ p, p < s.Self.Costs.length → pR (stP s p) s.Delay = true) : Ripe (stl s) :=
  ⟨h1, by rw [stl_slen]; exact h2, h3, fun p hp => by
    have hp' : p < s.Self.Costs.length := hp
    rw [stl_st (by omega)]; exact prole_pR _ (h4 p hp')⟩
theorem Tick_loop {y : StpT} (h : Ripe y) : rangeN stp_Tick_b12 ((y.States.length : Nat) : Int) ([], y) = some (.nxt (sends y y.States.length, tickS y)) := by
  have hn := h.self.n8
  have hl := h.len
  obtain ⟨t, e1, e2⟩ := rangeN_inv (body := stp_Tick_b12) (n := ((y.States.length : Nat) : Int)) (s0 := (([] : List SendT), y)) (by omega)
    (fun k t => t = (sends y k, ⟨y.Self, (List.range y.States.length).map (fun p => if p < k then tickP y.Delay (stP y p) else stP y p), y.Max, y.Delay⟩))
    (by
      rw [range_none, show (List.range y.States.length).map (fun p => stP y p) = y.States from map_getD y.States ⟨0, 0⟩]; rfl) (fun k t hk ht => by
      subst ht
      have hk' : k < y.States.length := by omega
      unfold stp_Tick_b12
      rw [grd_true ⟨by omega, by simp; exact hk'⟩]
      simp only [Int.toNat_natCast, range_at (fun p => tickP y.Delay (stP y p)) (fun p => stP y p) hk', Option.bind_some, port_Tick_eq (h.st k (by omega))]
      rw [grd_true ⟨by omega, by simp; exact hk'⟩, role_Tell_eq h.self (by omega) h.max]
      simp only [Option.bind_some]
      rw [range_set (fun p => tickP y.Delay (stP y p)) (fun p => stP y p) hk']
      have hsl := sends_len y k
      cases ho : tellO y.Self k y.Max with
      | none =>
        simp only [cond_false]
        exact ⟨_, rfl, by rw [sends_succ, ho]⟩
      | some c =>
        simp only [cond_true]
        rw [grd_true (fits_small (by rw [List.length_append]; simp; omega) (by omega))]
        exact ⟨_, rfl, by rw [sends_succ, ho]⟩)
  rw [e1, e2, Int.toNat_natCast, range_done]
  rfl
theorem ripe_aged {s : StpT} (h : StpOk s) : Ripe (stl (aged s)) :=
  ripe_stl (aged_ok h) h.2.1 h.2.2.1 (fun p hp => (h.2.2.2 p hp).1)
theorem stp_Tick_eq {s : StpT} (h : StpOk s) : stp_Tick s = some (tickS (stl (aged s)), sends (stl (aged s)) s.States.length, 0) := by
  obtain ⟨h1, h2, h3, h4⟩ := h.lens
  unfold stp_Tick
  rw [stp_Right_eq _ (by omega) (by omega), decide_eq_true h]
  simp only [Option.bind_some, Bool.not_true, cond_false, changed_Tick_eq h]
  rw [Tick_loop (ripe_aged h), aft_some_nxt, stl_slen]
  rfl
theorem stp_Tick_bad {s : StpT} (hc : s.Self.Costs.length ≤ 1000000) (hst : s.States.length ≤ 1000000) (h : ¬ StpOk s) : stp_Tick s = some (zStp, [], 1) := by
  unfold stp_Tick
  rw [stp_Right_eq _ hc hst, decide_eq_false h]; rfl

theorem ref12_aged_eq {s : StpT} (h : StpOk s) : ref12_aged s = some (aged s) := by
  obtain ⟨h1, h2, h3, h4⟩ := h.lens
  obtain ⟨t, e1, e2⟩ := rangeL_inv (s0 := ([] : List InfoT)) (body := ref12_aged_b26 s) (xs := s.Self.Infos) (by omega) (fun k t => t = (s.Self.Infos.map (ageI s.Max)).take k) (by simp) (fun k x t hx ht => by
    have hk := (List.getElem?_eq_some_iff.1 hx).1
    subst ht
    have hxe : infoP s.Self k = x := getD_some hx
    have hinf := h.1.inf (p := k) (by omega)
    rw [hxe] at hinf
    have ha := infR_age hinf
    have ht : ((s.Self.Infos.map (ageI s.Max)).take k).length ≤ k := by rw [List.length_take]; omega
    have hf : ∀ z : InfoT, grd (fits (((s.Self.Infos.map (ageI s.Max)).take k ++ [z] : List InfoT)).length 48) (some (.nxt ((s.Self.Infos.map (ageI s.Max)).take k ++ [z]) : Step StpT (List InfoT))) = some (.nxt ((s.Self.Infos.map (ageI s.Max)).take k ++ [z])) := fun z => grd_true (fits_small (by rw [List.length_append]; simp; omega) (by omega))
    refine ⟨(s.Self.Infos.map (ageI s.Max)).take (k + 1), ?_, rfl⟩
    rw [List.take_add_one, List.getElem?_map, hx]
    simp only [ref12_aged_b26, w64i (show -9223372036854775808 ≤ x.Age + 1 by omega) (by omega), hf, Option.map_some, Option.toList_some]
    unfold ageI
    cases hh : x.Has
    · have hz := infR_none hinf hh
      subst hz
      by_cases hm : s.Max ≤ zInfo.Age <;> simp [hm] <;> rfl
    · by_cases hm : s.Max ≤ x.Age + 1
      · have h2 : ¬ x.Age + 1 < s.Max := by omega
        simp [hm, h2]; rfl
      · have h2 : x.Age + 1 < s.Max := by omega
        simp [hm, h2])
  unfold ref12_aged
  rw [e1, aft_some_nxt, e2, List.take_of_length_le (by simp)]
  rfl
theorem ref12_Tick_eq {s : StpT} (h : StpOk s) : ref12_Tick s = some (tickS (stl (aged s)), sends (stl (aged s)) s.States.length) := by
  obtain ⟨h1, h2, h3, h4⟩ := h.lens
  have hr := ripe_aged h
  unfold ref12_Tick
  rw [ref12_aged_eq h]
  simp only [Option.bind_some, ref12_settle_eq (aged_ok h) h4]
  have hyl : (stl (aged s)).States.length = s.States.length := stl_slen _
  generalize stl (aged s) = y at hr hyl
  have hn := hr.self.n8
  have hl := hr.len
  obtain ⟨t, e1, e2⟩ := rangeL_inv (s0 := ([] : List PortStateT)) (body := ref12_Tick_b27 y) (xs := y.States) (by omega) (fun k t => t = (List.range k).map (fun p => tickP y.Delay (stP y p))) rfl (fun k x t hx ht => by
    have hk := (List.getElem?_eq_some_iff.1 hx).1
    have hxe : stP y k = x := getD_some hx
    subst ht
    simp only [ref12_Tick_b27]
    rw [← hxe, ref10_Tick_eq (hr.st k (by omega)), Option.bind_some, grd_true (fits_small (by simp; omega) (by omega))]
    exact ⟨_, rfl, by rw [List.range_succ]; simp⟩)
  rw [e1, aft_some_nxt, e2]
  obtain ⟨u, f1, f2⟩ := rangeN_inv (body := ref12_Tick_b28 y) (n := (((List.range y.States.length).map (fun p => tickP y.Delay (stP y p))).length : Nat)) (s0 := ([] : List SendT)) (by simp; omega)
    (fun k t => t = sends y k) rfl (fun k t hk ht => by
      subst ht
      have hk' : k < y.States.length := by simpa using hk
      have hsl := sends_len y k
      simp only [ref12_Tick_b28]
      rw [ref11_Tell_eq hr.self (by omega)]
      simp only [Option.bind_some]
      cases ho : tellO y.Self k y.Max with
      | none =>
        simp only [cond_false]
        exact ⟨_, rfl, by rw [sends_succ, ho]⟩
      | some c =>
        simp only [cond_true]
        rw [grd_true (fits_small (by rw [List.length_append]; simp; omega) (by omega))]
        exact ⟨_, rfl, by rw [sends_succ, ho]⟩)
  rw [f1, aft_some_nxt, f2, Int.toNat_natCast]
  rw [List.length_map, List.length_range, hyl]
  unfold tickS
  rw [hyl]

/-- Who may forward. -/
def fwds (s : StpT) (k : Nat) : List Int := (List.range k).filterMap fun p => if (stP s p).State = 3 then some (p : Int) else none
theorem fwds_succ (s : StpT) (k : Nat) : fwds s (k + 1) = if (stP s k).State = 3 then fwds s k ++ [(k : Int)] else fwds s k := by
  unfold fwds
  rw [List.range_succ, List.filterMap_append]
  by_cases h : (stP s k).State = 3 <;> simp [h]
theorem fwds_len (s : StpT) (k : Nat) : (fwds s k).length ≤ k := by
  have := List.length_filterMap_le (fun p => if (stP s p).State = 3 then some (p : Int) else none) (List.range k)
  rwa [List.length_range] at this
theorem fwd_loop {ρ : Type} {body : Nat → PortStateT → List Int → Option (Step ρ (List Int))} (hb : ∀ k x s, body k x s = (bif (decide (x.State = 3)) then grd (fits ((s ++ ([((k : Nat) : Int)] : (List Int))) : List Int).length 8) <| some (.nxt (s ++ ([((k : Nat) : Int)] : (List Int)))) else some (.nxt s))) (s : StpT) (hl : s.States.length ≤ 100) :
    rangeL body s.States [] = some (.nxt (fwds s s.States.length)) := by
  obtain ⟨t, e1, e2⟩ := rangeL_inv (s0 := ([] : List Int)) (body := body) (xs := s.States) (by omega) (fun k t => t = fwds s k) rfl (fun k x t hx ht => by
    have hk := (List.getElem?_eq_some_iff.1 hx).1
    have hxe : stP s k = x := getD_some hx
    have := fwds_len s k
    subst ht
    rw [hb, fwds_succ, hxe]
    by_cases h3 : x.State = 3
    · simp only [decide_eq_true h3, cond_true]
      rw [grd_true (fits_small (by rw [List.length_append]; simp; omega) (by omega))]
      exact ⟨_, rfl, by rw [if_pos h3]⟩
    · simp only [decide_eq_false h3, cond_false]
      exact ⟨_, rfl, by rw [if_neg h3]⟩)
  rw [e1, e2]
theorem stp_Forwards_eq {s : StpT} (h : StpOk s) : stp_Forwards s = some (fwds s s.States.length, 0) := by
  obtain ⟨h1, h2, h3, h4⟩ := h.lens
  unfold stp_Forwards
  rw [stp_Right_eq _ (by omega) (by omega), decide_eq_true h]
  simp only [Option.bind_some, Bool.not_true, cond_false]
  rw [fwd_loop (body := stp_Forwards_b13) (fun k x s => rfl) s (by omega), aft_some_nxt]
theorem stp_Forwards_bad {s : StpT} (hc : s.Self.Costs.length ≤ 1000000) (hst : s.States.length ≤ 1000000) (h : ¬ StpOk s) : stp_Forwards s = some ([], 1) := by
  unfold stp_Forwards
  rw [stp_Right_eq _ hc hst, decide_eq_false h]; rfl
theorem ref12_Forwards_eq {s : StpT} (hl : s.States.length ≤ 100) : ref12_Forwards s = some (fwds s s.States.length) := by
  unfold ref12_Forwards
  rw [fwd_loop (body := ref12_Forwards_b30) (fun k x s => rfl) s hl, aft_some_nxt]

/-! Links. -/
def lnk (s : StpT) (p : Nat) (b : Bool) : StpT := if b = false ∨ upP s.Self p = false then ⟨⟨s.Self.ID, s.Self.Costs, s.Self.Ups.set p b, s.Self.Infos.set p zInfo⟩, s.States, s.Max, s.Delay⟩ else ⟨⟨s.Self.ID, s.Self.Costs, s.Self.Ups.set p b, s.Self.Infos⟩, s.States, s.Max, s.Delay⟩
theorem lnk_ok {s : StpT} (h : SelfOk s.Self) {p : Nat} (hp : p < s.Self.Costs.length) (b : Bool) : SelfOk (lnk s p b).Self := by
  have hu : ∀ q, q ≠ p → (s.Self.Ups.set p b).getD q false = upP s.Self q := fun q hq => by
    rw [List.getD_eq_getElem?_getD, List.getElem?_set_ne (fun h => hq h.symm), ← List.getD_eq_getElem?_getD]; rfl
  have hup : (s.Self.Ups.set p b).getD p false = b := by
    rw [List.getD_eq_getElem?_getD, List.getElem?_set_self (by rw [h.2.2.1]; exact hp)]; rfl
  unfold lnk
  split
  · refine ⟨h.1, h.2.1, by simp; exact h.2.2.1, by simp; exact h.2.2.2.1, fun q hq => ?_⟩
    obtain ⟨h1, h2⟩ := h.2.2.2.2 q hq
    refine ⟨h1, ?_⟩
    show infR ((s.Self.Infos.set p zInfo).getD q zInfo) ((s.Self.Ups.set p b).getD q false) = true
    by_cases hpq : q = p
    · subst hpq
      have : (s.Self.Infos.set q zInfo).getD q zInfo = zInfo := by
        rw [List.getD_eq_getElem?_getD, List.getElem?_set_self (by rw [h.2.2.2.1]; exact hp)]; rfl
      rw [this]; exact infR_z _
    · rw [hu q hpq, List.getD_eq_getElem?_getD, List.getElem?_set_ne (fun h => hpq h.symm), ← List.getD_eq_getElem?_getD]
      exact h2
  · rename_i hn
    refine ⟨h.1, h.2.1, by simp; exact h.2.2.1, h.2.2.2.1, fun q hq => ?_⟩
    obtain ⟨h1, h2⟩ := h.2.2.2.2 q hq
    refine ⟨h1, ?_⟩
    show infR (infoP s.Self q) ((s.Self.Ups.set p b).getD q false) = true
    by_cases hpq : q = p
    · subst hpq
      rw [hup]
      have hb : b = true := by cases b <;> simp at hn ⊢
      have hv : upP s.Self q = true := by cases hv : upP s.Self q <;> simp [hv] at hn ⊢
      rw [hv] at h2
      rw [hb]; exact h2
    · rw [hu q hpq]; exact h2
theorem lnk_cs (s : StpT) (p : Nat) (b : Bool) : (lnk s p b).Self.Costs = s.Self.Costs ∧ (lnk s p b).States = s.States ∧ (lnk s p b).Delay = s.Delay ∧ (lnk s p b).Max = s.Max := by
  unfold lnk; split <;> exact ⟨rfl, rfl, rfl, rfl⟩
theorem Link1_eq {s : StpT} (h : StpOk s) {p : Nat} (hp : p < s.Self.Costs.length) (b : Bool) : stp_Link_1_x s b (p : Int) = some (lnk s p b) := by
  obtain ⟨h1, h2, h3, h4⟩ := h.lens
  have hg : gixN s.Self.Ups p = some (upP s.Self p) := some_getD _ (by omega)
  have hi : gixN s.Self.Infos p = some (infoP s.Self p) := some_getD _ (by omega)
  unfold stp_Link_1_x
  rw [grd_true (fun _ => ⟨by omega, by omega⟩)]
  simp only [Int.toNat_natCast, hg, hi, Option.bind_some]
  rw [grd_true ⟨by omega, by omega⟩, grd_true ⟨by omega, by omega⟩, grd_true ⟨by omega, by omega⟩]
  unfold lnk
  cases b <;> cases upP s.Self p <;> rfl
theorem changed_Link_eq {s : StpT} (h : StpOk s) {p : Nat} (hp : p < s.Self.Costs.length) (b : Bool) : stp_changed_x3 s b (p : Int) = some (stl (lnk s p b)) := by
  obtain ⟨h1, h2, h3, h4⟩ := h.lens
  have hk := lnk_ok h.1 hp b
  obtain ⟨c1, c2, c3, c4⟩ := lnk_cs s p b
  unfold stp_changed_x3
  simp only [copy_self]
  rw [grd_true (mk_ok (by omega) (by omega)), grd_true (mk_ok (by omega) (by omega)), clone_eq (by omega)]
  simp only [Option.bind_some]
  rw [show stp_Link_1_x ⟨⟨s.Self.ID, s.Self.Costs, s.Self.Ups, s.Self.Infos⟩, s.States, s.Max, s.Delay⟩ b (p : Int) = _ from Link1_eq h hp b]
  simp only [Option.bind_some]
  rw [Roles_eq _ (by rw [c1]; omega), if_pos hk]
  simp only [Option.bind_some]
  rw [settle_loop (body := stp_changed_x3_b15) (fun k x s => rfl) _ _ (by rw [c1, c2]; simp; omega) (by rw [c2]; omega), aft_some_nxt, setl_stl hk (by rw [c1, c2]; exact h4) (fun q hq => by
    rw [c1] at hq
    unfold stP
    rw [c2, c3]
    exact (h.2.2.2 q hq).1)]
theorem stp_Link_eq {s : StpT} (h : StpOk s) {p : Nat} (hp : p < s.Self.Costs.length) (b : Bool) : stp_Link s (p : Int) b = some (stl (lnk s p b), 0) := by
  obtain ⟨h1, h2, h3, h4⟩ := h.lens
  unfold stp_Link
  rw [may_eq (by omega) (by omega), if_pos h, if_neg (by omega)]
  simp only [Option.bind_some, decide_true, Bool.not_true, cond_false, changed_Link_eq h hp]
theorem stp_Link_bad {s : StpT} (hc : s.Self.Costs.length ≤ 1000000) (hst : s.States.length ≤ 1000000) (h : ¬ StpOk s) (p : Int) (b : Bool) : stp_Link s p b = some (zStp, 1) := by
  unfold stp_Link
  rw [may_eq hc hst, if_neg h]; rfl
theorem stp_Link_range {s : StpT} (h : StpOk s) {p : Int} (hp : p < 0 ∨ ((s.States.length : Nat) : Int) ≤ p) (b : Bool) : stp_Link s p b = some (zStp, 3) := by
  obtain ⟨h1, h2, h3, h4⟩ := h.lens
  unfold stp_Link
  rw [may_eq (by omega) (by omega), if_pos h, if_pos hp]; rfl
theorem ups_loop {us : List Bool} (hl : us.length ≤ 1000) (p : Nat) (b : Bool) : rangeL (ref12_Link_b32 (p : Int) b) us [] = some (.nxt (us.set p b)) := by
  obtain ⟨st, h1, h2⟩ := rangeL_inv (s0 := ([] : List Bool)) (body := ref12_Link_b32 (p : Int) b) (xs := us) (by omega) (fun k st => st = (us.set p b).take k) (by simp) (fun k y st hy hst => by
    have hk := (List.getElem?_eq_some_iff.1 hy).1
    subst hst
    have ht : ((us.set p b).take k).length ≤ k := by rw [List.length_take]; omega
    refine ⟨(us.set p b).take (k + 1), ?_, rfl⟩
    rw [List.take_add_one]
    simp only [ref12_Link_b32]
    by_cases hkp : k = p
    · subst hkp
      rw [List.getElem?_set_self hk]
      simp only [decide_true, cond_true, Option.toList_some]
      rw [grd_true (fits_small (by rw [List.length_append]; simp; omega) (by omega))]
    · have : decide (((k : Nat) : Int) = (p : Int)) = false := decide_eq_false (by omega)
      rw [List.getElem?_set_ne (fun h => hkp h.symm), hy]
      simp only [this, cond_false, Option.toList_some]
      rw [grd_true (fits_small (by rw [List.length_append]; simp; omega) (by omega))])
  rw [h1, h2, List.take_of_length_le (by simp)]
theorem ref12_Link_eq {s : StpT} (h : StpOk s) {p : Nat} (hp : p < s.Self.Costs.length) (b : Bool) : ref12_Link s (p : Int) b = some (stl (lnk s p b)) := by
  obtain ⟨h1, h2, h3, h4⟩ := h.lens
  have hk := lnk_ok h.1 hp b
  obtain ⟨c1, c2, c3, c4⟩ := lnk_cs s p b
  have hs := ref12_settle_eq hk (by rw [c1, c2]; exact h4)
  have hku := ref12_know_eq (s := s) (by omega) p ⟨false, ⟨0, 0, 0, 0⟩, 0⟩
  have u1 := ups_loop (us := s.Self.Ups) (by omega) p b
  have u2 : rangeL (ref12_Link_b32 (p : Int) b) (know s p ⟨false, ⟨0, 0, 0, 0⟩, 0⟩).Self.Ups [] = _ := u1
  unfold ref12_Link
  simp only [h.1.up hp]
  rw [hku]
  simp only [Option.bind_some, u1, u2, aft_some_nxt]
  unfold lnk at hs ⊢
  cases b
  · simp only [gd, Bool.not_false, Bool.not_true, cond_true, cond_false, Option.bind_some]
    rw [if_pos (by simp)] at hs
    rw [if_pos (by simp)]
    rw [show ref12_settle ⟨⟨(know s p ⟨false, ⟨0, 0, 0, 0⟩, 0⟩).Self.ID, (know s p ⟨false, ⟨0, 0, 0, 0⟩, 0⟩).Self.Costs, s.Self.Ups.set p false, (know s p ⟨false, ⟨0, 0, 0, 0⟩, 0⟩).Self.Infos⟩, (know s p ⟨false, ⟨0, 0, 0, 0⟩, 0⟩).States, (know s p ⟨false, ⟨0, 0, 0, 0⟩, 0⟩).Max, (know s p ⟨false, ⟨0, 0, 0, 0⟩, 0⟩).Delay⟩ = _ from hs]
    rfl
  · cases hu : upP s.Self p
    · simp only [gd, Bool.not_false, Bool.not_true, cond_true, cond_false, Option.bind_some]
      rw [if_pos (by simp [hu])] at hs
      rw [if_pos (by simp [hu])]
      rw [show ref12_settle ⟨⟨(know s p ⟨false, ⟨0, 0, 0, 0⟩, 0⟩).Self.ID, (know s p ⟨false, ⟨0, 0, 0, 0⟩, 0⟩).Self.Costs, s.Self.Ups.set p true, (know s p ⟨false, ⟨0, 0, 0, 0⟩, 0⟩).Self.Infos⟩, (know s p ⟨false, ⟨0, 0, 0, 0⟩, 0⟩).States, (know s p ⟨false, ⟨0, 0, 0, 0⟩, 0⟩).Max, (know s p ⟨false, ⟨0, 0, 0, 0⟩, 0⟩).Delay⟩ = _ from hs]
      rfl
    · simp only [gd, Bool.not_false, Bool.not_true, cond_true, cond_false, Option.bind_some]
      rw [if_neg (by simp [hu])] at hs
      rw [if_neg (by simp [hu])]
      rw [hs]; rfl

/-! The law. -/
theorem ref12_Sends_self (a : List SendT) (h : a.length ≤ 1000000) : ref12_Sends a a = some true := by
  unfold ref12_Sends
  rw [Same_row (r := true) h (fun k x hx => by simp [ref12_Sends_b29, gix_nat, hx])]
  simp
theorem ref06_Same_self (a : List Int) (h : a.length ≤ 1000000) : ref06_Same a a = some true := by
  unfold ref06_Same
  rw [Same_row (r := true) h (fun k x hx => by simp [ref06_Same_b31, gix_nat, hx])]
  simp
theorem tickS_self {s : StpT} (h : StpOk s) : ref12_Same (tickS (stl (aged s))) (tickS (stl (aged s))) = some true := by
  obtain ⟨h1, h2, h3, h4⟩ := h.lens
  exact ref12_Same_self _ (by show s.Self.Costs.length ≤ _; omega) (by show s.Self.Ups.length ≤ _; omega) (by show (s.Self.Infos.map _).length ≤ _; simp; omega) (by simp [tickS, stl, aged]; omega)
theorem lnk_self {s : StpT} (h : StpOk s) (p : Nat) (b : Bool) : ref12_Same (stl (lnk s p b)) (stl (lnk s p b)) = some true := by
  obtain ⟨h1, h2, h3, h4⟩ := h.lens
  obtain ⟨c1, c2, c3, c4⟩ := lnk_cs s p b
  refine ref12_Same_self _ (by show (lnk s p b).Self.Costs.length ≤ _; rw [c1]; omega) ?_ ?_ (by rw [stl_slen, c2]; omega)
  · show (lnk s p b).Self.Ups.length ≤ _
    unfold lnk; split <;> simp <;> omega
  · show (lnk s p b).Self.Infos.length ≤ _
    unfold lnk; split <;> simp <;> omega
theorem StpTicks_true (a0 : StpT) (a1 : Int) (a2 : Bool) : law12_StpTicks a0 a1 a2 = some true := by
  unfold law12_StpTicks
  rw [few_eq]
  simp only [Option.bind_some]
  generalize hs : fewS a0 = s
  have l1 : s.Self.Costs.length ≤ 12 := by rw [← hs]; simp [fewS]; omega
  have l2 : s.States.length ≤ 12 := by rw [← hs]; simp [fewS]; omega
  rw [ref12_Right_eq s (by omega) (by omega), alive12]
  have hz := ref12_Same_z
  rw [show (⟨(⟨0, [], [], []⟩ : SelfT), [], 0, 0⟩ : StpT) = zStp from rfl]
  by_cases h : StpOk s
  rotate_left
  · rw [stp_Tick_bad (by omega) (by omega) h, stp_Link_bad (by omega) (by omega) h, stp_Forwards_bad (by omega) (by omega) h]
    simp [h, hz, gd]
  obtain ⟨k1, k2, k3, k4⟩ := h.lens
  have hsl := sends_len (stl (aged s)) s.States.length
  have hfl := fwds_len s s.States.length
  have e1 := tickS_self h
  have e2 := ref12_Sends_self _ (show (sends (stl (aged s)) s.States.length).length ≤ 1000000 by omega)
  have e3 := ref06_Same_self _ (show (fwds s s.States.length).length ≤ 1000000 by omega)
  rw [stp_Tick_eq h, stp_Forwards_eq h, ref12_Tick_eq h, ref12_Forwards_eq (by omega)]
  by_cases hp : a1 < 0 ∨ ((s.States.length : Nat) : Int) ≤ a1
  · rw [stp_Link_range h hp]
    have : (bif (decide (a1 < 0)) then true else (decide (((s.States.length : Nat) : Int) ≤ a1))) = true := by
      rcases hp with hp | hp
      · simp [hp]
      · by_cases h0 : a1 < 0 <;> simp [hp, h0]
    simp only [Option.bind_some, decide_eq_true h, Bool.not_true, cond_false, decide_true, gd, Bool.not_false, cond_true, e1, e2, e3, hz, this]
  · obtain ⟨p, rfl⟩ : ∃ p : Nat, a1 = (p : Int) := ⟨a1.toNat, by omega⟩
    have hpn : p < s.Self.Costs.length := by omega
    have hcond : (bif (decide ((p : Int) < 0)) then true else (decide (((s.States.length : Nat) : Int) ≤ (p : Int)))) = false := by
      rw [decide_eq_false (by omega), decide_eq_false (by omega)]; rfl
    have e4 := lnk_self h p a2
    rw [stp_Link_eq h hpn, ref12_Link_eq h hpn]
    simp only [Option.bind_some, decide_eq_true h, Bool.not_true, cond_false, decide_true, gd, Bool.not_false, cond_true, e1, e2, e3, e4, hcond]
end Go.RX
