/- What a tree knows grows old; the law of ages. -/
import Derived.Test.YtoahcombdhgmhaaSf
set_option linter.unusedVariables false
set_option linter.unusedSimpArgs false
namespace Go.RX
set_option maxHeartbeats 1000000

theorem md_ok {n : Int} (h1 : 1 ≤ n) (h2 : n ≤ 1000000) (a : Int) : 0 ≤ (IntKind.i64.wrap (a.tmod n + n)).tmod n ∧ (IntKind.i64.wrap (a.tmod n + n)).tmod n < n := by
  have h3 := Int.tmod_lt_of_pos a (show 0 < n by omega)
  have h4 : -n < a.tmod n := Int.lt_tmod_of_pos a (show 0 < n by omega)
  rw [w64i (by omega) (by omega)]
  have h5 := Int.tmod_nonneg n (show 0 ≤ a.tmod n + n by omega)
  have h6 := Int.tmod_lt_of_pos (a.tmod n + n) (show 0 < n by omega)
  exact ⟨h5, h6⟩
theorem md1 {n : Int} (h1 : 1 ≤ n) (h2 : n ≤ 1000000) (a : Int) : 1 ≤ IntKind.i64.wrap (1 + (IntKind.i64.wrap (a.tmod n + n)).tmod n) ∧ IntKind.i64.wrap (1 + (IntKind.i64.wrap (a.tmod n + n)).tmod n) ≤ n := by
  have := md_ok h1 h2 a
  rw [w64i (x := 1 + _) (by omega) (by omega)]
  omega

/-! What stays right. -/
theorem stl_ok {s : StpT} (h1 : SelfOk s.Self) (h2 : s.States.length = s.Self.Costs.length) (h3 : 1 ≤ s.Max ∧ s.Max ≤ 255) (h4 : ∀ p, p < s.Self.Costs.length → pR (stP s p) s.Delay = true) (h5 : ∀ p, p < s.Self.Costs.length → (infoP s.Self p).Age < s.Max) : StpOk (stl s) := by
  have hr := ripe_stl h1 h2 h3 h4
  refine ⟨h1, hr.len, h3, fun p hp => ⟨hr.st p hp, ?_, h5 p hp⟩⟩
  have hp' : p < s.Self.Costs.length := hp
  rw [stl_st (by omega)]
  show act (roleP s.Self p) = _
  unfold prole
  cases ha : act (roleP s.Self p)
  · rfl
  · by_cases hs : (stP s p).State = 0 <;> simp [hs]
theorem tickP_ok {x : PortStateT} {d : Int} (h : pR x d = true) : pR (tickP d x) d = true ∧ decide ((tickP d x).State = 0) = decide (x.State = 0) := by
  have h' := h
  unfold pR at h'
  rw [decide_eq_true_eq] at h'
  unfold tickP
  split
  · refine ⟨?_, rfl⟩
    unfold pR; rw [decide_eq_true_eq]
    simp only
    omega
  · split
    · rename_i h1
      refine ⟨?_, by simp [h1]⟩
      unfold pR; rw [decide_eq_true_eq]
      exact ⟨h'.1, h'.2.1, .inl ⟨.inr rfl, h'.1, Int.le_refl _⟩⟩
    · split
      · rename_i h1
        refine ⟨?_, by simp [h1]⟩
        unfold pR; rw [decide_eq_true_eq]
        exact ⟨h'.1, h'.2.1, .inr ⟨.inr rfl, rfl⟩⟩
      · exact ⟨h, rfl⟩
theorem tickS_st {y : StpT} {p : Nat} (hp : p < y.States.length) : stP (tickS y) p = tickP y.Delay (stP y p) := by
  unfold stP tickS
  rw [List.getD_eq_getElem?_getD, List.getElem?_map, List.getElem?_range hp]; rfl
theorem tickS_ok {y : StpT} (h : StpOk y) : StpOk (tickS y) := by
  refine ⟨h.1, by simp [tickS]; exact h.2.1, h.2.2.1, fun p hp => ?_⟩
  have hp' : p < y.Self.Costs.length := hp
  obtain ⟨h1, h2, h3⟩ := h.2.2.2 p hp'
  obtain ⟨t1, t2⟩ := tickP_ok h1
  rw [tickS_st (by rw [h.2.1]; exact hp')]
  exact ⟨t1, by rw [t2]; exact h2, h3⟩
theorem aged_age {s : StpT} (h : StpOk s) {p : Nat} (hp : p < s.Self.Costs.length) : (infoP (aged s).Self p).Age < s.Max := by
  obtain ⟨h1, h2, h3, h4⟩ := h.lens
  rw [aged_info (by omega)]
  have := h.2.2.1
  unfold ageI
  split
  · rename_i hh; exact hh.2
  · show (0 : Int) < s.Max
    omega
theorem tick_ok {s : StpT} (h : StpOk s) : StpOk (tickS (stl (aged s))) :=
  tickS_ok (stl_ok (s := aged s) (aged_ok h) h.2.1 h.2.2.1 (fun p hp => (h.2.2.2 p hp).1) (fun p hp => aged_age h hp))
theorem lnk_age {s : StpT} (h : StpOk s) {p q : Nat} (hp : p < s.Self.Costs.length) (b : Bool) (hq : q < s.Self.Costs.length) : (infoP (lnk s p b).Self q).Age < s.Max := by
  obtain ⟨h1, h2, h3, h4⟩ := h.lens
  have hm := h.2.2.1
  unfold lnk
  split
  · show ((s.Self.Infos.set p zInfo).getD q zInfo).Age < s.Max
    by_cases hpq : q = p
    · subst hpq
      have : (s.Self.Infos.set q zInfo).getD q zInfo = zInfo := by
        rw [List.getD_eq_getElem?_getD, List.getElem?_set_self (by omega)]; rfl
      rw [this]
      show (0 : Int) < s.Max
      omega
    · rw [List.getD_eq_getElem?_getD, List.getElem?_set_ne (fun h => hpq h.symm), ← List.getD_eq_getElem?_getD]
      exact (h.2.2.2 q hq).2.2
  · exact (h.2.2.2 q hq).2.2
theorem link_ok {s : StpT} (h : StpOk s) {p : Nat} (hp : p < s.Self.Costs.length) (b : Bool) : StpOk (stl (lnk s p b)) := by
  obtain ⟨c1, c2, c3, c4⟩ := lnk_cs s p b
  refine stl_ok (lnk_ok h.1 hp b) (by rw [c1, c2]; exact h.2.1) (by rw [c4]; exact h.2.2.1) (fun q hq => ?_) (fun q hq => ?_)
  · rw [c1] at hq
    unfold stP
    rw [c2, c3]
    exact (h.2.2.2 q hq).1
  · rw [c1] at hq
    rw [c4]
    exact lnk_age h hp b hq
theorem hear_ok {s : StpT} (h : StpOk s) {p : Nat} (hp : p < s.Self.Costs.length) {c : ConfigT} (hc : cfgOk c = true) (hi : idle s p c = false) : StpOk (stl (know s p ⟨true, c.Vec, c.Age⟩)) := by
  obtain ⟨h1, h2, h3, h4⟩ := h.lens
  have hu : upP s.Self p = true := by
    cases hu : upP s.Self p
    · simp [idle, hu] at hi
    · rfl
  have hm : c.Age < s.Max := by
    by_cases hm : s.Max ≤ c.Age
    · simp [idle, hm] at hi
    · omega
  refine stl_ok (know_ok h.1 (cfg_info hc hu)) h.2.1 h.2.2.1 (fun q hq => (h.2.2.2 q hq).1) (fun q hq => ?_)
  have hq' : q < s.Self.Costs.length := hq
  show ((s.Self.Infos.set p ⟨true, c.Vec, c.Age⟩).getD q zInfo).Age < s.Max
  by_cases hpq : q = p
  · subst hpq
    have : (s.Self.Infos.set q ⟨true, c.Vec, c.Age⟩).getD q zInfo = ⟨true, c.Vec, c.Age⟩ := by
      rw [List.getD_eq_getElem?_getD, List.getElem?_set_self (by omega)]; rfl
    rw [this]; exact hm
  · rw [List.getD_eq_getElem?_getD, List.getElem?_set_ne (fun h => hpq h.symm), ← List.getD_eq_getElem?_getD]
    exact (h.2.2.2 q hq').2.2

structure Inv (id : Int) (costs : List Int) (most delay : Int) (s : StpT) : Prop where
  ok : StpOk s
  id : s.Self.ID = id
  costs : s.Self.Costs = costs
  most : s.Max = most
  delay : s.Delay = delay
section
variable {id most delay : Int} {costs : List Int}
theorem Inv.tick {s : StpT} (h : Inv id costs most delay s) : Inv id costs most delay (tickS (stl (aged s))) := ⟨tick_ok h.ok, h.id, h.costs, h.most, h.delay⟩
theorem Inv.link {s : StpT} (h : Inv id costs most delay s) {p : Nat} (hp : p < s.Self.Costs.length) (b : Bool) : Inv id costs most delay (stl (lnk s p b)) := by
  obtain ⟨c1, c2, c3, c4⟩ := lnk_cs s p b
  refine ⟨link_ok h.ok hp b, ?_, by rw [← h.costs]; exact c1, by rw [← h.most]; exact c4, by rw [← h.delay]; exact c3⟩
  rw [← h.id]
  show (lnk s p b).Self.ID = _
  unfold lnk; split <;> rfl
theorem Inv.hear {s : StpT} (h : Inv id costs most delay s) {p : Nat} (hp : p < s.Self.Costs.length) {c : ConfigT} (hc : cfgOk c = true) (hi : idle s p c = false) : Inv id costs most delay (stl (know s p ⟨true, c.Vec, c.Age⟩)) :=
  ⟨hear_ok h.ok hp hc hi, h.id, h.costs, h.most, h.delay⟩
end
theorem Root_eq {s : SelfT} (h : SelfOk s) : role_Root s = some (tellsP s 0, portP s, 0) := by
  have hn := h.n8
  unfold role_Root
  rw [role_Right_eq s (by omega), decide_eq_true h]
  simp only [Option.bind_some, Bool.not_true, cond_false, wayOf_eq h]
  have e1 := portOf_eq h
  have e2 := tells_eq h 0
  cases hr : rootP s with
  | none =>
    rw [hr] at e1 e2
    simp only [toU] at e1 e2 ⊢
    rw [e1, e2]; rfl
  | some q =>
    rw [hr] at e1 e2
    simp only [toU] at e1 e2 ⊢
    rw [e1, e2]; rfl
theorem sends_mem {y : StpT} {k : Nat} {x : SendT} (h : x ∈ sends y k) : ∃ p : Nat, p < k ∧ roleP y.Self p = 1 ∧ ageP y.Self < y.Max ∧ x = ⟨(p : Int), ⟨tellsP y.Self p, ageP y.Self⟩⟩ := by
  unfold sends at h
  rw [List.mem_filterMap] at h
  obtain ⟨p, hp, hx⟩ := h
  rw [List.mem_range] at hp
  unfold tellO at hx
  split at hx
  · rename_i hc
    refine ⟨p, hp, hc.1, hc.2, ?_⟩
    simpa using hx.symm
  · cases hx
theorem role1_port {s : SelfT} {p : Nat} (h : roleP s p = 1) : ¬ ((p : Int) = portP s) := by
  intro hp
  unfold portP at hp
  cases hr : rootP s with
  | none => rw [hr] at hp; simp only at hp; omega
  | some q =>
    rw [hr] at hp
    have : p = q := by simp only at hp; omega
    subst this
    unfold roleP at h
    split at h
    · cases h
    · exact absurd h (by decide)
theorem tells_at (s : SelfT) (p : Int) : (tellsP s p).Root = (tellsP s 0).Root ∧ (tellsP s p).Cost = (tellsP s 0).Cost ∧ (tellsP s p).Bridge = s.ID := by
  unfold tellsP
  cases rootP s <;> exact ⟨rfl, rfl, rfl⟩

/-- A tick within the law's draws. -/
theorem tick_blk {a0 a2 : Int} {costs : List Int} {delay : Int} {s : StpT} (h : Inv ((IntKind.i64.wrap (a0.tmod 6 + 6)).tmod 6) costs (IntKind.i64.wrap (1 + (IntKind.i64.wrap (a2.tmod 20 + 20)).tmod 20)) delay s) :
    ((stp_Tick s).bind fun y13 =>
        (role_Root y13.1.Self).bind fun y15 =>
        (bif (bif (bif (bif (!decide (y13.2.2 = 0)) then true else (!decide (y15.2.2 = 0))) then true else (decide (y15.2.1 < (-1)))) then true else (decide (((y13.1.Self.Infos.length : Nat) : Int) ≤ y15.2.1))) then
          some (Step.ret false)
        else
          (bif (decide (0 ≤ y15.2.1)) then
            (gix y13.1.Self.Infos y15.2.1).bind fun v17 =>
            aft (rangeL (law12_StpAges_b18 a0 a2 y15 v17) y13.2.1 ()) fun s18 =>
            (stp_Right y13.1).bind fun y19 =>
            (bif (!y19) then
              some (.ret false)
            else
              some (.nxt y13.1))
          else
            aft (rangeL (law12_StpAges_b19 a0 a2 y15) y13.2.1 ()) fun s19 =>
            (stp_Right y13.1).bind fun y21 =>
            (bif (!y21) then
              some (.ret false)
            else
              some (.nxt y13.1))))) = some (.nxt (tickS (stl (aged s)))) := by
  obtain ⟨k1, k2, k3, k4⟩ := h.ok.lens
  have hy := tick_ok h.ok
  have hS := aged_ok h.ok
  have hsl := sends_len (stl (aged s)) s.States.length
  have hR := stp_Right_eq (tickS (stl (aged s))) (by show s.Self.Costs.length ≤ 1000000; omega) (by simp [tickS, stl, aged]; omega)
  rw [decide_eq_true hy] at hR
  rw [stp_Tick_eq h.ok]
  simp only [Option.bind_some]
  rw [show (tickS (stl (aged s))).Self = (aged s).Self from rfl, Root_eq hS]
  simp only [Option.bind_some, decide_true, Bool.not_true, cond_false, hR, Bool.not_false, cond_true]
  have row : ∀ {ρ : Type} (body : Nat → SendT → Unit → Option (Step ρ Unit)), (∀ k x, x ∈ sends (stl (aged s)) s.States.length → body k x () = some (.nxt ())) → rangeL body (sends (stl (aged s)) s.States.length) () = some (.nxt ()) := fun body hb => by
    obtain ⟨t, h1, _⟩ := rangeL_inv (s0 := ()) (body := body) (xs := sends (stl (aged s)) s.States.length) (by omega) (fun _ _ => True) trivial (fun k x s hx _ => ⟨(), hb k x (List.mem_of_getElem? hx), trivial⟩)
    exact h1
  have hx : ∀ x, x ∈ sends (stl (aged s)) s.States.length → x.Config.Vec.Root = (tellsP (aged s).Self 0).Root ∧ x.Config.Vec.Cost = (tellsP (aged s).Self 0).Cost ∧ x.Config.Vec.Bridge = (IntKind.i64.wrap (a0.tmod 6 + 6)).tmod 6 ∧ x.Config.Age = ageP (aged s).Self ∧ ¬ (IntKind.i64.wrap (1 + (IntKind.i64.wrap (a2.tmod 20 + 20)).tmod 20) ≤ ageP (aged s).Self) ∧ ¬ x.Port = portP (aged s).Self := fun x hx => by
    obtain ⟨p, hp, h1, h2, rfl⟩ := sends_mem hx
    obtain ⟨t1, t2, t3⟩ := tells_at (aged s).Self p
    refine ⟨t1, t2, t3.trans h.id, rfl, ?_, role1_port h1⟩
    rw [← h.most]
    have h2' : ageP (aged s).Self < s.Max := h2
    omega
  generalize hA : (aged s).Self = S at hx hS
  cases hr : rootP S with
  | none =>
    have hp : portP S = -1 := by unfold portP; rw [hr]
    have ha : ageP S = 0 := by unfold ageP; rw [hr]
    rw [hp, ha] at hx
    rw [hp, row _ (fun k x hm => by
      obtain ⟨e1, e2, e3, e4, e5, e6⟩ := hx x hm
      simp [law12_StpAges_b19, e1, e2, e3, e4, e5, e6])]
    simp only [show decide ((-1 : Int) < -1) = false from rfl, show decide ((0 : Int) ≤ -1) = false from rfl, cond_false, aft_some_nxt]
    rw [decide_eq_false (show ¬ ((S.Infos.length : Nat) : Int) ≤ -1 by omega)]
    rfl
  | some q =>
    have hp : portP S = (q : Int) := by unfold portP; rw [hr]
    have hq := (rootP_mem hr).1
    have hil : S.Infos.length = S.Costs.length := hS.2.2.2.1
    have hag := infR_age (hS.inf hq)
    have hw : IntKind.i64.wrap ((infoP S q).Age + 1) = (infoP S q).Age + 1 := w64i (by omega) (by omega)
    have ha : ageP S = (infoP S q).Age + 1 := by unfold ageP; rw [hr]
    rw [hp, ha] at hx
    rw [hp]
    simp only [hS.info hq, Option.bind_some]
    rw [row _ (fun k x hm => by
      obtain ⟨e1, e2, e3, e4, e5, e6⟩ := hx x hm
      simp [law12_StpAges_b18, e1, e2, e3, e4, e5, e6, hw])]
    rw [decide_eq_false (show ¬ (q : Int) < -1 by omega), decide_eq_true (show (0 : Int) ≤ (q : Int) by omega), decide_eq_false (show ¬ ((S.Infos.length : Nat) : Int) ≤ (q : Int) by omega)]
    rfl
theorem hear_blk {id most delay : Int} {costs : List Int} {s : StpT} (h : Inv id costs most delay s) {p : Nat} (hp : p < s.Self.Costs.length) {c : ConfigT} (hc : cfgOk c = true) :
    ∃ s', ((stp_Hear s (p : Int) c).bind fun y23 =>
        (bif (!decide (y23.2.2 = 0)) then
          some (Step.ret false)
        else
          (stp_Right y23.1).bind fun y25 =>
          (bif (!y25) then
            some (.ret false)
          else
            some (.nxt y23.1)))) = some (.nxt s') ∧ Inv id costs most delay s' := by
  rw [Hear_eq h.ok hp hc]
  cases hi : idle s p c
  · have hk := h.hear hp hc hi
    obtain ⟨k1, k2, k3, k4⟩ := hk.ok.lens
    refine ⟨_, ?_, hk⟩
    simp only [cond_false, Option.bind_some, decide_true, Bool.not_true]
    rw [stp_Right_eq _ (by omega) (by omega), decide_eq_true hk.ok]
    rfl
  · obtain ⟨k1, k2, k3, k4⟩ := h.ok.lens
    refine ⟨_, ?_, h⟩
    simp only [cond_true, Option.bind_some, decide_true, Bool.not_true, cond_false]
    rw [stp_Right_eq _ (by omega) (by omega), decide_eq_true h.ok]
    rfl
theorem link_blk {id most delay : Int} {costs : List Int} {s : StpT} (h : Inv id costs most delay s) {p : Nat} (hp : p < s.Self.Costs.length) (b : Bool) :
    ∃ s', ((stp_Link s (p : Int) b).bind fun y9 =>
    (bif (!decide (y9.2 = 0)) then
      some (Step.ret false)
    else
      (stp_Right y9.1).bind fun y11 =>
      (bif (!y11) then
        some (.ret false)
      else
        some (.nxt y9.1)))) = some (.nxt s') ∧ Inv id costs most delay s' := by
  have hk := h.link hp b
  obtain ⟨k1, k2, k3, k4⟩ := hk.ok.lens
  refine ⟨_, ?_, hk⟩
  rw [stp_Link_eq h.ok hp]
  simp only [Option.bind_some, decide_true, Bool.not_true, cond_false]
  rw [stp_Right_eq _ (by omega) (by omega), decide_eq_true hk.ok]
  rfl
theorem step_ok {a0 a2 : Int} {s16 : List Int} (hl : s16.length ≤ 4) {delay : Int} {s : StpT} (h : Inv ((IntKind.i64.wrap (a0.tmod 6 + 6)).tmod 6) (s16 ++ [1]) (IntKind.i64.wrap (1 + (IntKind.i64.wrap (a2.tmod 20 + 20)).tmod 20)) delay s) (k : Nat) (x : A4_Int) :
    ∃ s', law12_StpAges_b17 a0 a2 s16 k x s = some (.nxt s') ∧ Inv ((IntKind.i64.wrap (a0.tmod 6 + 6)).tmod 6) (s16 ++ [1]) (IntKind.i64.wrap (1 + (IntKind.i64.wrap (a2.tmod 20 + 20)).tmod 20)) delay s' := by
  have hn : (((s16 ++ [1]).length : Nat) : Int) = ((s16.length : Nat) : Int) + 1 := by simp
  obtain ⟨p1, p2⟩ := md_ok (n := (((s16 ++ [1]).length : Nat) : Int)) (by omega) (by omega) x.c1
  obtain ⟨p, hpe⟩ : ∃ p : Nat, (IntKind.i64.wrap (x.c1.tmod (((s16 ++ [1]).length : Nat) : Int) + (((s16 ++ [1]).length : Nat) : Int))).tmod (((s16 ++ [1]).length : Nat) : Int) = (p : Int) := ⟨_, (Int.toNat_of_nonneg p1).symm⟩
  have hp : p < s.Self.Costs.length := by rw [h.costs]; omega
  have c1 := md_ok (n := 6) (by omega) (by omega) x.c2
  have c2 := md_ok (n := 30) (by omega) (by omega) x.c3
  have c3 := md_ok (n := 6) (by omega) (by omega) x.c3
  have c4 := md_ok (n := 8) (by omega) (by omega) x.c2
  have c5 := md_ok (n := 25) (by omega) (by omega) x.c3
  have hc : cfgOk (⟨⟨(IntKind.i64.wrap (x.c2.tmod 6 + 6)).tmod 6, (IntKind.i64.wrap (x.c3.tmod 30 + 30)).tmod 30, (IntKind.i64.wrap (x.c3.tmod 6 + 6)).tmod 6, (IntKind.i64.wrap (x.c2.tmod 8 + 8)).tmod 8⟩, (IntKind.i64.wrap (x.c3.tmod 25 + 25)).tmod 25⟩ : ConfigT) = true := by
    unfold cfgOk
    rw [Bool.and_eq_true, vR_iff, inB_iff]
    simp only
    omega
  have hz0 : ((((s16 ++ [1]).length : Nat) : Int) : Int) ≠ 0 := by omega
  unfold law12_StpAges_b17
  rw [grd_true hz0, grd_true hz0, hpe]
  rw [show law12_StpAges_b21 = law12_StpAges_b18 from rfl, show law12_StpAges_b22 = law12_StpAges_b19 from rfl, show law12_StpAges_b24 = law12_StpAges_b18 from rfl, show law12_StpAges_b25 = law12_StpAges_b19 from rfl, tick_blk h]
  generalize (IntKind.i64.wrap (x.c0.tmod 8 + 8)).tmod 8 = z
  by_cases z0 : z = 0
  · rw [decide_eq_true z0]
    exact link_blk h hp _
  rw [decide_eq_false z0, cond_false]
  by_cases z1 : z = 1
  · rw [decide_eq_true z1]
    exact ⟨_, rfl, h.tick⟩
  rw [decide_eq_false z1, cond_false]
  by_cases z2 : z = 2
  · rw [decide_eq_true z2]
    exact ⟨_, rfl, h.tick⟩
  rw [decide_eq_false z2, cond_false]
  by_cases z3 : z = 3
  · rw [decide_eq_true z3]
    exact ⟨_, rfl, h.tick⟩
  rw [decide_eq_false z3, cond_false]
  exact hear_blk h hp hc

/-! Growing old. -/
theorem tick_info {s : StpT} {p : Nat} (hp : p < s.Self.Infos.length) : infoP (tickS (stl (aged s))).Self p = ageI s.Max (infoP s.Self p) := aged_info hp
def Blank (s : StpT) : Prop := ∀ p, p < s.Self.Costs.length → infoP s.Self p = zInfo
theorem ageI_z (m : Int) : ageI m zInfo = zInfo := by unfold ageI; rw [if_neg (fun h => by cases h.1)]
theorem blank_tick {s : StpT} (h : StpOk s) (hb : Blank s) : Blank (tickS (stl (aged s))) := fun p hp => by
  obtain ⟨k1, k2, k3, k4⟩ := h.lens
  have hp' : p < s.Self.Costs.length := hp
  rw [tick_info (by omega), hb p hp', ageI_z]
theorem blank_self {s : StpT} (h : StpOk s) (hb : Blank s) : (aged s).Self = s.Self := by
  obtain ⟨k1, k2, k3, k4⟩ := h.lens
  have : s.Self.Infos.map (ageI s.Max) = s.Self.Infos := by
    apply List.ext_getElem?
    intro i
    rw [List.getElem?_map]
    by_cases hi : i < s.Self.Infos.length
    · have e : s.Self.Infos[i]? = some zInfo := by
        rw [some_getD zInfo hi]
        exact congrArg some (hb i (by omega))
      rw [e, Option.map_some, ageI_z]
    · rw [List.getElem?_eq_none (by omega)]; rfl
  unfold aged
  rw [this]
theorem blank_st {s : StpT} (h : StpOk s) (hb : Blank s) {p : Nat} (hp : p < s.Self.Costs.length) : stP (tickS (stl (aged s))) p = tickP s.Delay (stP s p) := by
  obtain ⟨k1, k2, k3, k4⟩ := h.lens
  have e : stP (stl (aged s)) p = stP s p := by
    rw [stl_st (s := aged s) (by show p < s.States.length; omega), blank_self h hb]
    obtain ⟨h1, h2, h3⟩ := h.2.2.2 p hp
    rw [h2]
    show prole (stP s p) s.Delay _ = _
    unfold pR at h1
    rw [decide_eq_true_eq] at h1
    generalize stP s p = x at h1
    obtain ⟨st, lf⟩ := x
    simp only at h1
    unfold prole
    by_cases hs : st = 0
    · subst hs
      have : lf = 0 := by omega
      subst this
      rfl
    · simp [hs]
  rw [tickS_st (by rw [stl_slen]; show p < s.States.length; omega), e]
  rfl
theorem blank_rootP {s : StpT} (h : StpOk s) (hb : Blank s) : rootP s.Self = none := by
  have hn : hasL s.Self s.Self.Costs.length = [] := by
    refine List.eq_nil_iff_forall_not_mem.2 fun p hp => ?_
    obtain ⟨h1, h2⟩ := hasL_mem.1 hp
    rw [hb p h1] at h2; cases h2
  unfold rootP bestP
  rw [hn]; rfl
theorem blank_roleP {s : StpT} (h : StpOk s) (hb : Blank s) {p : Nat} (hp : p < s.Self.Costs.length) : roleP s.Self p = if upP s.Self p = true then 1 else 3 := by
  unfold roleP
  rw [blank_rootP h hb, hb p hp]
  cases upP s.Self p <;> simp [zInfo]
/-- How long until a port forwards. -/
def rem (d : Int) (x : PortStateT) : Int := if x.State = 1 then x.Left + d else if x.State = 2 then x.Left else 0
theorem rem_tick {d : Int} {x : PortStateT} (h : pR x d = true) : rem d (tickP d x) = 0 ∨ rem d (tickP d x) = rem d x - 1 := by
  unfold pR at h
  rw [decide_eq_true_eq] at h
  obtain ⟨st, lf⟩ := x
  simp only at h
  unfold rem tickP
  by_cases h1 : st = 1
  · subst h1
    by_cases h2 : 1 < lf
    · simp [h2]; omega
    · simp [h2]; omega
  · by_cases h3 : st = 2
    · subst h3
      by_cases h2 : 1 < lf
      · simp [h2]
      · simp [h2]
    · have h2 : ¬ 1 < lf := by omega
      simp [h1, h2, h3]
theorem rem_le {d : Int} {x : PortStateT} (h : pR x d = true) : rem d x ≤ 2 * d ∧ (rem d x ≤ 0 → x.State = 0 ∨ x.State = 3) := by
  unfold pR at h
  rw [decide_eq_true_eq] at h
  unfold rem
  split
  · exact ⟨by omega, fun _ => by omega⟩
  · split
    · exact ⟨by omega, fun _ => by omega⟩
    · exact ⟨by omega, fun _ => by omega⟩
section
variable {id most delay : Int} {costs : List Int}
theorem old_loop {s : StpT} (h : Inv id costs most delay s) : ∃ t, rangeN law12_StpAges_b26 most s = some (.nxt t) ∧ Inv id costs most delay t ∧ Blank t := by
  have hm := h.ok.2.2.1
  rw [h.most] at hm
  obtain ⟨t, e1, e2, e3⟩ := rangeN_inv (body := law12_StpAges_b26) (n := most) (s0 := s) (by omega) (fun k t => Inv id costs most delay t ∧ ∀ p, p < t.Self.Costs.length → (infoP t.Self p).Has = false ∨ (k : Int) ≤ (infoP t.Self p).Age) ⟨h, fun p hp => by
    have := infR_age (h.ok.1.inf hp)
    right; simpa using this.1⟩ (fun k t hk ⟨ht, ha⟩ => by
    obtain ⟨k1, k2, k3, k4⟩ := ht.ok.lens
    refine ⟨_, ?_, ht.tick, fun p hp => ?_⟩
    · unfold law12_StpAges_b26
      rw [stp_Tick_eq ht.ok]; rfl
    · have hp' : p < t.Self.Costs.length := hp
      rw [tick_info (by omega)]
      unfold ageI
      split
      · rename_i hh
        rcases ha p hp' with h1 | h1
        · rw [h1] at hh; cases hh.1
        · right
          simp only
          omega
      · exact .inl rfl)
  refine ⟨t, e1, e2, fun p hp => ?_⟩
  refine infR_none (e2.ok.1.inf hp) ?_
  rcases e3 p hp with h1 | h1
  · exact h1
  · have := (e2.ok.2.2.2 p hp).2.2
    rw [e2.most] at this
    omega
theorem fwd_all {s : StpT} (h : Inv id costs most delay s) (hb : Blank s) (body : Nat → StpT → Option (Step Bool StpT)) (hbd : body = law12_StpAges_b27) : ∃ t, rangeN body (2 * delay) s = some (.nxt t) ∧ Inv id costs most delay t ∧ Blank t ∧ ∀ p, p < t.Self.Costs.length → (stP t p).State = 0 ∨ (stP t p).State = 3 := by
  subst hbd
  have hpos : 0 < s.Self.Costs.length := h.ok.1.2.1.1
  have hd : 1 ≤ delay ∧ delay ≤ 30 := by
    have := (h.ok.2.2.2 0 hpos).1
    unfold pR at this
    rw [decide_eq_true_eq, h.delay] at this
    exact ⟨this.1, this.2.1⟩
  obtain ⟨t, e1, e2, e3, e4⟩ := rangeN_inv (body := law12_StpAges_b27) (n := 2 * delay) (s0 := s) (by omega) (fun k t => Inv id costs most delay t ∧ Blank t ∧ ∀ p, p < t.Self.Costs.length → rem delay (stP t p) ≤ 0 ∨ rem delay (stP t p) + (k : Int) ≤ 2 * delay) ⟨h, hb, fun p hp => by
    have := (rem_le (h.ok.2.2.2 p hp).1).1
    rw [h.delay] at this
    right; simpa using this⟩ (fun k t hk ⟨ht, hbt, ha⟩ => by
    obtain ⟨k1, k2, k3, k4⟩ := ht.ok.lens
    refine ⟨_, ?_, ht.tick, blank_tick ht.ok hbt, fun p hp => ?_⟩
    · unfold law12_StpAges_b27
      rw [stp_Tick_eq ht.ok]; rfl
    · have hp' : p < t.Self.Costs.length := hp
      rw [blank_st ht.ok hbt hp', ht.delay]
      have hpr := (ht.ok.2.2.2 p hp').1
      rw [ht.delay] at hpr
      rcases rem_tick hpr with h1 | h1
      · left; omega
      · rcases ha p hp' with h2 | h2
        · left; omega
        · right; omega)
  refine ⟨t, e1, e2, e3, fun p hp => ?_⟩
  have hpr := (e2.ok.2.2.2 p hp).1
  rw [e2.delay] at hpr
  refine (rem_le hpr).2 ?_
  rcases e4 p hp with h1 | h1
  · exact h1
  · omega
/-- The ports that are up. -/
def upsC (s : SelfT) (k : Nat) : Nat := ((List.range k).filter fun p => upP s p).length
theorem upsC_succ (s : SelfT) (k : Nat) : upsC s (k + 1) = upsC s k + if upP s k = true then 1 else 0 := by
  unfold upsC
  rw [List.range_succ, List.filter_append]
  cases h : upP s k <;> simp [h]
theorem upsC_le (s : SelfT) : ∀ k : Nat, upsC s k ≤ k
  | 0 => Nat.le_refl 0
  | k + 1 => by rw [upsC_succ]; have := upsC_le s k; split <;> omega
theorem count_loop {s : StpT} (h : StpOk s) (hb : Blank s) : rangeL (law12_StpAges_b28 s) s.Self.Ups 0 = some (.nxt ((upsC s.Self s.Self.Costs.length : Nat) : Int)) := by
  obtain ⟨k1, k2, k3, k4⟩ := h.lens
  obtain ⟨t, e1, e2⟩ := rangeL_inv (body := law12_StpAges_b28 s) (xs := s.Self.Ups) (s0 := (0 : Int)) (by omega) (fun k t => t = ((upsC s.Self k : Nat) : Int)) rfl (fun k x t hx ht => by
    have hk := (List.getElem?_eq_some_iff.1 hx).1
    have hxe : upP s.Self k = x := getD_some hx
    have hle := upsC_le s.Self k
    subst ht
    refine ⟨_, ?_, rfl⟩
    simp only [law12_StpAges_b28, h.1.info (show k < s.Self.Costs.length by omega), hb k (by omega), Option.bind_some]
    rw [upsC_succ, hxe]
    cases x
    · rfl
    · simp only [cond_true, if_true]
      rw [w64i (by omega) (by omega)]
      rfl)
  rw [e1, e2, k2]
theorem sends_count {s : StpT} (h : StpOk s) (hb : Blank s) : ∀ k, k ≤ s.Self.Costs.length → (sends (stl (aged s)) k).length = upsC s.Self k
  | 0, _ => rfl
  | k + 1, hk => by
    have ih := sends_count h hb k (by omega)
    have ha : ageP s.Self = 0 := by unfold ageP; rw [blank_rootP h hb]
    have hm := h.2.2.1
    rw [sends_succ, upsC_succ, ← ih]
    rw [show (stl (aged s)).Self = (aged s).Self from rfl, blank_self h hb, show (stl (aged s)).Max = s.Max from rfl]
    unfold tellO
    rw [blank_roleP h hb (by omega), ha]
    cases upP s.Self k
    · simp
    · have : (0 : Int) < s.Max := by omega
      simp [this]
theorem fwds_count {s : StpT} (h : StpOk s) (hb : Blank s) (hst : ∀ p, p < s.Self.Costs.length → (stP s p).State = 0 ∨ (stP s p).State = 3) : ∀ k, k ≤ s.Self.Costs.length → (fwds s k).length = upsC s.Self k
  | 0, _ => rfl
  | k + 1, hk => by
    have ih := fwds_count h hb hst k (by omega)
    rw [fwds_succ, upsC_succ, ← ih]
    have ha := (h.2.2.2 k (by omega)).2.1
    rw [blank_roleP h hb (by omega)] at ha
    rcases hst k (by omega) with h1 | h1
    · rw [h1] at ha ⊢
      cases hu : upP s.Self k
      · simp
      · rw [hu] at ha; cases ha
    · rw [h1] at ha ⊢
      cases hu : upP s.Self k
      · rw [hu] at ha; cases ha
      · simp
end
theorem costs_loop (l : List Int) (hl : l.length ≤ 4) : ∃ t, rangeL law12_StpAges_b16 l [] = some (.nxt t) ∧ t.length = l.length ∧ ∀ c ∈ t, 1 ≤ c ∧ c ≤ 9 := by
  obtain ⟨t, e1, e2, e3⟩ := rangeL_inv (body := law12_StpAges_b16) (xs := l) (s0 := ([] : List Int)) (by omega) (fun k t => t.length = k ∧ ∀ c ∈ t, 1 ≤ c ∧ c ≤ 9) ⟨rfl, by simp⟩ (fun k x t hx ⟨h1, h2⟩ => by
    have hk := (List.getElem?_eq_some_iff.1 hx).1
    have hm := md1 (n := 9) (by omega) (by omega) x
    unfold law12_StpAges_b16
    rw [grd_true (fits_small (by rw [List.length_append]; simp; omega) (by omega))]
    refine ⟨_, rfl, by simp [h1], fun c hc => ?_⟩
    rcases List.mem_append.1 hc with h3 | h3
    · exact h2 c h3
    · rw [List.mem_singleton] at h3; subst h3; exact hm)
  exact ⟨t, e1, e2, e3⟩
theorem alive_t : law12_alive = some true := alive12
theorem mnk (n : Nat) (k : Nat) : (0 : Int) ≤ mn ((n : Nat) : Int) (k : Int) ∧ mn ((n : Nat) : Int) (k : Int) ≤ ((n : Nat) : Int) ∧ (mn ((n : Nat) : Int) (k : Int)).toNat ≤ k := by
  unfold mn; split <;> omega
theorem StpAges_true (a0 : Int) (a1 : List Int) (a2 a3 : Int) (a4 : List A4_Int) : law12_StpAges a0 a1 a2 a3 a4 = some true := by
  obtain ⟨m1, m2, m3⟩ := mnk a1.length 4
  obtain ⟨m4, m5, m6⟩ := mnk a4.length 60
  unfold law12_StpAges
  have hl1 : (a1.take (mn ((a1.length : Nat) : Int) 4).toNat).length ≤ 4 := by
    rw [List.length_take]; exact Nat.le_trans (Nat.min_le_left _ _) m3
  have hl4 : (a4.take (mn ((a4.length : Nat) : Int) 60).toNat).length ≤ 60 := by
    rw [List.length_take]; exact Nat.le_trans (Nat.min_le_left _ _) m6
  obtain ⟨s16, e16, l16, c16⟩ := costs_loop _ hl1
  rw [grd_true ⟨m1, m2⟩, e16, aft_some_nxt, grd_true (fits_small (by rw [List.length_append]; simp; omega) (by omega))]
  have b0 := md_ok (n := 6) (by omega) (by omega) a0
  have b2 := md1 (n := 20) (by omega) (by omega) a2
  have b3 := md1 (n := 4) (by omega) (by omega) a3
  have hnew : NewOk ((IntKind.i64.wrap (a0.tmod 6 + 6)).tmod 6) (s16 ++ [1]) (IntKind.i64.wrap (1 + (IntKind.i64.wrap (a2.tmod 20 + 20)).tmod 20)) (IntKind.i64.wrap (1 + (IntKind.i64.wrap (a3.tmod 4 + 4)).tmod 4)) := by
    refine ⟨⟨?_, ?_, by simp [blankS], by simp [blankS], fun p hp => ⟨?_, ?_⟩⟩, ?_, ?_⟩
    · show 0 ≤ (IntKind.i64.wrap (a0.tmod 6 + 6)).tmod 6 ∧ (IntKind.i64.wrap (a0.tmod 6 + 6)).tmod 6 ≤ 65535
      omega
    · show 1 ≤ (s16 ++ [1]).length ∧ (s16 ++ [1]).length ≤ 8
      rw [List.length_append]; simp; omega
    · have hp' : p < (s16 ++ [1]).length := hp
      have hmem : costP (blankS ((IntKind.i64.wrap (a0.tmod 6 + 6)).tmod 6) (s16 ++ [1]) (IntKind.i64.wrap (1 + (IntKind.i64.wrap (a2.tmod 20 + 20)).tmod 20)) (IntKind.i64.wrap (1 + (IntKind.i64.wrap (a3.tmod 4 + 4)).tmod 4))).Self p ∈ s16 ++ [1] := List.mem_of_getElem? (some_getD 0 hp')
      rcases List.mem_append.1 hmem with h3 | h3
      · have := c16 _ h3; omega
      · rw [List.mem_singleton] at h3; omega
    · rw [blank_info]; exact infR_z _
    · omega
    · omega
  rw [New_eq (by rw [List.length_append]; simp; omega), if_pos hnew]
  have h0 : Inv ((IntKind.i64.wrap (a0.tmod 6 + 6)).tmod 6) (s16 ++ [1]) (IntKind.i64.wrap (1 + (IntKind.i64.wrap (a2.tmod 20 + 20)).tmod 20)) (IntKind.i64.wrap (1 + (IntKind.i64.wrap (a3.tmod 4 + 4)).tmod 4)) (newS ((IntKind.i64.wrap (a0.tmod 6 + 6)).tmod 6) (s16 ++ [1]) (IntKind.i64.wrap (1 + (IntKind.i64.wrap (a2.tmod 20 + 20)).tmod 20)) (IntKind.i64.wrap (1 + (IntKind.i64.wrap (a3.tmod 4 + 4)).tmod 4))) := ⟨newS_ok hnew, rfl, rfl, rfl, rfl⟩
  simp only [Option.bind_some, decide_true, Bool.not_true, cond_false]
  rw [grd_true ⟨m4, m5⟩]
  obtain ⟨s17, e17, h17⟩ := rangeL_inv (body := law12_StpAges_b17 a0 a2 s16) (xs := a4.take (mn ((a4.length : Nat) : Int) 60).toNat) (s0 := newS ((IntKind.i64.wrap (a0.tmod 6 + 6)).tmod 6) (s16 ++ [1]) (IntKind.i64.wrap (1 + (IntKind.i64.wrap (a2.tmod 20 + 20)).tmod 20)) (IntKind.i64.wrap (1 + (IntKind.i64.wrap (a3.tmod 4 + 4)).tmod 4))) (by omega) (fun k s => Inv ((IntKind.i64.wrap (a0.tmod 6 + 6)).tmod 6) (s16 ++ [1]) (IntKind.i64.wrap (1 + (IntKind.i64.wrap (a2.tmod 20 + 20)).tmod 20)) (IntKind.i64.wrap (1 + (IntKind.i64.wrap (a3.tmod 4 + 4)).tmod 4)) s) h0 (fun k x s hx hs => step_ok (by omega) hs k x)
  rw [e17, aft_some_nxt]
  obtain ⟨s26, e26, h26, hb26⟩ := old_loop h17
  rw [e26, aft_some_nxt]
  obtain ⟨s27, e27, h27, hb27, hst⟩ := fwd_all h26 hb26 law12_StpAges_b27 rfl
  rw [w64i (x := 2 * _) (by omega) (by omega), e27, aft_some_nxt]
  obtain ⟨k1, k2, k3, k4⟩ := h27.ok.lens
  have u1 : ((s27.Self.Ups.length : Nat) : Int) = (((s16 ++ [1]).length : Nat) : Int) := by rw [k2, h27.costs]
  have u2 : ((s27.Self.Infos.length : Nat) : Int) = (((s16 ++ [1]).length : Nat) : Int) := by rw [k3, h27.costs]
  simp only [decide_eq_true u1, decide_eq_true u2, Bool.not_true, cond_false]
  rw [count_loop h27.ok hb27, aft_some_nxt, stp_Tick_eq h27.ok, stp_Forwards_eq h27.ok, Root_eq h27.ok.1, alive_t]
  have hp : portP s27.Self = -1 := by unfold portP; rw [blank_rootP h27.ok hb27]
  have ht : tellsP s27.Self 0 = ⟨s27.Self.ID, 0, s27.Self.ID, 0⟩ := by unfold tellsP; rw [blank_rootP h27.ok hb27]
  simp only [Option.bind_some, hp, ht, k4, sends_count h27.ok hb27 _ (Nat.le_refl _), fwds_count h27.ok hb27 hst _ (Nat.le_refl _), h27.id]
  simp
end Go.RX
