/- The document's bridges and trees, plainly. -/
import Derived.Test.YtoahcombdhgmhaaTe
import Derived.Test.YtoahcombdhgmhaaSb
set_option linter.unusedVariables false
set_option linter.unusedSimpArgs false
namespace Go.RX
set_option maxHeartbeats 1000000

theorem ref04_Right_eq (v : VecT) : ref04_Right v = some (vR v) := by
  have e1 : ∀ x : Int, (x < 65536) = (x ≤ 65535) := fun x => propext (by omega)
  have e2 : ∀ x : Int, (x < 2147483648) = (x ≤ 2147483647) := fun x => propext (by omega)
  have e3 : ∀ x : Int, (x < 8) = (x ≤ 7) := fun x => propext (by omega)
  unfold ref04_Right vR inB
  simp only [e1, e2, e3]
  generalize decide (0 ≤ v.Root) = a1
  generalize decide (v.Root ≤ 65535) = a2
  generalize decide (0 ≤ v.Bridge) = a3
  generalize decide (v.Bridge ≤ 65535) = a4
  generalize decide (0 ≤ v.Cost) = a5
  generalize decide (v.Cost ≤ 2147483647) = a6
  generalize decide (0 ≤ v.Port) = a7
  generalize decide (v.Port ≤ 7) = a8
  cases a1 <;> cases a2 <;> cases a3 <;> cases a4 <;> cases a5 <;> cases a6 <;> cases a7 <;> cases a8 <;> rfl
theorem ref04_Better_eq (a b : VecT) : ref04_Better a b = some (vlt a b) := by
  unfold ref04_Better vlt
  cases decide (a.Root = b.Root) <;> cases decide (a.Cost = b.Cost) <;> cases decide (a.Bridge = b.Bridge) <;> rfl
theorem ref11_info_eq (x : InfoT) (up : Bool) : ref11_info x up = some (infR x up) := by
  obtain ⟨h, ⟨r, c, b, p⟩, a⟩ := x
  unfold ref11_info infR
  cases h
  · simp only [zInfo, InfoT.mk.injEq, VecT.mk.injEq]
    simp
  · cases up
    · simp [zInfo]
    · simp only [Bool.not_true, cond_false, ref04_Right_eq, Option.bind_some]
      cases vR ⟨r, c, b, p⟩
      · rfl
      · simp [inB]
theorem ref10_Right_eq (x : PortStateT) (d : Int) : ref10_Right x d = some (pR x d) := by
  obtain ⟨st, lf⟩ := x
  unfold ref10_Right pR
  by_cases h1 : d < 1
  · rw [decide_eq_false (fun h => by omega : ¬ (1 ≤ d ∧ d ≤ 30 ∧ _))]; simp [h1]
  by_cases h2 : 30 < d
  · rw [decide_eq_false (fun h => by omega : ¬ (1 ≤ d ∧ d ≤ 30 ∧ _))]; simp [h2]
  have h3 : 1 ≤ d := by omega
  have h4 : d ≤ 30 := by omega
  simp only [decide_eq_false h1, decide_eq_false h2, cond_false]
  by_cases a : st = 1
  · subst a
    by_cases c : 1 ≤ lf <;> by_cases e : lf ≤ d <;> simp [h3, h4, c, e]
  by_cases b : st = 2
  · subst b
    by_cases c : 1 ≤ lf <;> by_cases e : lf ≤ d <;> simp [h3, h4, c, e]
  by_cases c : st = 0
  · subst c
    by_cases e : lf = 0 <;> simp [h3, h4, e]
  by_cases e : st = 3
  · subst e
    by_cases f : lf = 0 <;> simp [h3, h4, f]
  simp [a, b, c, e]

theorem ref11_Right_eq (s : SelfT) (hc : s.Costs.length ≤ 1000000) : ref11_Right s = some (decide (SelfOk s)) := by
  unfold ref11_Right
  by_cases h1 : 0 ≤ s.ID ∧ s.ID ≤ 65535
  rotate_left
  · rw [decide_eq_false (fun h : SelfOk s => h1 h.1)]
    by_cases h : s.ID < 0
    · simp [h]
    · have h' : 65535 < s.ID := by omega
      simp [h, h']
  have a1 : ¬ s.ID < 0 := by omega
  have a2 : ¬ 65535 < s.ID := by omega
  simp only [decide_eq_false a1, decide_eq_false a2, cond_false]
  by_cases h2 : 1 ≤ s.Costs.length ∧ s.Costs.length ≤ 8
  rotate_left
  · rw [decide_eq_false (fun h : SelfOk s => h2 h.2.1)]
    by_cases h : ((s.Costs.length : Nat) : Int) < 1
    · simp only [decide_eq_true h, cond_true]
    · have h' : (8 : Int) < ((s.Costs.length : Nat) : Int) := by omega
      simp only [decide_eq_false h, decide_eq_true h', cond_false, cond_true]
  have b1 : ¬ ((s.Costs.length : Nat) : Int) < 1 := by omega
  have b2 : ¬ (8 : Int) < ((s.Costs.length : Nat) : Int) := by omega
  simp only [decide_eq_false b1, decide_eq_false b2, cond_false]
  by_cases h3 : s.Ups.length = s.Costs.length
  rotate_left
  · rw [decide_eq_false (fun h : SelfOk s => h3 h.2.2.1), decide_eq_false (show ¬ ((s.Ups.length : Nat) : Int) = ((s.Costs.length : Nat) : Int) by omega)]
    rfl
  rw [decide_eq_true (show ((s.Ups.length : Nat) : Int) = ((s.Costs.length : Nat) : Int) by omega)]
  by_cases h4 : s.Infos.length = s.Costs.length
  rotate_left
  · rw [decide_eq_false (fun h : SelfOk s => h4 h.2.2.2.1), decide_eq_false (show ¬ ((s.Infos.length : Nat) : Int) = ((s.Costs.length : Nat) : Int) by omega)]
    rfl
  rw [decide_eq_true (show ((s.Infos.length : Nat) : Int) = ((s.Costs.length : Nat) : Int) by omega)]
  simp only [Bool.not_true, cond_false]
  have body : ∀ k x, s.Costs[k]? = some x → ref11_Right_b15 s k x () = some (bif !(decide (1 ≤ x) && decide (x ≤ 1000) && infR (infoP s k) (upP s k)) then .ret false else .nxt ()) := fun k x hx => by
    have hk := (List.getElem?_eq_some_iff.1 hx).1
    have hi : gix s.Infos (k : Int) = some (infoP s k) := by rw [gix_nat]; exact some_getD _ (by omega)
    have hu : gix s.Ups (k : Int) = some (upP s k) := by rw [gix_nat]; exact some_getD _ (by omega)
    have c1 : decide (x < 1) = !decide (1 ≤ x) := by by_cases h : 1 ≤ x <;> simp [h] <;> omega
    have c2 : decide (1000 < x) = !decide (x ≤ 1000) := by by_cases h : x ≤ 1000 <;> simp [h] <;> omega
    simp only [ref11_Right_b15, hi, hu, c1, c2]
    cases decide (1 ≤ x) <;> cases decide (x ≤ 1000) <;> simp [gd, ref11_info_eq] <;> cases infR (infoP s k) (upP s k) <;> rfl
  rcases rangeL_find (s0 := ()) hc _ _ body with ⟨k, x, hx, hp, _, hr⟩ | ⟨hp, hr⟩
  · rw [hr, aft_some_ret, decide_eq_false]
    intro h
    have hk := (List.getElem?_eq_some_iff.1 hx).1
    obtain ⟨⟨h5, h6⟩, h7⟩ := h.2.2.2.2 k hk
    have : costP s k = x := getD_some hx
    rw [this] at h5 h6
    simp [h5, h6, h7] at hp
  · rw [hr, aft_some_nxt, decide_eq_true]
    refine ⟨h1, h2, h3, h4, fun p hp' => ?_⟩
    have := hp p _ (some_getD 0 hp')
    simp only [Bool.not_eq_false', Bool.and_eq_true, decide_eq_true_eq] at this
    exact this

theorem ref11_way_eq {s : SelfT} (h : SelfOk s) {p : Nat} (hp : p < s.Costs.length) : ref11_way s (p : Int) = some (wayP s p) := by
  have hv := vR_iff.1 (infR_vec (h.inf hp))
  have hcst := (h.cost hp).2
  simp only [ref11_way, h.info hp, (h.cost hp).1, Option.bind_some, ref04_Far, wayP, far]
  rw [w64i (by omega) (by omega)]
def encP : Option Nat → Int
  | none => -1
  | some q => (q : Int)
theorem bs_some {f : Nat → VecT} {b : Option Nat} {p : Nat} : bs f b p = some (match b with | none => p | some q => if vlt (f p) (f q) = true then p else q) := by
  unfold bs
  cases b with
  | none => rfl
  | some q => simp only; split <;> rfl
theorem ref11_RootPort_eq {s : SelfT} (h : SelfOk s) : ref11_RootPort s = some (portP s) := by
  have hn := h.n8
  have hil := h.2.2.2.1
  obtain ⟨st, h1, h2⟩ := rangeL_inv (s0 := (-1 : Int)) (body := ref11_RootPort_b17 s) (xs := s.Infos) (by omega)
    (fun k st => st = encP ((hasL s k).foldl (bs (wayP s)) none)) rfl (fun k x st hx hst => by
      have hk : k < s.Costs.length := by rw [← hil]; exact (List.getElem?_eq_some_iff.1 hx).1
      have hxe : infoP s k = x := getD_some hx
      rw [hasL_succ, hxe]
      cases hh : x.Has
      · refine ⟨st, ?_, by simpa using hst⟩
        simp [ref11_RootPort_b17, hh, gd]
      · simp only [if_true, List.foldl_append, List.foldl_cons, List.foldl_nil]
        cases hb : (hasL s k).foldl (bs (wayP s)) none with
        | none =>
          rw [hb] at hst
          subst hst
          refine ⟨_, ?_, rfl⟩
          simp [ref11_RootPort_b17, hh, gd, encP, bs]
        | some q =>
          rw [hb] at hst
          subst hst
          have hq : q < s.Costs.length := by
            rcases fold_mem hb with h1 | h1
            · have := (hasL_mem.1 h1).1; omega
            · cases h1
          have hq0 : decide (encP (some q) < 0) = false := decide_eq_false (by simp [encP])
          refine ⟨_, ?_, rfl⟩
          simp only [ref11_RootPort_b17, hh, hq0, gd, Bool.not_false, cond_true, cond_false, ref11_way_eq h hk, Option.bind_some]
          rw [show encP (some q) = (q : Int) from rfl, ref11_way_eq h hq]
          simp only [Option.bind_some, ref04_Better_eq, bs]
          cases vlt (wayP s k) (wayP s q) <;> simp [encP])
  subst h2
  rw [hil, show (hasL s s.Costs.length).foldl (bs (wayP s)) none = bestP s from rfl] at h1
  unfold ref11_RootPort
  rw [h1, aft_some_nxt]
  unfold portP
  cases hb : bestP s with
  | none =>
    have : rootP s = none := by unfold rootP; rw [hb]
    simp [encP, gd, this]
  | some q =>
    have hq := (bestP_mem hb).1
    have hr : rootP s = if (wayP s q).Root < s.ID then some q else none := by unfold rootP; rw [hb]
    have h0 : decide ((0 : Int) ≤ encP (some q)) = true := decide_eq_true (by simp [encP])
    simp only [h0, gd, cond_true]
    rw [show encP (some q) = (q : Int) from rfl, ref11_way_eq h hq]
    by_cases hlt : (wayP s q).Root < s.ID
    · simp [hr, hlt]
    · simp [hr, hlt]
theorem ref11_Tells_eq {s : SelfT} (h : SelfOk s) (p : Int) : ref11_Tells s p = some (tellsP s p) := by
  unfold ref11_Tells tellsP
  rw [ref11_RootPort_eq h, Option.bind_some]
  unfold portP
  cases hr : rootP s with
  | none => simp
  | some q =>
    have hq := (rootP_mem hr).1
    have : decide (((q : Nat) : Int) < 0) = false := decide_eq_false (by omega)
    simp only [this, cond_false, ref11_way_eq h hq, Option.bind_some]
theorem ref11_Role_eq {s : SelfT} (h : SelfOk s) {p : Nat} (hp : p < s.Costs.length) : ref11_Role s (p : Int) = some (roleP s p) := by
  have e1 : (decide ((p : Int) = portP s)) = decide (rootP s = some p) := by
    unfold portP
    cases hr : rootP s with
    | none => simp
    | some q => simp; omega
  simp only [ref11_Role, h.up hp, Option.bind_some, ref11_RootPort_eq h, e1, h.info hp, ref11_Tells_eq h, ref04_Better_eq]
  unfold roleP
  cases upP s p
  · rfl
  · by_cases hr : rootP s = some p
    · simp [hr]
    · cases (infoP s p).Has <;> simp [hr, gd] <;> cases vlt (infoP s p).Vec (tellsP s (p : Int)) <;> simp
theorem ref12_active_eq (r : Int) : ref12_active r = some (act r) := by
  unfold ref12_active act
  by_cases h : r = 0 <;> simp [h]
theorem ref12_Right_eq (s : StpT) (hc : s.Self.Costs.length ≤ 1000000) (hst : s.States.length ≤ 1000000) : ref12_Right s = some (decide (StpOk s)) := by
  unfold ref12_Right
  rw [ref11_Right_eq _ hc, Option.bind_some]
  by_cases h : SelfOk s.Self
  rotate_left
  · rw [decide_eq_false h, decide_eq_false (fun h' : StpOk s => h h'.1)]
    rfl
  rw [decide_eq_true h]
  by_cases h2 : s.States.length = s.Self.Costs.length
  rotate_left
  · rw [decide_eq_false (fun h' : StpOk s => h2 h'.2.1), decide_eq_false (show ¬ ((s.States.length : Nat) : Int) = ((s.Self.Costs.length : Nat) : Int) by omega)]
    rfl
  rw [decide_eq_true (show ((s.States.length : Nat) : Int) = ((s.Self.Costs.length : Nat) : Int) by omega)]
  by_cases h3 : 1 ≤ s.Max ∧ s.Max ≤ 255
  rotate_left
  · rw [decide_eq_false (fun h' : StpOk s => h3 h'.2.2.1)]
    by_cases h5 : s.Max < 1
    · simp [h5]
    · have h4 : 255 < s.Max := by omega
      simp [h4, h5]
  rw [decide_eq_false (show ¬ s.Max < 1 by omega), decide_eq_false (show ¬ 255 < s.Max by omega)]
  simp only [Bool.not_true, cond_false]
  have body : ∀ k x, s.States[k]? = some x → ref12_Right_b16 s k x () =
      some (bif !(pR x s.Delay && (act (roleP s.Self k) == (!decide (x.State = 0))) && decide ((infoP s.Self k).Age < s.Max)) then .ret false else .nxt ()) := fun k x hx => by
    have hk : k < s.Self.Costs.length := by rw [← h2]; exact (List.getElem?_eq_some_iff.1 hx).1
    simp only [ref12_Right_b16, ref10_Right_eq, Option.bind_some, ref11_Role_eq h hk, h.info hk]
    have hage : decide (s.Max ≤ (infoP s.Self k).Age) = !decide ((infoP s.Self k).Age < s.Max) := by
      by_cases h : (infoP s.Self k).Age < s.Max <;> simp [h] <;> omega
    cases hp0 : pR x s.Delay
    · rfl
    · cases hb0 : act (roleP s.Self k) <;> by_cases hb1 : x.State = 0 <;> simp [gd, ref12_active_eq, hb0, hb1, hage] <;> (cases decide ((infoP s.Self k).Age < s.Max) <;> rfl)
  rcases rangeL_find (s0 := ()) hst _ _ body with ⟨k, x, hx, hp, _, hr⟩ | ⟨hp, hr⟩
  · rw [hr, aft_some_ret, decide_eq_false]
    intro h'
    have hk : k < s.Self.Costs.length := by rw [← h2]; exact (List.getElem?_eq_some_iff.1 hx).1
    obtain ⟨h5, h6, h7⟩ := h'.2.2.2 k hk
    have : stP s k = x := getD_some hx
    rw [this] at h5 h6
    rw [h5, h6, decide_eq_true h7] at hp
    simp at hp
  · rw [hr, aft_some_nxt, decide_eq_true]
    refine ⟨h, h2, h3, fun p hp' => ?_⟩
    have := hp p _ (some_getD ⟨0, 0⟩ (by rw [h2]; exact hp'))
    simp only [Bool.not_eq_false', Bool.and_eq_true, decide_eq_true_eq, beq_iff_eq] at this
    exact ⟨this.1.1, this.1.2, this.2⟩

/-- Settled. -/
def stl (s : StpT) : StpT := ⟨s.Self, (List.range s.States.length).map (fun p => prole (stP s p) s.Delay (act (roleP s.Self p))), s.Max, s.Delay⟩
theorem ref10_Role_eq (x : PortStateT) (d : Int) (a : Bool) : ref10_Role x d a = some (prole x d a) := by
  unfold ref10_Role prole
  cases a
  · rfl
  · by_cases h : x.State = 0 <;> simp [h]
theorem ref12_settle_eq {s : StpT} (h : SelfOk s.Self) (h2 : s.States.length = s.Self.Costs.length) : ref12_settle s = some (stl s) := by
  have hn := h.n8
  obtain ⟨st, h1, h3⟩ := rangeL_inv (s0 := ([] : List PortStateT)) (body := ref12_settle_b20 s) (xs := s.States) (by omega) (fun k st => st = (List.range k).map (fun p => prole (stP s p) s.Delay (act (roleP s.Self p)))) rfl (fun k x st hx hst => by
    have hk : k < s.Self.Costs.length := by rw [← h2]; exact (List.getElem?_eq_some_iff.1 hx).1
    have hxe : stP s k = x := getD_some hx
    subst hst
    simp only [ref12_settle_b20, ref11_Role_eq h hk, ref12_active_eq, ref10_Role_eq, Option.bind_some]
    rw [grd_true (fits_small (by simp; omega) (by omega))]
    exact ⟨_, rfl, by rw [List.range_succ]; simp [hxe]⟩)
  unfold ref12_settle
  rw [h1, aft_some_nxt, h3]
  rfl
theorem setl_stl {s : StpT} (h : SelfOk s.Self) (h2 : s.States.length = s.Self.Costs.length) (hp : ∀ p, p < s.Self.Costs.length → pR (stP s p) s.Delay = true) : setl s ((List.range s.Self.Costs.length).map (roleP s.Self)) = stl s := by
  unfold setl stl
  congr 1
  apply List.map_congr_left
  intro p hpm
  rw [List.mem_range, h2] at hpm
  have : ((List.range s.Self.Costs.length).map (roleP s.Self)).getD p 0 = roleP s.Self p := by
    rw [List.getD_eq_getElem?_getD, List.getElem?_map, List.getElem?_range hpm]; rfl
  rw [this]
  unfold proleE
  rw [if_pos (hp p hpm)]

theorem Same_row {α : Type} {ρ : Type} {r : ρ} {body : Nat → α → Unit → Option (Step ρ Unit)} {l : List α} (hl : l.length ≤ 1000000) (hb : ∀ k x, l[k]? = some x → body k x () = some (.nxt ())) : rangeL body l () = some (.nxt ()) := by
  obtain ⟨s, h1, _⟩ := rangeL_inv (s0 := ()) (body := body) hl (fun _ _ => True) trivial (fun k x s hx _ => ⟨(), hb k x hx, trivial⟩)
  exact h1
theorem ref11_Same_self (a : SelfT) (h1 : a.Costs.length ≤ 1000000) (h2 : a.Ups.length ≤ 1000000) (h3 : a.Infos.length ≤ 1000000) : ref11_Same a a = some true := by
  unfold ref11_Same
  rw [Same_row (r := true) h1 (fun k x hx => by simp [ref11_Same_b21, gix_nat, hx]), Same_row (r := true) h2 (fun k x hx => by simp [ref11_Same_b22, gix_nat, hx]), Same_row (r := true) h3 (fun k x hx => by simp [ref11_Same_b23, gix_nat, hx])]
  simp
theorem ref12_Same_self (a : StpT) (h1 : a.Self.Costs.length ≤ 1000000) (h2 : a.Self.Ups.length ≤ 1000000) (h3 : a.Self.Infos.length ≤ 1000000) (h4 : a.States.length ≤ 1000000) : ref12_Same a a = some true := by
  unfold ref12_Same
  rw [ref11_Same_self _ h1 h2 h3, Same_row (r := true) h4 (fun k x hx => by simp [ref12_Same_b24, gix_nat, hx])]
  simp
theorem ref12_Same_z : ref12_Same zStp zStp = some true := ref12_Same_self _ (by simp [zStp]) (by simp [zStp]) (by simp [zStp]) (by simp [zStp])

theorem ref12_blank_eq (id : Int) (costs : List Int) (most delay : Int) (hc : costs.length ≤ 12) : ref12_blank id costs = some (blankS id costs most delay).Self := by
  obtain ⟨st, h1, h2⟩ := rangeL_inv (s0 := (⟨id, costs, [], []⟩ : SelfT)) (body := ref12_blank_b18) (xs := costs) (by omega) (fun k st => st = ⟨id, costs, List.replicate k true, List.replicate k zInfo⟩) rfl (fun k x st hx hst => by
    have hk := (List.getElem?_eq_some_iff.1 hx).1
    subst hst
    simp only [ref12_blank_b18]
    rw [grd_true (fits_small (by simp; omega) (by omega)), grd_true (fits_small (by simp; omega) (by omega))]
    exact ⟨_, rfl, by rw [List.replicate_succ', List.replicate_succ']; rfl⟩)
  unfold ref12_blank
  rw [h1, aft_some_nxt, h2]
  rfl
theorem ref12_New_eq {id most delay : Int} {costs : List Int} (hc : costs.length ≤ 12) : ref12_New id costs most delay = some (if NewOk id costs most delay then (newS id costs most delay, true) else (zStp, false)) := by
  unfold ref12_New
  rw [ref12_blank_eq id costs most delay hc, Option.bind_some, ref11_Right_eq _ (by show costs.length ≤ 1000000; omega), Option.bind_some]
  by_cases h : SelfOk (blankS id costs most delay).Self
  rotate_left
  · rw [decide_eq_false h, if_neg (fun hn : NewOk id costs most delay => h hn.1)]; rfl
  by_cases hm : 1 ≤ most ∧ most ≤ 255
  rotate_left
  · rw [decide_eq_true h, if_neg (fun hn : NewOk id costs most delay => hm hn.2.1)]
    by_cases h5 : most < 1
    · simp [h5, zStp]
    · have h4 : 255 < most := by omega
      simp [h4, h5, zStp]
  by_cases hd : 1 ≤ delay ∧ delay ≤ 30
  rotate_left
  · rw [decide_eq_true h, if_neg (fun hn : NewOk id costs most delay => hd hn.2.2), decide_eq_false (show ¬ most < 1 by omega), decide_eq_false (show ¬ 255 < most by omega)]
    by_cases h5 : delay < 1
    · simp [h5, zStp]
    · have h4 : 30 < delay := by omega
      simp [h4, h5, zStp]
  rw [decide_eq_true h, if_pos (show NewOk id costs most delay from ⟨h, hm, hd⟩), decide_eq_false (show ¬ most < 1 by omega), decide_eq_false (show ¬ 255 < most by omega), decide_eq_false (show ¬ delay < 1 by omega), decide_eq_false (show ¬ 30 < delay by omega)]
  simp only [Bool.not_true, cond_false]
  obtain ⟨st, h1, h2⟩ := rangeL_inv (s0 := (⟨(blankS id costs most delay).Self, [], most, delay⟩ : StpT)) (body := ref12_New_b19) (xs := costs) (by omega) (fun k st => st = ⟨(blankS id costs most delay).Self, List.replicate k ⟨0, 0⟩, most, delay⟩) rfl (fun k x st hx hst => by
    have hk := (List.getElem?_eq_some_iff.1 hx).1
    subst hst
    simp only [ref12_New_b19]
    rw [grd_true (fits_small (by simp; omega) (by omega))]
    exact ⟨_, rfl, by rw [List.replicate_succ']⟩)
  rw [h1, aft_some_nxt, h2]
  have := ref12_settle_eq (s := blankS id costs most delay) h (by simp [blankS])
  rw [show ref12_settle ⟨(blankS id costs most delay).Self, List.replicate costs.length ⟨0, 0⟩, most, delay⟩ = _ from this, Option.bind_some]
  congr 2
  unfold stl newS
  congr 1
  apply List.ext_getElem?
  intro i
  by_cases hi : i < costs.length
  · rw [List.getElem?_map, List.getElem?_range (show i < (blankS id costs most delay).States.length by simp [blankS, hi]), Option.map_some]
    have h1 : stP (blankS id costs most delay) i = ⟨0, 0⟩ := replicate_getD _ _ _ _ hi
    rw [h1, blank_role hi]
    simp [hi, prole, act, blankS]
  · rw [List.getElem?_eq_none (by simp [blankS]; omega), List.getElem?_eq_none (by simp; omega)]
end Go.RX
