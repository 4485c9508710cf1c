/- A tree that is settled; a new one. -/
import Derived.Test.YtoahcombdhgmhaaTb
import Derived.Test.YtoahcombdhgmhaaSa
import Derived.KernelRfl
set_option linter.unusedVariables false
set_option linter.unusedSimpArgs false
namespace Go.RX
set_option maxHeartbeats 1000000

def prole (x : PortStateT) (d : Int) (a : Bool) : PortStateT := if a = false then ⟨0, 0⟩ else if x.State = 0 then ⟨1, d⟩ else x
def proleE (x : PortStateT) (d : Int) (a : Bool) : PortStateT := if pR x d = true then prole x d a else ⟨0, 0⟩
theorem port_Role_eq (x : PortStateT) (d : Int) (a : Bool) : ∃ e, port_Role x d a = some (proleE x d a, e) := by
  unfold port_Role proleE prole
  rw [port_Right_eq, Option.bind_some]
  cases pR x d
  · exact ⟨1, rfl⟩
  · cases a
    · exact ⟨0, rfl⟩
    · by_cases h : x.State = 0
      · exact ⟨0, by simp [h]⟩
      · exact ⟨0, by simp [h]⟩

def setl (s : StpT) (R : List Int) : StpT := ⟨s.Self, (List.range s.States.length).map (fun p => proleE (stP s p) s.Delay (act (R.getD p 0))), s.Max, s.Delay⟩

theorem map_getD {α : Type} (l : List α) (d : α) : (List.range l.length).map (fun p => l.getD p d) = l := by
  apply List.ext_getElem?
  intro i
  rw [List.getElem?_map]
  by_cases h : i < l.length
  · rw [List.getElem?_range h, Option.map_some, some_getD d h]
  · rw [List.getElem?_eq_none (by simp; omega), List.getElem?_eq_none (by omega)]; rfl

theorem settle_loop {ρ : Type} {body : Nat → Int → StpT → Option (Step ρ StpT)} (hb : ∀ k x s, body k x s = (grd ((0 : Int) ≤ ((k : Nat) : Int) ∧ ((k : Nat) : Int) < ((s.States.length : Nat) : Int)) <|
  (gixN s.States (((k : Nat) : Int) : Int).toNat).bind fun v =>
  (stp_isActive x).bind fun y => (port_Role v s.Delay y).bind fun z =>
  grd ((0 : Int) ≤ ((k : Nat) : Int) ∧ ((k : Nat) : Int) < ((s.States.length : Nat) : Int)) <|
  some (.nxt (⟨s.Self, (s.States.set (((k : Nat) : Int) : Int).toNat z.1), s.Max, s.Delay⟩ : StpT)))) (s : StpT) (R : List Int) (hR : R.length = s.States.length) (hl : s.States.length ≤ 1000000) :
    rangeL body R s = some (.nxt (setl s R)) := by
  obtain ⟨t, h1, h2⟩ := rangeL_inv (s0 := s) (body := body) (xs := R) (by omega)
    (fun k t => t = ⟨s.Self, (List.range s.States.length).map (fun p => if p < k then proleE (stP s p) s.Delay (act (R.getD p 0)) else stP s p), s.Max, s.Delay⟩)
    (by
      simp only [Nat.not_lt_zero, if_false]
      have : (List.range s.States.length).map (fun p => stP s p) = s.States := map_getD s.States _
      rw [this]) (fun k x t hx ht => by
      have hk : k < s.States.length := by rw [← hR]; exact (List.getElem?_eq_some_iff.1 hx).1
      subst ht
      obtain ⟨e, he⟩ := port_Role_eq (stP s k) s.Delay (act x)
      have hg : gixN ((List.range s.States.length).map (fun p => if p < k then proleE (stP s p) s.Delay (act (R.getD p 0)) else stP s p)) k = some (stP s k) := by
        unfold gixN
        rw [List.getElem?_map, List.getElem?_range hk]; simp
      rw [hb]
      simp only [Int.toNat_natCast, hg, Option.bind_some, isActive_eq, he]
      rw [grd_true ⟨by omega, by simp; exact hk⟩, grd_true ⟨by omega, by simp; exact hk⟩]
      refine ⟨_, rfl, ?_⟩
      congr 1
      apply List.ext_getElem?
      intro i
      by_cases hi : i < s.States.length
      · rw [List.getElem?_map, List.getElem?_range hi, Option.map_some]
        by_cases hik : k = i
        · subst hik
          rw [List.getElem?_set_self (by simp; exact hk), if_pos (Nat.lt_succ_self k), getD_some hx]
        · rw [List.getElem?_set_ne hik, List.getElem?_map, List.getElem?_range hi, Option.map_some]
          by_cases h3 : i < k
          · rw [if_pos h3, if_pos (by omega)]
          · rw [if_neg h3, if_neg (by omega)]
      · rw [List.getElem?_eq_none (by simp; omega), List.getElem?_eq_none (by simp; omega)])
  rw [h1, h2]
  congr 2
  unfold setl
  congr 1
  apply List.map_congr_left
  intro p hp
  rw [List.mem_range] at hp
  rw [if_pos (by omega)]

theorem copy_self {α : Type} (l : List α) (z : α) : l.take (List.replicate (((l.length : Nat) : Int)).toNat z).length ++ (List.replicate (((l.length : Nat) : Int)).toNat z).drop l.length = l := by simp
theorem clone_eq {l : List PortStateT} (h : l.length ≤ 1000000) : slices_Clone_PortState l = some l := by
  unfold slices_Clone_PortState; rw [grd_true (fits_small h (by omega))]
theorem mk_ok {n b : Nat} (h : n ≤ 1000000) (hb : b ≤ 100) : (0 : Int) ≤ ((n : Nat) : Int) ∧ ((n : Nat) : Int) ≤ ((n : Nat) : Int) ∧ fits (((n : Nat) : Int)).toNat b :=
  ⟨by omega, Int.le_refl _, by rw [Int.toNat_natCast]; exact fits_small h hb⟩

def rolesL (s : SelfT) : List Int := if SelfOk s then (List.range s.Costs.length).map (roleP s) else []

theorem repeat_eq : ∀ n : Nat, n ≤ 12 → slices_Repeat_bool [true] ((n : Nat) : Int) = some (List.replicate n true) := by
  intro n hn
  have : n = 0 ∨ n = 1 ∨ n = 2 ∨ n = 3 ∨ n = 4 ∨ n = 5 ∨ n = 6 ∨ n = 7 ∨ n = 8 ∨ n = 9 ∨ n = 10 ∨ n = 11 ∨ n = 12 := by omega
  rcases this with h | h | h | h | h | h | h | h | h | h | h | h | h <;> subst h <;> rfl

def blankS (id : Int) (costs : List Int) (most delay : Int) : StpT := ⟨⟨id, costs, List.replicate costs.length true, List.replicate costs.length zInfo⟩, List.replicate costs.length ⟨0, 0⟩, most, delay⟩
def zStp : StpT := ⟨⟨0, [], [], []⟩, [], 0, 0⟩
def NewOk (id : Int) (costs : List Int) (most delay : Int) : Prop := SelfOk (blankS id costs most delay).Self ∧ (1 ≤ most ∧ most ≤ 255) ∧ (1 ≤ delay ∧ delay ≤ 30)
instance (id : Int) (costs : List Int) (most delay : Int) : Decidable (NewOk id costs most delay) := by unfold NewOk; infer_instance
/-- A new tree, settled. -/
def newS (id : Int) (costs : List Int) (most delay : Int) : StpT := ⟨(blankS id costs most delay).Self, List.replicate costs.length ⟨1, delay⟩, most, delay⟩

theorem replicate_getD {α : Type} (n p : Nat) (x d : α) (h : p < n) : (List.replicate n x).getD p d = x := by simp [List.getD_eq_getElem?_getD, h]
section
variable {id most delay : Int} {costs : List Int}
theorem blank_info {p : Nat} : infoP (blankS id costs most delay).Self p = zInfo := by
  unfold infoP blankS
  by_cases h : p < costs.length
  · exact replicate_getD _ _ _ _ h
  · simp [List.getD_eq_getElem?_getD, h]
theorem blank_root : rootP (blankS id costs most delay).Self = none := by
  have hn : ∀ k, hasL (blankS id costs most delay).Self k = [] := fun k => by
    refine List.eq_nil_iff_forall_not_mem.2 fun p hp => ?_
    have := (hasL_mem.1 hp).2
    rw [blank_info] at this; cases this
  unfold rootP bestP
  rw [hn]; rfl
theorem blank_role {p : Nat} (hp : p < costs.length) : roleP (blankS id costs most delay).Self p = 1 := by
  unfold roleP
  have hu : upP (blankS id costs most delay).Self p = true := replicate_getD _ _ _ _ hp
  rw [hu, blank_root, blank_info]
  rfl
theorem blank_roles (h : SelfOk (blankS id costs most delay).Self) : rolesL (blankS id costs most delay).Self = List.replicate costs.length 1 := by
  unfold rolesL
  rw [if_pos h]
  apply List.ext_getElem?
  intro i
  by_cases hi : i < costs.length
  · rw [List.getElem?_map, List.getElem?_range (show i < (blankS id costs most delay).Self.Costs.length from hi), Option.map_some, blank_role hi]
    simp [hi]
  · rw [List.getElem?_eq_none (by simp [blankS]; omega), List.getElem?_eq_none (by simp; omega)]
end
theorem changed0_eq {id most delay : Int} {costs : List Int} (hc : costs.length ≤ 12) : stp_changed_x (blankS id costs most delay) = some (if SelfOk (blankS id costs most delay).Self then ⟨(blankS id costs most delay).Self, List.replicate costs.length (if 1 ≤ delay ∧ delay ≤ 30 then ⟨1, delay⟩ else ⟨0, 0⟩), most, delay⟩ else blankS id costs most delay) := by
  unfold stp_changed_x
  simp only [copy_self]
  have e1 : (blankS id costs most delay).Self.Infos.length = costs.length := by simp [blankS]
  have e2 : (blankS id costs most delay).Self.Ups.length = costs.length := by simp [blankS]
  have e3 : (blankS id costs most delay).States.length = costs.length := by simp [blankS]
  rw [e1, e2, grd_true (mk_ok (by omega) (by omega)), grd_true (mk_ok (by omega) (by omega)), clone_eq (by omega)]
  simp only [Option.bind_some, stp_New_1_x]
  rw [show (⟨(blankS id costs most delay).Self.ID, (blankS id costs most delay).Self.Costs, (blankS id costs most delay).Self.Ups, (blankS id costs most delay).Self.Infos⟩ : SelfT) = (blankS id costs most delay).Self from rfl, Roles_eq _ (by show costs.length ≤ 1000000; omega)]
  by_cases h : SelfOk (blankS id costs most delay).Self
  · rw [if_pos h, if_pos h]
    simp only [Option.bind_some]
    have hr := blank_roles h
    unfold rolesL at hr
    rw [if_pos h] at hr
    rw [hr]
    have := settle_loop (body := stp_changed_x_b10) (fun k x s => rfl) (blankS id costs most delay) (List.replicate costs.length 1) (by simp [blankS]) (by omega)
    rw [show (⟨(blankS id costs most delay).Self, (blankS id costs most delay).States, (blankS id costs most delay).Max, (blankS id costs most delay).Delay⟩ : StpT) = blankS id costs most delay from rfl, this, aft_some_nxt]
    congr 1
    unfold setl
    rw [e3]
    congr 1
    apply List.ext_getElem?
    intro i
    by_cases hi : i < costs.length
    · rw [List.getElem?_map, List.getElem?_range hi, Option.map_some]
      have h1 : stP (blankS id costs most delay) i = ⟨0, 0⟩ := replicate_getD _ _ _ _ hi
      rw [h1, replicate_getD _ _ _ _ hi]
      simp only [List.getElem?_replicate, hi, if_true]
      congr 1
      unfold proleE prole pR
      by_cases hd : 1 ≤ delay ∧ delay ≤ 30
      · simp [hd, act, blankS]
      · rw [if_neg hd, if_neg (by
          intro h; simp [blankS] at h; exact hd h)]
    · rw [List.getElem?_eq_none (by simp; omega), List.getElem?_eq_none (by simp; omega)]
  · rw [if_neg h, if_neg h]
    simp only [Option.bind_some]
    unfold rangeL
    simp [forR]
theorem newS_ok {id most delay : Int} {costs : List Int} (h : NewOk id costs most delay) : StpOk (newS id costs most delay) := by
  obtain ⟨h1, h2, h3⟩ := h
  refine ⟨h1, by simp [newS, blankS], h2, fun p hp => ?_⟩
  have hp' : p < costs.length := hp
  have e1 : stP (newS id costs most delay) p = ⟨1, delay⟩ := replicate_getD _ _ _ _ hp'
  rw [e1]
  refine ⟨?_, ?_, ?_⟩
  · unfold pR
    rw [decide_eq_true_eq]
    exact ⟨h3.1, h3.2, .inl ⟨.inl rfl, h3.1, Int.le_refl _⟩⟩
  · have : roleP (newS id costs most delay).Self p = 1 := blank_role (most := most) (delay := delay) hp'
    rw [this]; rfl
  · have : infoP (newS id costs most delay).Self p = zInfo := blank_info (most := most) (delay := delay)
    rw [this]
    show (0 : Int) < most
    omega
theorem New_eq {id most delay : Int} {costs : List Int} (hc : costs.length ≤ 12) : stp_New id costs most delay = some (if NewOk id costs most delay then (newS id costs most delay, 0) else (zStp, 2)) := by
  unfold stp_New
  rw [repeat_eq _ hc, Option.bind_some, grd_true (mk_ok (by omega) (by omega)), grd_true (mk_ok (by omega) (by omega))]
  simp only [Int.toNat_natCast]
  have := changed0_eq (id := id) (most := most) (delay := delay) hc
  rw [show stp_changed_x ⟨⟨id, costs, List.replicate costs.length true, List.replicate costs.length ⟨false, ⟨0, 0, 0, 0⟩, 0⟩⟩, List.replicate costs.length ⟨0, 0⟩, most, delay⟩ = _ from this, Option.bind_some]
  by_cases h : SelfOk (blankS id costs most delay).Self
  · rw [if_pos h]
    by_cases hd : 1 ≤ delay ∧ delay ≤ 30
    · rw [if_pos hd]
      by_cases hm : 1 ≤ most ∧ most ≤ 255
      · have hn : NewOk id costs most delay := ⟨h, hm, hd⟩
        rw [if_pos hn]
        have := stp_Right_eq (newS id costs most delay) (by show costs.length ≤ 1000000; omega) (by simp [newS]; omega)
        rw [decide_eq_true (newS_ok hn)] at this
        rw [show stp_Right ⟨(blankS id costs most delay).Self, List.replicate costs.length ⟨1, delay⟩, most, delay⟩ = _ from this]
        rfl
      · rw [if_neg (fun hn : NewOk id costs most delay => hm hn.2.1), stp_Right_eq _ (by show costs.length ≤ 1000000; omega) (by simp; omega), decide_eq_false (fun hs : StpOk _ => hm hs.2.2.1)]
        rfl
    · rw [if_neg hd, if_neg (fun hn : NewOk id costs most delay => hd hn.2.2), stp_Right_eq _ (by show costs.length ≤ 1000000; omega) (by simp; omega), decide_eq_false (fun hs : StpOk _ => by
        have h0 : 0 < costs.length := h.2.1.1
        have := (hs.2.2.2 0 h0).1
        unfold pR at this
        simp only [decide_eq_true_eq] at this
        exact hd ⟨this.1, this.2.1⟩)]
      rfl
  · rw [if_neg h, if_neg (fun hn : NewOk id costs most delay => h hn.1), stp_Right_eq _ (by show costs.length ≤ 1000000; omega) (by simp [blankS]; omega), decide_eq_false (fun hs : StpOk _ => h hs.1)]
    rfl
end Go.RX
