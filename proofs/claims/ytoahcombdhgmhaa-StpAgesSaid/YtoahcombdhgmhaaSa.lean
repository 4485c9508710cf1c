/- Bridges and their ports, plainly: what the program's role and port compute. -/
import Derived.Test.YtoahcombdhgmhaaTa
set_option linter.unusedVariables false
set_option linter.unusedSimpArgs false
namespace Go.RX
set_option maxHeartbeats 1000000

theorem w64i {x : Int} (h : -9223372036854775808 ≤ x) (h' : x ≤ 9223372036854775807) : IntKind.i64.wrap x = x := w64_in h h'

/-! Vecs. -/
def inB (a m : Int) : Bool := decide (0 ≤ a) && decide (a ≤ m)
def vR (v : VecT) : Bool := inB v.Root 65535 && inB v.Bridge 65535 && inB v.Cost 2147483647 && inB v.Port 7
theorem inB_iff {a m : Int} : inB a m = true ↔ 0 ≤ a ∧ a ≤ m := by simp [inB]
theorem vR_iff {v : VecT} : vR v = true ↔ (0 ≤ v.Root ∧ v.Root ≤ 65535) ∧ (0 ≤ v.Bridge ∧ v.Bridge ≤ 65535) ∧ (0 ≤ v.Cost ∧ v.Cost ≤ 2147483647) ∧ (0 ≤ v.Port ∧ v.Port ≤ 7) := by
  simp only [vR, Bool.and_eq_true, inB_iff, and_assoc]
theorem vec_in_eq (a m : Int) : vec_in a m = some (inB a m) := by
  unfold vec_in inB; cases decide (0 ≤ a) <;> rfl
theorem vec_Right_eq (v : VecT) : vec_Right v = some (vR v) := by
  simp only [vec_Right, vec_in_eq, Option.bind_some, vR]
  generalize inB v.Root 65535 = a
  generalize inB v.Bridge 65535 = b
  generalize inB v.Cost 2147483647 = c
  generalize inB v.Port 7 = d
  cases a <;> cases b <;> cases c <;> cases d <;> rfl

def vlt (a b : VecT) : Bool :=
  bif !decide (a.Root = b.Root) then decide (a.Root < b.Root) else
  bif !decide (a.Cost = b.Cost) then decide (a.Cost < b.Cost) else
  bif !decide (a.Bridge = b.Bridge) then decide (a.Bridge < b.Bridge) else decide (a.Port < b.Port)
theorem vlt_irrefl (a : VecT) : vlt a a = false := by simp [vlt]

theorem cmp_Or4 (a b c d : Int) : cmp_Or_int [a, b, c, d] = some (if a ≠ 0 then a else if b ≠ 0 then b else if c ≠ 0 then c else d) := by
  unfold cmp_Or_int rangeL
  rw [if_pos (by simp)]
  by_cases ha : a = 0 <;> by_cases hb : b = 0 <;> by_cases hc : c = 0 <;> by_cases hd : d = 0 <;> simp [forR, cmp_Or_int_b5, ha, hb, hc, hd, aft, aftM]

theorem ahead_eq {a b : VecT} (ha : vR a = true) (hb : vR b = true) : vec_ahead_vec_oneT ⟨a⟩ ⟨b⟩ = some (vlt a b) := by
  rw [vR_iff] at ha hb
  have e : ∀ {x y : Int}, 0 ≤ x → x ≤ 2147483647 → 0 ≤ y → y ≤ 2147483647 → IntKind.i64.wrap (x - y) = x - y := fun h1 h2 h3 h4 => w64i (by omega) (by omega)
  unfold vec_ahead_vec_oneT _vec_one_rank
  simp only [cmp_Or4]
  rw [e (by omega) (by omega) (by omega) (by omega), e (by omega) (by omega) (by omega) (by omega), e (by omega) (by omega) (by omega) (by omega), e (by omega) (by omega) (by omega) (by omega)]
  unfold vlt
  by_cases h1 : a.Root = b.Root
  · by_cases h2 : a.Cost = b.Cost
    · by_cases h3 : a.Bridge = b.Bridge
      · by_cases h4 : a.Port = b.Port
        · simp [h1, h2, h3, h4]
        · have : a.Port - b.Port ≠ 0 := by omega
          simp only [h1, h2, h3, h4]; simp; omega
      · have : a.Bridge - b.Bridge ≠ 0 := by omega
        simp [h1, h2, h3, this]; omega
    · have : a.Cost - b.Cost ≠ 0 := by omega
      simp [h1, h2, this]; omega
  · have : a.Root - b.Root ≠ 0 := by omega
    simp [h1, this]; omega

theorem vec_Better_eq {a b : VecT} (ha : vR a = true) (hb : vR b = true) : vec_Better a b = some (vlt a b, 0) := by
  simp only [vec_Better, vec_Right_eq, ha, hb, gd, Option.bind_some, ahead_eq ha hb, Bool.not_true, Bool.not_false, cond_true, cond_false]

def far (v : VecT) (c : Int) : VecT := ⟨v.Root, mn (v.Cost + c) 2147483647, v.Bridge, v.Port⟩
theorem far_right {v : VecT} {c : Int} (hv : vR v = true) (h0 : 0 ≤ c) (h1 : c ≤ 2147483647) : vR (far v c) = true := by
  rw [vR_iff] at hv ⊢
  simp only [far, mn]
  split <;> omega
theorem vec_Far_eq {v : VecT} {c : Int} (hv : vR v = true) (h0 : 0 ≤ c) (h1 : c ≤ 2147483647) : vec_Far v c = some (far v c, 0) := by
  have hb := vR_iff.1 hv
  have hc : inB c 2147483647 = true := inB_iff.2 ⟨h0, h1⟩
  simp only [vec_Far, vec_Right_eq, hv, gd, vec_in_eq, hc, Option.bind_some, Bool.not_true, Bool.not_false, cond_true, cond_false, far]
  rw [w64i (by omega) (by omega)]

theorem allRight_eq {l : List VecT} (hl : l.length ≤ 1000000) (h : ∀ v ∈ l, vR v = true) : vec_allRight l = some true := by
  have : slices_IndexFunc_Vec l (fun x => vec_allRight_1 x) = some (-1) := by
    unfold slices_IndexFunc_Vec
    rcases rangeL_find (s0 := ()) (body := slices_IndexFunc_Vec_b3 (fun x => vec_allRight_1 x)) hl (fun _ x => !vR x) (fun k _ => ((k : Nat) : Int)) (fun k x hx => by
      simp only [slices_IndexFunc_Vec_b3, vec_allRight_1, vec_Right_eq, Option.bind_some]; cases vR x <;> rfl) with ⟨k, x, hx, hp, _⟩ | ⟨_, hr⟩
    · rw [h x (List.mem_of_getElem? hx)] at hp; cases hp
    · rw [hr]; rfl
  simp [vec_allRight, slices_ContainsFunc_Vec, this]

/-- The first of the best. -/
def bs (f : Nat → VecT) (b : Option Nat) (p : Nat) : Option Nat := match b with
  | none => some p
  | some q => if vlt (f p) (f q) = true then some p else some q

theorem vec_Best_nil : vec_Best [] = some (0, 4) := by
  have := allRight_eq (l := []) (by simp) (by simp)
  simp [vec_Best, this]
theorem vec_Best_eq {L : List Nat} {f : Nat → VecT} (hl : L.length ≤ 1000000) (hne : L ≠ []) (h : ∀ p ∈ L, vR (f p) = true) :
    ∃ i : Nat, vec_Best (L.map f) = some ((i : Int), 0) ∧ ∃ q, L[i]? = some q ∧ L.foldl (bs f) none = some q := by
  have har := allRight_eq (l := L.map f) (by simpa using hl) (fun v hv => by
    obtain ⟨p, hp, rfl⟩ := List.mem_map.1 hv; exact h p hp)
  have hpos : 0 < L.length := List.length_pos_iff.2 hne
  obtain ⟨s, h1, h2⟩ := rangeL_inv (s0 := (0 : Int)) (body := vec_Best_b4 (L.map f)) (xs := L.map f) (by simpa using hl)
    (fun k s => ∃ i : Nat, s = (i : Int) ∧ ((k = 0 ∧ i = 0) ∨ (∃ q, L[i]? = some q ∧ (L.take k).foldl (bs f) none = some q))) ⟨0, rfl, .inl ⟨rfl, rfl⟩⟩ (fun k x s hx ⟨i, hs, hi⟩ => by
      subst hs
      rw [List.getElem?_map, Option.map_eq_some_iff] at hx
      obtain ⟨p, hp, rfl⟩ := hx
      have hpm := List.mem_of_getElem? hp
      rcases hi with ⟨rfl, rfl⟩ | ⟨q, hq, hf⟩
      · refine ⟨0, ?_, 0, rfl, .inr ⟨p, hp, ?_⟩⟩
        · simp only [vec_Best_b4, show ((0 : Nat) : Int) = (0 : Int) from rfl]
          have hg : gix (L.map f) 0 = some (f p) := by
            have := gix_nat (l := L.map f) (k := 0)
            simp only [Int.natCast_zero] at this
            rw [show (0 : Int) = ((0 : Nat) : Int) from rfl, gix_nat, List.getElem?_map, hp]; rfl
          rw [hg]
          simp [ahead_eq (h p hpm) (h p hpm), vlt_irrefl]
        · rw [List.take_add_one, hp]; simp [bs]
      · have hqm := List.mem_of_getElem? hq
        have hg : gix (L.map f) (i : Int) = some (f q) := by rw [gix_nat, List.getElem?_map, hq]; rfl
        have hb : vec_Best_b4 (L.map f) k (f p) (i : Int) = some (.nxt (if vlt (f p) (f q) = true then (k : Int) else (i : Int))) := by
          simp only [vec_Best_b4, hg, Option.bind_some, ahead_eq (h p hpm) (h q hqm)]
          cases vlt (f p) (f q) <;> simp
        refine ⟨_, hb, if vlt (f p) (f q) = true then k else i, by split <;> rfl, .inr ⟨if vlt (f p) (f q) = true then p else q, ?_, ?_⟩⟩
        · split
          · exact hp
          · exact hq
        · rw [List.take_add_one, List.foldl_append, hf, hp]
          simp only [Option.toList_some, List.foldl_cons, List.foldl_nil, bs]
          split <;> rfl)
  obtain ⟨i, rfl, hi⟩ := h2
  have hne0 : ¬ (((L.map f).length : Nat) : Int) = 0 := by simp; exact hne
  refine ⟨i, ?_, ?_⟩
  · simp only [vec_Best, har, Option.bind_some, Bool.not_true, cond_false, decide_eq_false hne0, h1, aft_some_nxt]
  · rcases hi with ⟨h0, _⟩ | ⟨q, hq, hf⟩
    · simp at h0; exact absurd h0 hne
    · refine ⟨q, hq, ?_⟩
      rw [List.take_of_length_le (by simp)] at hf; exact hf

/-! A bridge. -/
def zInfo : InfoT := ⟨false, ⟨0, 0, 0, 0⟩, 0⟩
def infR (x : InfoT) (up : Bool) : Bool := bif (bif !x.Has then true else !up) then decide (x = zInfo) else (vR x.Vec && inB x.Age 255)
def costP (s : SelfT) (p : Nat) : Int := s.Costs.getD p 0
def infoP (s : SelfT) (p : Nat) : InfoT := s.Infos.getD p zInfo
def upP (s : SelfT) (p : Nat) : Bool := s.Ups.getD p false
def SelfOk (s : SelfT) : Prop := (0 ≤ s.ID ∧ s.ID ≤ 65535) ∧ (1 ≤ s.Costs.length ∧ s.Costs.length ≤ 8) ∧ s.Ups.length = s.Costs.length ∧ s.Infos.length = s.Costs.length ∧
  ∀ p, p < s.Costs.length → (1 ≤ costP s p ∧ costP s p ≤ 1000) ∧ infR (infoP s p) (upP s p) = true
instance (s : SelfT) : Decidable (SelfOk s) := by unfold SelfOk; infer_instance

theorem getD_some {α : Type} {l : List α} {i : Nat} {d x : α} (h : l[i]? = some x) : l.getD i d = x := by simp [List.getD_eq_getElem?_getD, h]
theorem some_getD {α : Type} {l : List α} {i : Nat} (d : α) (h : i < l.length) : l[i]? = some (l.getD i d) := by simp [List.getD_eq_getElem?_getD, h]

theorem isInfo_eq (x : InfoT) (up : Bool) : role_isInfo x up = some (infR x up) := by
  obtain ⟨h, ⟨r, c, b, p⟩, a⟩ := x
  unfold role_isInfo infR
  cases h
  · simp only [zInfo, InfoT.mk.injEq, VecT.mk.injEq]
    simp
  · cases up
    · simp [zInfo]
    · simp only [Bool.not_true, cond_false, vec_Right_eq, Option.bind_some, role_in, gd]
      cases vR ⟨r, c, b, p⟩
      · rfl
      · simp [inB]
theorem infR_has {x : InfoT} {up : Bool} (h : infR x up = true) (hh : x.Has = true) : up = true ∧ vR x.Vec = true ∧ 0 ≤ x.Age ∧ x.Age ≤ 255 := by
  unfold infR at h
  cases up
  · simp [hh] at h; rw [h] at hh; cases hh
  · simp [hh, inB] at h; exact ⟨rfl, h.1, h.2⟩
theorem infR_none {x : InfoT} {up : Bool} (h : infR x up = true) (hh : x.Has = false) : x = zInfo := by
  unfold infR at h
  simpa [hh] using h
theorem infR_vec {x : InfoT} {up : Bool} (h : infR x up = true) : vR x.Vec = true := by
  cases hh : x.Has
  · rw [infR_none h hh]; decide
  · exact (infR_has h hh).2.1
theorem infR_age {x : InfoT} {up : Bool} (h : infR x up = true) : 0 ≤ x.Age ∧ x.Age ≤ 255 := by
  cases hh : x.Has
  · rw [infR_none h hh]; decide
  · exact (infR_has h hh).2.2

theorem role_in_eq (n lo hi : Int) : role_in n lo hi = some (decide (lo ≤ n) && decide (n ≤ hi)) := by
  unfold role_in; cases decide (lo ≤ n) <;> rfl

theorem role_Right_eq (s : SelfT) (hc : s.Costs.length ≤ 1000000) : role_Right s = some (decide (SelfOk s)) := by
  unfold role_Right
  simp only [role_in_eq, Option.bind_some]
  by_cases h1 : 0 ≤ s.ID ∧ s.ID ≤ 65535
  rotate_left
  · have : (decide (0 ≤ s.ID) && decide (s.ID ≤ 65535)) = false := by
      rw [Bool.eq_false_iff]; intro h; simp at h; exact h1 h
    simp only [this, gd, Bool.not_false, Bool.not_true, cond_true, cond_false, Option.bind_some]
    rw [decide_eq_false (fun h => h1 h.1)]
  have e1 : (decide (0 ≤ s.ID) && decide (s.ID ≤ 65535)) = true := by simpa using h1
  simp only [e1, gd, Bool.not_true, Bool.not_false, cond_true, cond_false, Option.bind_some]
  by_cases h2 : 1 ≤ s.Costs.length ∧ s.Costs.length ≤ 8
  rotate_left
  · have : (decide ((1 : Int) ≤ ((s.Costs.length : Nat) : Int)) && decide (((s.Costs.length : Nat) : Int) ≤ 8)) = false := by
      rw [Bool.eq_false_iff]; intro h; simp at h; exact h2 (by omega)
    simp only [this, Bool.not_false, cond_true]
    rw [decide_eq_false (fun h => h2 h.2.1)]
  have e2 : (decide ((1 : Int) ≤ ((s.Costs.length : Nat) : Int)) && decide (((s.Costs.length : Nat) : Int) ≤ 8)) = true := by simp; omega
  simp only [e2, Bool.not_true, cond_false]
  by_cases h3 : s.Ups.length = s.Costs.length
  rotate_left
  · have : (!decide (((s.Ups.length : Nat) : Int) = ((s.Costs.length : Nat) : Int))) = true := by simp; omega
    simp only [this, cond_true]
    rw [decide_eq_false (fun h => h3 h.2.2.1)]
  have e3 : (!decide (((s.Ups.length : Nat) : Int) = ((s.Costs.length : Nat) : Int))) = false := by simp; omega
  simp only [e3, cond_false]
  by_cases h4 : s.Infos.length = s.Costs.length
  rotate_left
  · have : (!decide (((s.Infos.length : Nat) : Int) = ((s.Costs.length : Nat) : Int))) = true := by simp; omega
    simp only [this, cond_true]
    rw [decide_eq_false (fun h => h4 h.2.2.2.1)]
  have e4 : (!decide (((s.Infos.length : Nat) : Int) = ((s.Costs.length : Nat) : Int))) = false := by simp; omega
  simp only [e4, cond_false]
  have body : ∀ k x, s.Costs[k]? = some x → role_Right_b1 s k x () = some (bif !(decide (1 ≤ x) && decide (x ≤ 1000) && infR (infoP s k) (upP s k)) then .ret false else .nxt ()) := fun k x hx => by
    have hk := (List.getElem?_eq_some_iff.1 hx).1
    have hi : gix s.Infos (k : Int) = some (infoP s k) := by rw [gix_nat]; exact some_getD _ (by omega)
    have hu : gix s.Ups (k : Int) = some (upP s k) := by rw [gix_nat]; exact some_getD _ (by omega)
    simp only [role_Right_b1, role_in_eq, Option.bind_some, hi, hu, isInfo_eq]
    cases decide (1 ≤ x) <;> cases decide (x ≤ 1000) <;> simp [gd] <;> cases infR (infoP s k) (upP s k) <;> rfl
  rcases rangeL_find (s0 := ()) hc _ _ body with ⟨k, x, hx, hp, _, hr⟩ | ⟨hp, hr⟩
  · rw [hr, aft_some_ret, decide_eq_false]
    intro h
    have hk := (List.getElem?_eq_some_iff.1 hx).1
    obtain ⟨⟨h5, h6⟩, h7⟩ := h.2.2.2.2 k hk
    have : costP s k = x := getD_some hx
    rw [this] at h5 h6
    simp [h5, h6, h7] at hp
  · rw [hr, aft_some_nxt, decide_eq_true]
    refine ⟨h1, h2, h3, h4, fun p hp' => ?_⟩
    have := hp p _ (some_getD 0 hp')
    simp only [Bool.not_eq_false', Bool.and_eq_true, decide_eq_true_eq] at this
    exact this

section
variable {s : SelfT} (h : SelfOk s)
include h
theorem SelfOk.n8 : s.Costs.length ≤ 8 := h.2.1.2
theorem SelfOk.cost {p : Nat} (hp : p < s.Costs.length) : gix s.Costs (p : Int) = some (costP s p) ∧ 1 ≤ costP s p ∧ costP s p ≤ 1000 :=
  ⟨by rw [gix_nat]; exact some_getD _ hp, (h.2.2.2.2 p hp).1⟩
theorem SelfOk.info {p : Nat} (hp : p < s.Costs.length) : gix s.Infos (p : Int) = some (infoP s p) := by rw [gix_nat]; exact some_getD _ (by rw [h.2.2.2.1]; exact hp)
theorem SelfOk.up {p : Nat} (hp : p < s.Costs.length) : gix s.Ups (p : Int) = some (upP s p) := by rw [gix_nat]; exact some_getD _ (by rw [h.2.2.1]; exact hp)
theorem SelfOk.inf {p : Nat} (hp : p < s.Costs.length) : infR (infoP s p) (upP s p) = true := (h.2.2.2.2 p hp).2
end
def wayP (s : SelfT) (p : Nat) : VecT := far (infoP s p).Vec (costP s p)
theorem SelfOk.way {s : SelfT} (h : SelfOk s) {p : Nat} (hp : p < s.Costs.length) : vR (wayP s p) = true :=
  far_right (infR_vec (h.inf hp)) (by have := (h.cost hp).2; omega) (by have := (h.cost hp).2; omega)
theorem by_vec_eq {s : SelfT} (h : SelfOk s) {p : Nat} (hp : p < s.Costs.length) : _role_by_vec ⟨(p : Int)⟩ s = some (wayP s p) := by
  simp only [_role_by_vec, h.info hp, (h.cost hp).1, Option.bind_some, vec_Far_eq (infR_vec (h.inf hp)) (by have := (h.cost hp).2; omega : 0 ≤ costP s p) (by have := (h.cost hp).2; omega)]
  rfl
def hasL (s : SelfT) (k : Nat) : List Nat := (List.range k).filter fun p => (infoP s p).Has
def bestP (s : SelfT) : Option Nat := (hasL s s.Costs.length).foldl (bs (wayP s)) none
def rootP (s : SelfT) : Option Nat := match bestP s with
  | some q => if (wayP s q).Root < s.ID then some q else none
  | none => none
theorem hasL_succ (s : SelfT) (k : Nat) : hasL s (k + 1) = if (infoP s k).Has = true then hasL s k ++ [k] else hasL s k := by
  unfold hasL
  rw [List.range_succ, List.filter_append]
  cases hh : (infoP s k).Has <;> simp [hh]
theorem hasL_mem {s : SelfT} {k p : Nat} : p ∈ hasL s k ↔ p < k ∧ (infoP s p).Has = true := by
  unfold hasL; rw [List.mem_filter, List.mem_range]
theorem hasL_len (s : SelfT) (k : Nat) : (hasL s k).length ≤ k := by
  have := List.length_filter_le (fun p => (infoP s p).Has) (List.range k)
  rwa [List.length_range] at this
theorem fold_mem {f : Nat → VecT} : ∀ {L : List Nat} {b : Option Nat} {q : Nat}, L.foldl (bs f) b = some q → q ∈ L ∨ b = some q
  | [], b, q, h => .inr h
  | p :: L, b, q, h => by
    rcases fold_mem (L := L) h with h1 | h1
    · exact .inl (List.mem_cons_of_mem _ h1)
    · unfold bs at h1
      split at h1
      · cases h1; exact .inl List.mem_cons_self
      · split at h1
        · cases h1; exact .inl List.mem_cons_self
        · exact .inr h1
theorem bestP_mem {s : SelfT} {q : Nat} (h : bestP s = some q) : q < s.Costs.length ∧ (infoP s q).Has = true := by
  rcases fold_mem h with h1 | h1
  · exact hasL_mem.1 h1
  · cases h1
theorem rootP_best {s : SelfT} {q : Nat} (h : rootP s = some q) : bestP s = some q ∧ (wayP s q).Root < s.ID := by
  unfold rootP at h
  split at h
  · split at h
    · cases h; exact ⟨by assumption, by assumption⟩
    · cases h
  · cases h
theorem rootP_mem {s : SelfT} {q : Nat} (h : rootP s = some q) : q < s.Costs.length ∧ (infoP s q).Has = true := bestP_mem (rootP_best h).1

def toU : Option Nat → U_role_way
  | none => .k0 ⟨⟩
  | some q => .k1 ⟨(q : Int)⟩
theorem fits_small {n b : Nat} (h : n ≤ 1000000) (hb : b ≤ 100) : fits n b := ⟨by omega, by
  have : n * b ≤ 1000000 * 100 := Nat.mul_le_mul h hb
  omega⟩
theorem wayOf_eq {s : SelfT} (h : SelfOk s) : role_wayOf s = some (toU (rootP s)) := by
  have hn := h.n8
  have hil := h.2.2.2.1
  obtain ⟨st, h1, h2⟩ := rangeL_inv (s0 := (([] : List Int), ([] : List VecT))) (body := role_wayOf_b2 s) (xs := s.Infos) (by omega)
    (fun k st => st = ((hasL s k).map (fun p => ((p : Nat) : Int)), (hasL s k).map (wayP s))) (by simp [hasL]) (fun k x st hx hst => by
      subst hst
      have hk : k < s.Costs.length := by rw [← hil]; exact (List.getElem?_eq_some_iff.1 hx).1
      have hxe : infoP s k = x := getD_some hx
      have hl := hasL_len s k
      simp only [role_wayOf_b2, by_vec_eq h hk, Option.bind_some]
      rw [hasL_succ, hxe]
      cases hh : x.Has
      · simp
      · simp only [cond_true, if_true]
        rw [grd_true (fits_small (by simp; omega) (by omega)), grd_true (fits_small (by simp; omega) (by omega))]
        simp)
  subst h2
  rw [hil] at h1
  unfold role_wayOf
  rw [h1, aft_some_nxt]
  by_cases hne : hasL s s.Costs.length = []
  · have hb : bestP s = none := by unfold bestP; rw [hne]; rfl
    have hr : rootP s = none := by unfold rootP; rw [hb]
    simp [hne, vec_Best_nil, gd, hr, toU]
  · obtain ⟨i, hv, q, hq, hf⟩ := vec_Best_eq (f := wayP s) (by have := hasL_len s s.Costs.length; omega) hne (fun p hp => h.way (hasL_mem.1 hp).1)
    have hb : bestP s = some q := hf
    have hi : i < (hasL s s.Costs.length).length := (List.getElem?_eq_some_iff.1 hq).1
    have hg : gix ((hasL s s.Costs.length).map (wayP s)) (i : Int) = some (wayP s q) := by rw [gix_nat, List.getElem?_map, hq]; rfl
    simp only [hv, Option.bind_some, hg, gd]
    have hr : rootP s = if (wayP s q).Root < s.ID then some q else none := by unfold rootP; rw [hb]
    by_cases hlt : (wayP s q).Root < s.ID
    · have hd : decide (s.ID ≤ (wayP s q).Root) = false := decide_eq_false (by omega)
      simp only [decide_true, Bool.not_true, Bool.not_false, cond_true, cond_false, Option.bind_some, hd]
      rw [grd_true ⟨by omega, by simp; exact hi⟩, hr, if_pos hlt]
      simp [gixN, hq, toU]
    · have hd : decide (s.ID ≤ (wayP s q).Root) = true := decide_eq_true (by omega)
      simp [hd, hr, hlt, toU]

def tellsP (s : SelfT) (p : Int) : VecT := match rootP s with
  | none => ⟨s.ID, 0, s.ID, p⟩
  | some q => ⟨(wayP s q).Root, (wayP s q).Cost, s.ID, p⟩
def ageP (s : SelfT) : Int := match rootP s with
  | none => 0
  | some q => (infoP s q).Age + 1
def portP (s : SelfT) : Int := match rootP s with
  | none => -1
  | some q => (q : Int)
theorem portOf_eq {s : SelfT} (h : SelfOk s) : role_portOf s (toU (rootP s)) = some (portP s, ageP s) := by
  unfold portP ageP
  cases hr : rootP s with
  | none => rfl
  | some q =>
    obtain ⟨hq, _⟩ := rootP_mem hr
    have := infR_age (h.inf hq)
    simp only [toU, role_portOf, h.info hq, Option.bind_some]
    rw [w64i (by omega) (by omega)]
theorem tells_eq {s : SelfT} (h : SelfOk s) (p : Int) : role_tells s (toU (rootP s)) p = some (tellsP s p) := by
  unfold tellsP
  cases hr : rootP s with
  | none => rfl
  | some q =>
    obtain ⟨hq, _⟩ := rootP_mem hr
    simp only [toU, role_tells, by_vec_eq h hq, Option.bind_some]
theorem tells_right {s : SelfT} (h : SelfOk s) {p : Int} (h0 : 0 ≤ p) (h1 : p ≤ 7) : vR (tellsP s p) = true := by
  have hid := h.1
  unfold tellsP
  cases hr : rootP s with
  | none => rw [vR_iff]; simp only; omega
  | some q =>
    have := vR_iff.1 (h.way (rootP_mem hr).1)
    rw [vR_iff]; simp only; omega
def roleP (s : SelfT) (p : Nat) : Int :=
  if upP s p = false then 3 else if rootP s = some p then 0 else if (infoP s p).Has = true ∧ vlt (infoP s p).Vec (tellsP s p) = true then 2 else 1
theorem role_eq {s : SelfT} (h : SelfOk s) {p : Nat} (hp : p < s.Costs.length) : role_role s (toU (rootP s)) (p : Int) = some (roleP s p) := by
  have hn := h.n8
  have e1 : (decide ((p : Int) = portP s)) = decide (rootP s = some p) := by
    unfold portP
    cases hr : rootP s with
    | none => simp
    | some q => simp; omega
  have hb := vec_Better_eq (infR_vec (h.inf hp)) (tells_right h (p := (p : Int)) (by omega) (by omega))
  have core : ((role_portOf s (toU (rootP s))).bind fun y99 =>
    (gix s.Infos (p : Int)).bind fun v101 =>
    (role_tells s (toU (rootP s)) (p : Int)).bind fun y105 =>
    (vec_Better v101.Vec y105).bind fun y113 =>
    (gix s.Ups (p : Int)).bind fun v115 =>
    (bif (!v115) then some (3 : Int) else (bif (decide ((p : Int) = y99.1)) then some 0 else (bif (bif v101.Has then y113.1 else false) then some 2 else some 1)))) = some (roleP s p) := by
    simp only [portOf_eq h, h.info hp, tells_eq h, h.up hp, Option.bind_some, hb, e1]
    unfold roleP
    cases upP s p
    · rfl
    · by_cases hr : rootP s = some p
      · simp [hr]
      · cases (infoP s p).Has <;> cases vlt (infoP s p).Vec (tellsP s (p : Int)) <;> simp [hr]
  cases hr : rootP s with
  | none => rw [hr] at core; exact core
  | some q => rw [hr] at core; exact core
theorem Roles_eq (s : SelfT) (hc : s.Costs.length ≤ 1000000) : role_Roles s = if SelfOk s then some ((List.range s.Costs.length).map (roleP s), 0) else some ([], 1) := by
  unfold role_Roles
  rw [role_Right_eq s hc]
  by_cases h : SelfOk s
  rotate_left
  · simp [h]
  have hn := h.n8
  simp only [h, decide_true, Option.bind_some, Bool.not_true, cond_false, if_true, wayOf_eq h]
  have loop : ∀ (body : Nat → Int → List Int → Option (Step ((List Int) × Int) (List Int))), (∀ k x st, body k x st = (role_role s (toU (rootP s)) ((k : Nat) : Int)).bind fun y => grd (fits ((st ++ ([y] : List Int)) : List Int).length 8) <| some (.nxt (st ++ ([y] : List Int)))) →
      rangeL body s.Costs [] = some (.nxt ((List.range s.Costs.length).map (roleP s))) := fun body hbody => by
    obtain ⟨st, h1, h2⟩ := rangeL_inv (s0 := ([] : List Int)) (body := body) (xs := s.Costs) (by omega) (fun k st => st = (List.range k).map (roleP s)) rfl (fun k x st hx hst => by
      have hk := (List.getElem?_eq_some_iff.1 hx).1
      subst hst
      rw [hbody, role_eq h hk, Option.bind_some, grd_true (fits_small (by simp; omega) (by omega))]
      exact ⟨_, rfl, by rw [List.range_succ]; simp⟩)
    rw [h1, h2]
  cases hr : rootP s with
  | none =>
    have := loop (role_Roles_b6 s) (fun k x st => by rw [hr]; rfl)
    simp only [toU, this, aft_some_nxt]
  | some q =>
    have := loop (role_Roles_b7 s ⟨(q : Int)⟩) (fun k x st => by rw [hr]; rfl)
    simp only [toU, this, aft_some_nxt]

/-! Ports. -/
def pR (x : PortStateT) (d : Int) : Bool := decide (1 ≤ d ∧ d ≤ 30 ∧ (((x.State = 1 ∨ x.State = 2) ∧ 1 ≤ x.Left ∧ x.Left ≤ d) ∨ ((x.State = 0 ∨ x.State = 3) ∧ x.Left = 0)))
theorem port_Right_eq (x : PortStateT) (d : Int) : port_Right x d = some (pR x d) := by
  obtain ⟨st, lf⟩ := x
  have e0 : mn 0 1 = 0 := rfl
  have e1 : 1 ≤ d → mn d 1 = 1 := fun h => by unfold mn; split <;> omega
  unfold port_Right pR
  by_cases hd : 1 ≤ d
  rotate_left
  · have hd' : decide (1 ≤ d) = false := decide_eq_false hd
    have : ¬ (1 ≤ d ∧ d ≤ 30 ∧ (((st = 1 ∨ st = 2) ∧ 1 ≤ lf ∧ lf ≤ d) ∨ ((st = 0 ∨ st = 3) ∧ lf = 0))) := fun h => hd h.1
    rw [decide_eq_false this]
    simp only [hd', cond_false]
    cases decide (st = 1) <;> cases decide (st = 2) <;> cases decide (st = 0) <;> cases decide (st = 3) <;> rfl
  simp only [e1 hd, e0]
  by_cases h1 : st = 1
  · subst h1
    simp only [decide_true, cond_true]
    rw [Option.some.injEq, Bool.eq_iff_iff, decide_eq_true_iff]
    by_cases a : d ≤ 30 <;> by_cases b : lf ≤ d <;> by_cases c : 1 ≤ lf <;> simp [hd, a, b, c]
  · by_cases h2 : st = 2
    · subst h2
      simp only [decide_true, cond_true, decide_eq_false h1, cond_false]
      rw [Option.some.injEq, Bool.eq_iff_iff, decide_eq_true_iff]
      by_cases a : d ≤ 30 <;> by_cases b : lf ≤ d <;> by_cases c : 1 ≤ lf <;> simp [hd, a, b, c]
    · by_cases h3 : st = 0
      · subst h3
        simp only [decide_true, cond_true, decide_eq_false h1, decide_eq_false h2, cond_false]
        rw [Option.some.injEq, Bool.eq_iff_iff, decide_eq_true_iff]
        by_cases a : d ≤ 30 <;> by_cases b : lf ≤ 0 <;> by_cases c : 0 ≤ lf <;> simp [hd, a, b, c] <;> omega
      · by_cases h4 : st = 3
        · subst h4
          simp only [decide_true, cond_true, decide_eq_false h1, decide_eq_false h2, decide_eq_false h3, cond_false]
          rw [Option.some.injEq, Bool.eq_iff_iff, decide_eq_true_iff]
          by_cases a : d ≤ 30 <;> by_cases b : lf ≤ 0 <;> by_cases c : 0 ≤ lf <;> simp [hd, a, b, c] <;> omega
        · simp [h1, h2, h3, h4]
def act (r : Int) : Bool := decide (r = 0 ∨ r = 1)
theorem isActive_eq (r : Int) : stp_isActive r = some (act r) := by
  unfold stp_isActive act
  by_cases h : r = 0 <;> simp [h]

/-! A tree. -/
def stP (s : StpT) (p : Nat) : PortStateT := s.States.getD p ⟨0, 0⟩
def StpOk (s : StpT) : Prop := SelfOk s.Self ∧ s.States.length = s.Self.Costs.length ∧ (1 ≤ s.Max ∧ s.Max ≤ 255) ∧
  ∀ p, p < s.Self.Costs.length → pR (stP s p) s.Delay = true ∧ act (roleP s.Self p) = (!decide ((stP s p).State = 0)) ∧ (infoP s.Self p).Age < s.Max
instance (s : StpT) : Decidable (StpOk s) := by unfold StpOk; infer_instance
theorem stp_Right_eq (s : StpT) (hc : s.Self.Costs.length ≤ 1000000) (hst : s.States.length ≤ 1000000) : stp_Right s = some (decide (StpOk s)) := by
  unfold stp_Right
  rw [Roles_eq _ hc]
  by_cases h : SelfOk s.Self
  rotate_left
  · simp only [h, if_false, Option.bind_some]
    rw [decide_eq_false (fun h' : StpOk s => h h'.1)]
    simp
  simp only [h, if_true, Option.bind_some]
  by_cases h2 : s.States.length = s.Self.Costs.length
  rotate_left
  · have : ¬ ((s.States.length : Nat) : Int) = ((s.Self.Costs.length : Nat) : Int) := by omega
    rw [decide_eq_false (fun h' : StpOk s => h2 h'.2.1)]
    simp [this]
  have e2 : (((s.States.length : Nat) : Int) = ((((List.range s.Self.Costs.length).map (roleP s.Self)).length : Nat) : Int)) := by simp [h2]
  by_cases h3 : 1 ≤ s.Max ∧ s.Max ≤ 255
  rotate_left
  · rw [decide_eq_false (fun h' : StpOk s => h3 h'.2.2.1)]
    have : s.Max < 1 ∨ 255 < s.Max := by omega
    simp only [e2, decide_true, Bool.not_true, cond_false]
    rcases this with h4 | h4
    · simp [h4]
    · by_cases h5 : s.Max < 1 <;> simp [h4, h5]
  simp only [e2, decide_true, Bool.not_true, cond_false, decide_eq_false (show ¬ s.Max < 1 by omega), decide_eq_false (show ¬ 255 < s.Max by omega)]
  have body : ∀ k x, s.States[k]? = some x → stp_Right_b8 s ((List.range s.Self.Costs.length).map (roleP s.Self), 0) k x () =
      some (bif !(pR x s.Delay && (act (roleP s.Self k) == (!decide (x.State = 0))) && decide ((infoP s.Self k).Age < s.Max)) then .ret false else .nxt ()) := fun k x hx => by
    have hk : k < s.Self.Costs.length := by rw [← h2]; exact (List.getElem?_eq_some_iff.1 hx).1
    have hg : gix ((List.range s.Self.Costs.length).map (roleP s.Self)) (k : Int) = some (roleP s.Self k) := by
      rw [gix_nat, List.getElem?_map, List.getElem?_range hk]; rfl
    simp only [stp_Right_b8, port_Right_eq, Option.bind_some, hg, isActive_eq, h.info hk]
    have hage : decide (s.Max ≤ (infoP s.Self k).Age) = !decide ((infoP s.Self k).Age < s.Max) := by
      by_cases h : (infoP s.Self k).Age < s.Max <;> simp [h] <;> omega
    cases hp0 : pR x s.Delay
    · rfl
    · cases hb0 : act (roleP s.Self k) <;> by_cases hb1 : x.State = 0 <;> simp [gd, hb0, hb1, hage] <;> (cases decide ((infoP s.Self k).Age < s.Max) <;> rfl)
  rcases rangeL_find (s0 := ()) hst _ _ body with ⟨k, x, hx, hp, _, hr⟩ | ⟨hp, hr⟩
  · rw [hr, aft_some_ret, decide_eq_false]
    intro h'
    have hk : k < s.Self.Costs.length := by rw [← h2]; exact (List.getElem?_eq_some_iff.1 hx).1
    obtain ⟨h5, h6, h7⟩ := h'.2.2.2 k hk
    have : stP s k = x := getD_some hx
    rw [this] at h5 h6
    rw [h5, h6, decide_eq_true h7] at hp
    simp at hp
  · rw [hr, aft_some_nxt, decide_eq_true]
    refine ⟨h, h2, h3, fun p hp' => ?_⟩
    have := hp p _ (some_getD ⟨0, 0⟩ (by rw [h2]; exact hp'))
    simp only [Bool.not_eq_false', Bool.and_eq_true, decide_eq_true_eq, beq_iff_eq] at this
    exact ⟨this.1.1, this.1.2, this.2⟩
end Go.RX
