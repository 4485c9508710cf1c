/- What is on a segment, plainly. -/
import Derived.Test.YtljecfgfbebjiaaDX
import Derived.Test.YtljecfgfbebjiaaKa
import Derived.Test.YtljecfgfbebjiaaKc
set_option linter.unusedVariables false
set_option linter.unusedSimpArgs false
open Go Go.RX
namespace Go.RX
section
theorem may_eq (l : LanT) (hf : FewL l) (s : Int) : lan_may l s = some (if LR l then (if 0 ≤ s ∧ s < l.Segs then 0 else 3) else 1) := by
 unfold lan_may
 rw [LanRight_eq l hf, Option.bind_some]
 by_cases h : LR l
 ·have := h.segs
  rw [decide_eq_true h, if_pos h, in_eq, Bool.not_true, cond_false, Option.bind_some, w64_pred (by omega) (by omega)]
  by_cases k : 0 ≤ s ∧ s < l.Segs
  ·have k' : 0 ≤ s ∧ s ≤ l.Segs - 1 := by omega
   rw [decide_eq_true k', if_pos k]; rfl
  ·have k' : ¬ (0 ≤ s ∧ s ≤ l.Segs - 1) := by omega
   rw [decide_eq_false k', if_neg k]; rfl
 ·rw [decide_eq_false h, if_neg h]; rfl
theorem delHost_eq (l : List HostT) (q : HostT → Option Bool) (p : HostT → Bool) (hl : l.length ≤ 900000) (hq : ∀ x ∈ l, q x = some (p x)) : slices_DeleteFunc_Host l q = some (l.filter fun x => !p x) :=
 (show slices_DeleteFunc_Host l q = delG q l from rfl).trans (delG_eq hl hq)
def portsOf (k : Nat) (p : PlanT) (s : Int) : List A2_Int := p.Ports.zipIdx.filterMap fun x => if x.1.Up = true ∧ x.1.Seg = s then some ⟨(k : Int), (x.2 : Int)⟩ else none
def portsOn (l : LanT) (s : Int) : List A2_Int := l.Plans.zipIdx.flatMap fun p => portsOf p.2 p.1 s
theorem portsOf_len (k : Nat) (p : PlanT) (s : Int) : (portsOf k p s).length ≤ p.Ports.length := by
 unfold portsOf
 refine Nat.le_trans (List.length_filterMap_le _ _) ?_
 rw [List.length_zipIdx]; exact Nat.le_refl _
theorem portsLoop {ρ : Type} {body : Nat → PlanT → List A2_Int → Option (Step ρ (List A2_Int))} {s : Int} {ps : List PlanT} (hl : ps.length ≤ 8) (hp : ∀ p ∈ ps, p.Ports.length ≤ 10)
  (hb : ∀ k p t, p ∈ ps → t.length ≤ 100 → body k p t = some (.nxt (t ++ portsOf k p s))) : rangeL body ps [] = some (.nxt (ps.zipIdx.flatMap fun p => portsOf p.2 p.1 s)) := by
 obtain ⟨t, h1, h2⟩ := rangeL_inv (s0 := []) (body := body) (xs := ps) (by omega) (fun k t => t = ((ps.take k).zipIdx.flatMap fun p => portsOf p.2 p.1 s) ∧ t.length ≤ 10 * k) ⟨by simp, by simp⟩ fun k p t hk ⟨ht, htl⟩ => by
  have hlt := (List.getElem?_eq_some_iff.1 hk).1
  have hm := List.mem_of_getElem? hk
  refine ⟨_, hb k p t hm (by omega), ?_, ?_⟩
  ·rw [ht, List.take_add_one, hk, Option.toList, List.zipIdx_append, List.flatMap_append, List.length_take, Nat.min_eq_left (by omega)]
   simp
  ·rw [List.length_append]
   have := portsOf_len k p s
   have := hp p hm
   omega
 rw [h1, h2.1, List.take_length]
theorem portLoop {ρ : Type} {body : Nat → LinkT → List A2_Int → Option (Step ρ (List A2_Int))} {s : Int} {k : Nat} {p : PlanT} {t : List A2_Int} (hp : p.Ports.length ≤ 10) (ht : t.length ≤ 100)
  (hb : ∀ (j : Nat) x u, u.length ≤ 200 → body j x u = some (bif (bif x.Up then decide (x.Seg = s) else false) then .nxt (u ++ [⟨(k : Int), (j : Int)⟩]) else .nxt u)) : rangeL body p.Ports t = some (.nxt (t ++ portsOf k p s)) := by
 obtain ⟨u, h1, h2⟩ := rangeL_inv (s0 := t) (body := body) (xs := p.Ports) (by omega) (fun j u => u = t ++ ((p.Ports.take j).zipIdx.filterMap fun x => if x.1.Up = true ∧ x.1.Seg = s then some (⟨(k : Int), (x.2 : Int)⟩ : A2_Int) else none) ∧ u.length ≤ 100 + j) ⟨by simp, by omega⟩ fun j x u hj ⟨hu, hul⟩ => by
  have hlt := (List.getElem?_eq_some_iff.1 hj).1
  rw [hb j x u (by omega)]
  have key : ((p.Ports.take (j + 1)).zipIdx.filterMap fun x => if x.1.Up = true ∧ x.1.Seg = s then some (⟨(k : Int), (x.2 : Int)⟩ : A2_Int) else none) =
    ((p.Ports.take j).zipIdx.filterMap fun x => if x.1.Up = true ∧ x.1.Seg = s then some (⟨(k : Int), (x.2 : Int)⟩ : A2_Int) else none) ++ (if x.Up = true ∧ x.Seg = s then [⟨(k : Int), (j : Int)⟩] else []) := by
   rw [List.take_add_one, hj, Option.toList, List.zipIdx_append, List.filterMap_append, List.length_take, Nat.min_eq_left (by omega)]
   congr 1
   simp only [List.zipIdx_cons, List.zipIdx_nil, List.filterMap_cons, List.filterMap_nil, Nat.zero_add]
   split <;> simp_all
  rw [key]
  by_cases h1 : x.Up = true ∧ x.Seg = s
  ·rw [if_pos h1, h1.1, decide_eq_true h1.2]
   refine ⟨_, rfl, by rw [hu, List.append_assoc], by rw [List.length_append]; simp; omega⟩
  ·have : (bif x.Up then decide (x.Seg = s) else false) = false := by
    cases hx : x.Up with
    | false => rfl
    | true => exact decide_eq_false fun e => h1 ⟨hx, e⟩
   rw [this, if_neg h1]
   refine ⟨_, rfl, by rw [hu, List.append_nil], by omega⟩
 rw [h1, h2.1, List.take_length]; rfl
theorem On_eq (l : LanT) (hf : FewL l) (s : Int) : lan_On l s = some (if LR l then (if 0 ≤ s ∧ s < l.Segs then (l.Hosts.filter (fun h => decide (h.Seg = s)), portsOn l s, 0) else ([], [], 3)) else ([], [], 1)) := by
 unfold lan_On
 rw [may_eq l hf, Option.bind_some]
 by_cases h : LR l
 ·rw [if_pos h, if_pos h]
  by_cases k : 0 ≤ s ∧ s < l.Segs
  ·rw [if_pos k, if_pos k, decide_eq_true rfl, Bool.not_true, cond_false,
    portsLoop (s := s) hf.plans hf.ports (fun k p t hp ht => by
     unfold lan_On_c0
     rw [portLoop (s := s) (k := k) (hf.ports p hp) ht (fun j x u hu => by
      unfold lan_On_c1
      rw [grd_true (fits_of (by simp; omega) (by decide))]
      cases (bif x.Up then decide (x.Seg = s) else false) <;> rfl), aft_some_nxt]), aft_some_nxt]
   have hh := hf.hosts
   unfold slices_Clone_Host
   rw [grd_true (fits_of (by omega) (by decide)), Option.bind_some, delHost_eq l.Hosts (fun x => lan_On_1 x s) (fun x => !decide (x.Seg = s)) (by omega) (fun x _ => rfl), Option.bind_some]
   simp [portsOn]
  ·rw [if_neg k, if_neg k]; rfl
 ·rw [if_neg h, if_neg h]; rfl
theorem mem_portsOn {l : LanT} {s : Int} {q : A2_Int} : q ∈ portsOn l s ↔ ∃ (b k : Nat) (p : PlanT) (x : LinkT), q = ⟨(b : Int), (k : Int)⟩ ∧ l.Plans[b]? = some p ∧ p.Ports[k]? = some x ∧ x.Up = true ∧ x.Seg = s := by
 unfold portsOn portsOf
 simp only [List.mem_flatMap, List.mem_filterMap, Prod.exists, List.mem_zipIdx_iff_getElem?]
 constructor
 ·rintro ⟨p, b, hp, x, k, hx, h⟩
  split at h
  ·rename_i hc; exact ⟨b, k, p, x, (Option.some.inj h).symm, hp, hx, hc.1, hc.2⟩
  ·cases h
 ·rintro ⟨b, k, p, x, rfl, hp, hx, h1, h2⟩
  exact ⟨p, b, hp, x, k, hx, by rw [if_pos ⟨h1, h2⟩]⟩
theorem flatMap_len {α β : Type} {f : α → List β} {c : Nat} : ∀ {l : List α}, (∀ x ∈ l, (f x).length ≤ c) → (l.flatMap f).length ≤ l.length * c
 | [], _ => by simp
 | x :: l, h => by
  rw [List.flatMap_cons, List.length_append, List.length_cons, Nat.add_mul]
  have h1 := h x (List.mem_cons_self ..)
  have h2 := flatMap_len (f := f) (c := c) (l := l) fun y hy => h y (List.mem_cons_of_mem _ hy)
  omega
theorem portsOn_len {l : LanT} (hf : FewL l) (s : Int) : (portsOn l s).length ≤ 80 := by
 unfold portsOn
 refine Nat.le_trans (flatMap_len (c := 10) fun x hx => ?_) (by rw [List.length_zipIdx]; have := hf.plans; omega)
 refine Nat.le_trans (portsOf_len _ _ _) (hf.ports _ ?_)
 obtain ⟨p, b⟩ := x
 exact List.mem_of_getElem? (List.mem_zipIdx_iff_getElem?.1 hx)
end
section
set_option maxHeartbeats 1000000
def IDn (l : LanT) (b : Nat) : Int := (l.Plans[b]?).elim 0 (·.ID)
def Ed (l : LanT) (b k : Nat) (c : Int) : Prop := b ≠ k ∧ ∃ p q x y, l.Plans[b]? = some p ∧ l.Plans[k]? = some q ∧ x ∈ p.Ports ∧ y ∈ q.Ports ∧ x.Up = true ∧ y.Up = true ∧ x.Seg = y.Seg ∧ c = y.Cost
theorem LR.planOk {l : LanT} (h : LR l) {b : Nat} {p : PlanT} (hp : l.Plans[b]? = some p) : PlanOk l.Segs p := ((LR.iff l).1 h).2.1.2 p (List.mem_of_getElem? hp)
theorem Ed.rng {l : LanT} (h : LR l) {b k : Nat} {c : Int} (he : Ed l b k c) : (b < l.Plans.length ∧ k < l.Plans.length) ∧ 1 ≤ c ∧ c ≤ 1000 := by
 obtain ⟨_, p, q, x, y, hp, hq, hx, hy, _, _, _, rfl⟩ := he
 exact ⟨⟨(List.getElem?_eq_some_iff.1 hp).1, (List.getElem?_eq_some_iff.1 hq).1⟩, ((h.planOk hq).2.2 y hy).2⟩
theorem PW.bnd {l : LanT} (h : LR l) {j b : Nat} {w : Wt} (hw : PW (IDn l) (Ed l) j b w) : 0 ≤ w.2 ∧ w.2 ≤ 1000 * (j : Int) := by
 induction hw with
 | base j b => exact ⟨Int.le_refl _, by dsimp only; omega⟩
 | step hp e ih =>
  have := (e.rng h).2
  unfold wad; dsimp only; omega
theorem pushes {α ρ : Type} {body : Nat → α → List tree_wayT → Option (Step ρ (List tree_wayT))} {f : α → List tree_wayT} {xs : List α} {s0 : List tree_wayT} {c : Nat} (hl : xs.length ≤ 1000000) (hc : s0.length + xs.length * c ≤ 700000) (hf : ∀ x ∈ xs, (f x).length ≤ c) (h0 : HP (ky s0) s0.length)
  (hb : ∀ k x s, x ∈ xs → s.length + c ≤ 700000 → HP (ky s) s.length → ∃ r, body k x s = some (.nxt r) ∧ r.Perm (f x ++ s) ∧ HP (ky r) r.length) :
  ∃ r, rangeL body xs s0 = some (.nxt r) ∧ r.Perm (xs.flatMap f ++ s0) ∧ HP (ky r) r.length := by
 obtain ⟨r, h1, h2, h3⟩ := rangeL_inv (s0 := s0) (body := body) (xs := xs) hl (fun k s => s.Perm ((xs.take k).flatMap f ++ s0) ∧ HP (ky s) s.length) ⟨by simp, h0⟩ fun k x s hk ⟨hp, hh⟩ => by
  have hm := List.mem_of_getElem? hk
  have hlt := (List.getElem?_eq_some_iff.1 hk).1
  have hsl : s.length + c ≤ 700000 := by
   rw [hp.length_eq, List.length_append]
   have := flatMap_len (f := f) (c := c) (l := xs.take k) fun y hy => hf y (List.mem_of_mem_take hy)
   rw [List.length_take, Nat.min_eq_left (by omega)] at this
   have h2 : (k + 1) * c ≤ xs.length * c := Nat.mul_le_mul_right _ hlt
   rw [Nat.add_mul] at h2; omega
  obtain ⟨r, h1, h2, h3⟩ := hb k x s hm hsl hh
  refine ⟨r, h1, ?_, h3⟩
  rw [List.take_add_one, hk, Option.toList, List.flatMap_append]
  refine h2.trans ((List.Perm.append_left (f x) hp).trans ?_)
  rw [← List.append_assoc]
  refine List.Perm.append_right s0 ?_
  simp only [List.flatMap_cons, List.flatMap_nil, List.append_nil]
  exact List.perm_append_comm
 exact ⟨r, h1, by rw [List.take_length] at h2; exact h2, h3⟩
def itm (l : LanT) (w : tree_wayT) (M : List (Int × Bool)) (x : LinkT) (q : A2_Int) : List tree_wayT :=
 if x.Up = true ∧ mget M q.c0 false = false then [⟨⟨w.best.c0, w.best.c1 + (((l.Plans[q.c0.toNat]?).bind fun p => p.Ports[q.c1.toNat]?).elim 0 (·.Cost))⟩, q.c0⟩] else []
def itms (l : LanT) (w : tree_wayT) (M : List (Int × Bool)) (x : LinkT) : List tree_wayT := (portsOn l x.Seg).flatMap (itm l w M x)
theorem itms_len {l : LanT} (hf : FewL l) (w : tree_wayT) (M : List (Int × Bool)) (x : LinkT) : (itms l w M x).length ≤ 80 := by
 refine Nat.le_trans (flatMap_len (c := 1) fun q _ => ?_) (by have := portsOn_len hf x.Seg; omega)
 unfold itm; split <;> simp
theorem c3_eq {l : LanT} (hf : FewL l) (h : LR l) (s9 : List tree_wayT × List tree_bestT × List (Int × Bool)) (y6 : tree_wayT × List tree_wayT) (hw : 0 ≤ y6.1.best.c1 ∧ y6.1.best.c1 ≤ 100000) (x : LinkT) {s : List tree_wayT} (hs : s.length ≤ 699920) (hh : HP (ky s) s.length) :
  ∃ r, rangeL (tree_bests_c3 l s9 y6 x) (portsOn l x.Seg) s = some (.nxt r) ∧ r.Perm (itms l y6.1 (mput s9.2.2 y6.1.at_ true) x ++ s) ∧ HP (ky r) r.length := by
 have hn := portsOn_len hf x.Seg
 refine pushes (c := 1) (by omega) (by omega) (fun q _ => by unfold itm; split <;> simp) hh fun k q s hq hsl hh => ?_
 obtain ⟨b, j, p, y, rfl, hp, hy, h1, h2⟩ := mem_portsOn.1 hq
 have hok := ((h.planOk hp).2.2 y (List.mem_of_getElem? hy)).2
 unfold tree_bests_c3 itm
 dsimp only
 by_cases hc : x.Up = true ∧ mget (mput s9.2.2 y6.1.at_ true) (b : Int) false = false
 ·rw [if_pos hc, hc.1, hc.2]
  simp only [Bool.not_false, cond_true]
  rw [gix_nat, hp, Option.bind_some, gix_nat, hy, Option.bind_some, wr_in (by omega) (by omega)]
  obtain ⟨r, e1, e2, e3⟩ := Push_eq (l := s) ⟨⟨y6.1.best.c0, y6.1.best.c1 + y.Cost⟩, (b : Int)⟩ (by omega) hh
  rw [e1]
  refine ⟨r, rfl, ?_, e3⟩
  simp only [Int.toNat_natCast, hp, hy, Option.bind_some, Option.elim_some]
  exact e2
 ·rw [if_neg hc]
  have : (bif x.Up then (!mget (mput s9.2.2 y6.1.at_ true) (b : Int) false) else false) = false := by
   cases hx : x.Up with
   | false => rfl
   | true => cases hm : mget (mput s9.2.2 y6.1.at_ true) (b : Int) false with
    | true => rfl
    | false => exact absurd ⟨hx, hm⟩ hc
  rw [this]
  exact ⟨s, rfl, List.Perm.refl _, hh⟩
theorem c2_eq {l : LanT} (hf : FewL l) (h : LR l) (s9 : List tree_wayT × List tree_bestT × List (Int × Bool)) (y6 : tree_wayT × List tree_wayT) (hw : 0 ≤ y6.1.best.c1 ∧ y6.1.best.c1 ≤ 100000) {p : PlanT} (hp : p ∈ l.Plans) {s : List tree_wayT} (hs : s.length ≤ 500000) (hh : HP (ky s) s.length) :
  ∃ r, rangeL (tree_bests_c2 l s9 y6) p.Ports s = some (.nxt r) ∧ r.Perm (p.Ports.flatMap (itms l y6.1 (mput s9.2.2 y6.1.at_ true)) ++ s) ∧ HP (ky r) r.length := by
 have hn := hf.ports p hp
 refine pushes (c := 80) (by omega) (by omega) (fun x _ => itms_len hf _ _ x) hh fun k x s hx hsl hh => ?_
 obtain ⟨b, hb⟩ := List.mem_iff_getElem?.1 hp
 have hseg := ((h.planOk hb).2.2 x hx).1
 obtain ⟨r, h1, h2, h3⟩ := c3_eq hf h s9 y6 hw x (s := s) (by omega) hh
 unfold tree_bests_c2
 rw [On_eq l hf, if_pos h, if_pos hseg, Option.bind_some, h1]
 exact ⟨r, rfl, h2, h3⟩
theorem start_eq {l : LanT} (hf : FewL l) : ∃ r, rangeL tree_bests_c0 l.Plans [] = some (.nxt r) ∧ r.Perm (l.Plans.zipIdx.map fun x => (⟨⟨x.1.ID, 0⟩, (x.2 : Int)⟩ : tree_wayT)) ∧ HP (ky r) r.length := by
 have hn := hf.plans
 obtain ⟨r, h1, h2, h3⟩ := rangeL_inv (s0 := ([] : List tree_wayT)) (body := tree_bests_c0) (xs := l.Plans) (by omega) (fun k s => s.Perm ((l.Plans.take k).zipIdx.map fun x => (⟨⟨x.1.ID, 0⟩, (x.2 : Int)⟩ : tree_wayT)) ∧ HP (ky s) s.length) ⟨by simp, fun i _ h => absurd h (Nat.not_lt_zero _)⟩ fun k x s hk ⟨hp, hh⟩ => by
  have hlt := (List.getElem?_eq_some_iff.1 hk).1
  have hsl : s.length ≤ 10 := by rw [hp.length_eq]; simp; omega
  obtain ⟨r, e1, e2, e3⟩ := Push_eq (l := s) ⟨⟨x.ID, 0⟩, (k : Int)⟩ (by omega) hh
  unfold tree_bests_c0
  rw [e1]
  refine ⟨r, rfl, e2.trans ?_, e3⟩
  rw [List.take_add_one, hk, Option.toList, List.zipIdx_append, List.map_append, List.length_take, Nat.min_eq_left (by omega)]
  simp only [List.zipIdx_cons, List.zipIdx_nil, List.map_cons, List.map_nil, Nat.zero_add]
  exact (List.Perm.cons _ hp).trans (List.perm_append_singleton _ _).symm
 exact ⟨r, h1, by rw [List.take_length] at h2; exact h2, h3⟩
def dn (O : List tree_bestT) (M : List (Int × Bool)) (b : Nat) : Option Wt := if mget M (b : Int) false = true then (O[b]?).map fun x => (x.c0, x.c1) else none
def hw (H : List tree_wayT) : List (Wt × Nat) := H.map fun w => (wk w, w.at_.toNat)
structure BI (l : LanT) (m : Nat) (s : List tree_wayT × List tree_bestT × List (Int × Bool)) : Prop where
 di : DI (IDn l) (Ed l) l.Plans.length m (hw s.1) (dn s.2.1 s.2.2)
 hp : HP (ky s.1) s.1.length
 at0 : ∀ w ∈ s.1, 0 ≤ w.at_
 ol : s.2.1.length = l.Plans.length
 hl : s.1.length ≤ 10 + 800 * m
 mq : ∀ k, mget s.2.2 k false = true → 0 ≤ k ∧ k < (l.Plans.length : Int)
theorem BI.m_le {l : LanT} {m : Nat} {s : List tree_wayT × List tree_bestT × List (Int × Bool)} (h : BI l m s) : m ≤ l.Plans.length := by
 have := List.countP_le_length (p := fun b => (dn s.2.1 s.2.2 b).isSome) (l := List.range l.Plans.length)
 rw [h.di.cnt, List.length_range] at this; exact this
theorem ar1 {a b c m : Nat} (h1 : a ≤ b + 800) (h2 : b + 1 = c) (h3 : c ≤ 10 + 800 * m) : a ≤ 10 + 800 * (m + 1) ∧ a ≤ c + 800 := by omega
theorem turn_eq {l : LanT} (hf : FewL l) (h : LR l) {m : Nat} {s : List tree_wayT × List tree_bestT × List (Int × Bool)} (hb : BI l m s) (h0 : 0 < s.1.length) :
  ∃ s', tree_bests_c1 l s = some (.nxt s') ∧ ((BI l m s' ∧ s'.1.length + 1 = s.1.length) ∨ (BI l (m + 1) s' ∧ s'.1.length ≤ s.1.length + 800)) := by
 have hn := hf.plans
 have hm := hb.m_le
 have hsl := hb.hl
 obtain ⟨x, r, e1, e2, e3, e4⟩ := Pop_eq (l := s.1) (by omega) h0 hb.hp
 have hx : x ∈ s.1 := e2.mem_iff.2 (List.mem_cons_self ..)
 have hx' : (wk x, x.at_.toNat) ∈ hw s.1 := List.mem_map_of_mem (f := fun w : tree_wayT => (wk w, w.at_.toNat)) hx
 have hat : x.at_.toNat < l.Plans.length := hb.di.bd _ hx'
 have hat0 := hb.at0 x hx
 have hxa : ((x.at_.toNat : Nat) : Int) = x.at_ := Int.toNat_of_nonneg hat0
 have hperm : (hw s.1).Perm ((wk x, x.at_.toNat) :: hw r) := e2.map _
 have hrl : r.length + 1 = s.1.length := by rw [e2.length_eq]; rfl
 have hr : ∀ w ∈ r, w ∈ s.1 := fun w hw => e2.mem_iff.2 (List.mem_cons_of_mem _ hw)
 unfold tree_bests_c1
 rw [Len_eq, Option.bind_some, decide_eq_true (show (0 : Int) < ((s.1.length : Nat) : Int) by omega), cond_true, e1, Option.bind_some]
 dsimp only
 cases hd : mget s.2.2 x.at_ false with
 | true =>
  refine ⟨_, rfl, .inl ⟨?_, hrl⟩⟩
  obtain ⟨w, hw⟩ : ∃ w, dn s.2.1 s.2.2 x.at_.toNat = some w := by
   unfold dn
   rw [hxa, if_pos hd, List.getElem?_eq_getElem (by rw [hb.ol]; exact hat)]
   exact ⟨_, rfl⟩
  exact { di := hb.di.skip hperm hw, hp := e3, at0 := fun w hw => hb.at0 w (hr w hw), ol := hb.ol, hl := by dsimp only; omega, mq := hb.mq }
 | false =>
  obtain ⟨p, hp⟩ : ∃ p, l.Plans[x.at_.toNat]? = some p := ⟨_, List.getElem?_eq_getElem hat⟩
  have hbnd := (hb.di.ph _ hx').bnd h
  have hbnd' : 0 ≤ x.best.c1 ∧ x.best.c1 ≤ 1000 * (m : Int) := hbnd
  obtain ⟨r2, g1, g2, g3⟩ := c2_eq hf h s (x, r) (by dsimp only; omega) (List.mem_of_getElem? hp) (s := r) (by omega) e3
  rw [cond_false, grd_true ⟨hat0, by rw [hb.ol]; omega⟩, gixN_of (by rw [hb.ol]; exact hat), Option.bind_some, gix_of hat0 hp, Option.bind_some]
  rw [g1, aft_some_nxt]
  have g2 : r2.Perm (p.Ports.flatMap (itms l x (mput s.2.2 x.at_ true)) ++ r) := g2
  have hr2 : r2.length ≤ r.length + 800 := by
   rw [g2.length_eq, List.length_append]
   have := flatMap_len (f := itms l x (mput s.2.2 x.at_ true)) (c := 80) (l := p.Ports) fun y _ => itms_len hf _ _ y
   have := hf.ports p (List.mem_of_getElem? hp)
   omega
  have hr3 := ar1 hr2 hrl hsl
  refine ⟨_, rfl, .inr ⟨?_, hr3.2⟩⟩
  have hdn : dn s.2.1 s.2.2 x.at_.toNat = none := by unfold dn; rw [hxa, hd]; rfl
  have hup : dn (s.2.1.set x.at_.toNat x.best) (mput s.2.2 x.at_ true) = upD (dn s.2.1 s.2.2) x.at_.toNat (wk x) := by
   funext k
   unfold upD
   by_cases hk : k = x.at_.toNat
   ·subst hk
    rw [if_pos rfl]
    unfold dn
    rw [hxa, mget_mput, if_pos rfl, List.getElem?_set, if_pos rfl, if_pos (by rw [hb.ol]; exact hat)]; rfl
   ·rw [if_neg hk]
    unfold dn
    rw [mget_mput_ne (by omega), List.getElem?_set, if_neg (Ne.symm hk)]
  have hitm : ∀ w, w ∈ p.Ports.flatMap (itms l x (mput s.2.2 x.at_ true)) ↔ ∃ y k q z, y ∈ p.Ports ∧ y.Up = true ∧ l.Plans[k]? = some q ∧ z ∈ q.Ports ∧ z.Up = true ∧ z.Seg = y.Seg ∧ mget (mput s.2.2 x.at_ true) ((k : Nat) : Int) false = false ∧ w = ⟨⟨x.best.c0, x.best.c1 + z.Cost⟩, (k : Int)⟩ := by
   intro w
   simp only [List.mem_flatMap, itms]
   constructor
   ·rintro ⟨y, hy, q, hq, hw⟩
    obtain ⟨b, j, q', z, rfl, hq', hz, z1, z2⟩ := mem_portsOn.1 hq
    unfold itm at hw
    split at hw
    ·rename_i hc
     simp only [Int.toNat_natCast, hq', hz, Option.bind_some, Option.elim_some, List.mem_singleton] at hw
     exact ⟨y, b, q', z, hy, hc.1, hq', List.mem_of_getElem? hz, z1, z2, hc.2, hw⟩
    ·cases hw
   ·rintro ⟨y, k, q, z, hy, y1, hq, hz, z1, z2, hm, rfl⟩
    obtain ⟨j, hj⟩ := List.mem_iff_getElem?.1 hz
    refine ⟨y, hy, ⟨(k : Int), (j : Int)⟩, mem_portsOn.2 ⟨k, j, q, z, rfl, hq, hj, z1, z2⟩, ?_⟩
    unfold itm
    rw [if_pos ⟨y1, hm⟩]
    simp only [Int.toNat_natCast, hq, hj, Option.bind_some, Option.elim_some, List.mem_singleton]
  have hne : ∀ k : Nat, mget (mput s.2.2 x.at_ true) ((k : Nat) : Int) false = false → x.at_.toNat ≠ k := fun k hk e => by
   rw [← e, hxa, mget_mput] at hk; cases hk
  have hin : ∀ e, e ∈ hw r2 ↔ (∃ w, w ∈ p.Ports.flatMap (itms l x (mput s.2.2 x.at_ true)) ∧ e = (wk w, w.at_.toNat)) ∨ e ∈ hw r := fun e => by
   unfold hw
   simp only [List.mem_map, g2.mem_iff, List.mem_append]
   constructor
   ·rintro ⟨w, hw | hw, rfl⟩
    ·exact .inl ⟨w, hw, rfl⟩
    ·exact .inr ⟨w, hw, rfl⟩
   ·rintro (⟨w, hw, rfl⟩ | ⟨w, hw, rfl⟩)
    ·exact ⟨w, .inl hw, rfl⟩
    ·exact ⟨w, .inr hw, rfl⟩
  exact {
   di := by
    show DI _ _ _ _ (hw r2) (dn (s.2.1.set x.at_.toNat x.best) (mput s.2.2 x.at_ true))
    rw [hup]
    refine hb.di.take (e := (wk x, x.at_.toNat)) (fun b k c he => ⟨by have := (he.rng h).2; omega, (he.rng h).1.2⟩) hperm (fun e he => ?_) hdn (fun e he => ?_) (fun e he => (hin e).2 (.inr he)) (fun k c he hk => ?_)
    ·obtain ⟨w, hw, rfl⟩ := List.mem_map.1 he
     exact e4 w hw
    ·rcases (hin e).1 he with ⟨w, hw, rfl⟩ | he
     ·obtain ⟨y, k, q, z, hy, y1, hq, hz, z1, z2, hm, rfl⟩ := (hitm w).1 hw
      exact .inr ⟨z.Cost, ⟨hne k hm, p, q, y, z, hp, hq, hy, hz, y1, z1, z2.symm, rfl⟩, rfl⟩
     ·exact .inl he
    ·obtain ⟨_, p', q, y, z, hp', hq, hy, hz, y1, z1, z2, rfl⟩ := he
     dsimp only at hp'
     rw [hp] at hp'; cases hp'
     refine (hin _).2 (.inl ⟨⟨⟨x.best.c0, x.best.c1 + z.Cost⟩, (k : Int)⟩, (hitm _).2 ⟨y, k, q, z, hy, y1, hq, hz, z1, z2.symm, ?_, rfl⟩, rfl⟩)
     have hkl := (List.getElem?_eq_some_iff.1 hq).1
     rw [← hup] at hk
     unfold dn at hk
     split at hk
     ·rw [List.getElem?_eq_getElem (by rw [List.length_set, hb.ol]; exact hkl)] at hk; cases hk
     ·rename_i hc; exact Bool.eq_false_iff.2 hc
   hp := g3
   at0 := fun w hw => by
    rcases List.mem_append.1 (g2.mem_iff.1 hw) with k | k
    ·obtain ⟨y, k, q, z, _, _, _, _, _, _, _, rfl⟩ := (hitm w).1 k; dsimp only; omega
    ·exact hb.at0 w (hr w k)
   ol := by dsimp only; rw [List.length_set]; exact hb.ol
   hl := hr3.1
   mq := fun k hk => by
    dsimp only at hk
    by_cases hkx : x.at_ = k
    ·subst hkx; omega
    ·rw [mget_mput_ne hkx] at hk; exact hb.mq k hk }
theorem bests_eq (l : LanT) (hf : FewL l) (h : LR l) : ∃ B, tree_bests l = some B ∧ B.length = l.Plans.length ∧ ∀ b x, B[b]? = some x → PW (IDn l) (Ed l) (l.Plans.length - 1) b (x.c0, x.c1) ∧ ∀ j v, PW (IDn l) (Ed l) j b v → wle (x.c0, x.c1) v := by
 have hn := hf.plans
 obtain ⟨r, h1, h2, h3⟩ := start_eq hf
 unfold tree_bests
 rw [h1, aft_some_nxt, grd_true ⟨by omega, by omega, fits_of (by omega) (by omega)⟩, Int.toNat_natCast]
 have hmem : ∀ w, w ∈ r ↔ ∃ (b : Nat) (p : PlanT), l.Plans[b]? = some p ∧ w = ⟨⟨p.ID, 0⟩, (b : Int)⟩ := fun w => by
  rw [h2.mem_iff, List.mem_map]
  constructor
  ·rintro ⟨⟨p, b⟩, hp, rfl⟩; exact ⟨b, p, List.mem_zipIdx_iff_getElem?.1 hp, rfl⟩
  ·rintro ⟨b, p, hp, rfl⟩; exact ⟨(p, b), List.mem_zipIdx_iff_getElem?.2 hp, rfl⟩
 have b0 : BI l 0 (r, List.replicate l.Plans.length (⟨0, 0⟩ : tree_bestT), ([] : List (Int × Bool))) := {
  di := by
   have e0 : dn (List.replicate l.Plans.length (⟨0, 0⟩ : tree_bestT)) ([] : List (Int × Bool)) = fun _ => none := funext fun b => if_neg (by rw [mget_nil]; exact Bool.false_ne_true)
   show DI _ _ _ _ _ (dn _ _)
   rw [e0]
   refine DI.start (fun e he => ?_) (fun b hb => ?_)
   ·obtain ⟨w, hw, rfl⟩ := List.mem_map.1 he
    obtain ⟨b, p, hp, rfl⟩ := (hmem w).1 hw
    refine ⟨by dsimp only; rw [Int.toNat_natCast]; exact (List.getElem?_eq_some_iff.1 hp).1, ?_⟩
    unfold IDn wk; dsimp only; rw [Int.toNat_natCast, hp]; rfl
   ·refine List.mem_map.2 ⟨_, (hmem _).2 ⟨b, _, List.getElem?_eq_getElem hb, rfl⟩, ?_⟩
    unfold IDn wk; dsimp only; rw [Int.toNat_natCast, List.getElem?_eq_getElem hb]; rfl
  hp := h3
  at0 := fun w hw => by obtain ⟨b, p, _, rfl⟩ := (hmem w).1 hw; dsimp only; omega
  ol := by simp
  hl := by dsimp only; rw [h2.length_eq, List.length_map, List.length_zipIdx]; omega
  mq := fun k hk => by rw [mget_nil] at hk; cases hk }
 obtain ⟨o, k1, k2⟩ := loopF_rec (body := tree_bests_c1 l) (fun s : List tree_wayT × List tree_bestT × List (Int × Bool) => s.1.length + 900 * (List.range l.Plans.length).countP (fun b => !(dn s.2.1 s.2.2 b).isSome))
  (fun s => ∃ m, BI l m s) (fun _ => False) (fun s => ∃ m, BI l m s ∧ s.1 = [])
  (fun s ⟨m, hb⟩ => by
   have cN : ∀ (m : Nat) (s : List tree_wayT × List tree_bestT × List (Int × Bool)), BI l m s → (List.range l.Plans.length).countP (fun b => !(dn s.2.1 s.2.2 b).isSome) + m = l.Plans.length := fun m s hb => by
    have := List.length_eq_countP_add_countP (fun b => (dn s.2.1 s.2.2 b).isSome) (l := List.range l.Plans.length)
    rw [hb.di.cnt, List.length_range] at this
    have e : (List.range l.Plans.length).countP (fun b => !(dn s.2.1 s.2.2 b).isSome) = (List.range l.Plans.length).countP (fun a => decide ¬ (dn s.2.1 s.2.2 a).isSome = true) := by
     congr 1; funext b; cases (dn s.2.1 s.2.2 b).isSome <;> rfl
    omega
   by_cases h0 : 0 < s.1.length
   ·obtain ⟨s', e1, e2⟩ := turn_eq hf h hb h0
    refine ⟨_, e1, ?_⟩
    have a1 := cN m s hb
    have a2 := hb.hl
    rcases e2 with ⟨e2, e3⟩ | ⟨e2, a5⟩
    ·have a3 := cN m s' e2
     exact ⟨⟨m, e2⟩, by omega⟩
    ·have a3 := cN (m + 1) s' e2
     have a4 := e2.hl
     exact ⟨⟨m + 1, e2⟩, by omega⟩
   ·have e0 : s.1 = [] := List.eq_nil_of_length_eq_zero (by omega)
    unfold tree_bests_c1
    rw [Len_eq, Option.bind_some, decide_eq_false (show ¬ (0 : Int) < ((s.1.length : Nat) : Int) by omega)]
    exact ⟨_, rfl, m, hb, e0⟩) 1000000 (r, List.replicate l.Plans.length (⟨0, 0⟩ : tree_bestT), ([] : List (Int × Bool))) ⟨0, b0⟩ (by
    have := List.countP_le_length (p := fun b => !(dn (List.replicate l.Plans.length (⟨0, 0⟩ : tree_bestT)) ([] : List (Int × Bool)) b).isSome) (l := List.range l.Plans.length)
    rw [List.length_range] at this
    have h5 := b0.hl
    dsimp only at h5 ⊢
    omega)
 rw [k1]
 cases o with
 | ret r => exact k2.elim
 | brk s => exact k2.elim
 | nxt s =>
  obtain ⟨m, hb, e0⟩ := k2
  refine ⟨_, rfl, hb.ol, fun b x hx => ?_⟩
  have hlt := (List.getElem?_eq_some_iff.1 hx).1
  have hdi := hb.di
  rw [e0] at hdi
  obtain ⟨w, w1, w2, w3⟩ := DI.fin (fun b k c he => (he.rng h).1) hdi (b := b) (by rw [← hb.ol]; exact hlt)
  unfold dn at w1
  split at w1
  ·rw [hx] at w1; cases w1; exact ⟨w2, w3⟩
  ·cases w1
end
section
set_option maxHeartbeats 1000000
def bst (l : LanT) : List tree_bestT := (tree_bests l).getD []
def bw (l : LanT) (b : Nat) : Wt := ((bst l)[b]?).elim (0, 0) fun x => (x.c0, x.c1)
theorem bst_eq {l : LanT} (hf : FewL l) (h : LR l) : tree_bests l = some (bst l) ∧ (bst l).length = l.Plans.length ∧
  ∀ b, b < l.Plans.length → PW (IDn l) (Ed l) (l.Plans.length - 1) b (bw l b) ∧ ∀ j v, PW (IDn l) (Ed l) j b v → wle (bw l b) v := by
 obtain ⟨B, h1, h2, h3⟩ := bests_eq l hf h
 have e : bst l = B := by unfold bst; rw [h1]; rfl
 rw [e]
 refine ⟨h1, h2, fun b hb => ?_⟩
 have hb' : b < B.length := by omega
 have := h3 b B[b] (List.getElem?_eq_getElem hb')
 unfold bw
 rw [e, List.getElem?_eq_getElem hb']
 exact this
theorem bst_get {l : LanT} (hf : FewL l) (h : LR l) {b : Nat} (hb : b < l.Plans.length) : (bst l)[b]? = some ⟨(bw l b).1, (bw l b).2⟩ := by
 have e := (bst_eq hf h).2.1
 unfold bw
 rw [List.getElem?_eq_getElem (by omega)]; rfl
theorem bw_id {l : LanT} (hf : FewL l) (h : LR l) {b : Nat} (hb : b < l.Plans.length) : wle (bw l b) (IDn l b, 0) := ((bst_eq hf h).2.2 b hb).2 0 _ (.base _ _)
theorem bw_edge {l : LanT} (hf : FewL l) (h : LR l) {b k : Nat} {c : Int} (he : Ed l b k c) : wle (bw l k) (wad (bw l b) c) :=
 ((bst_eq hf h).2.2 k (he.rng h).1.2).2 _ _ (.step ((bst_eq hf h).2.2 b (he.rng h).1.1).1 he)
theorem bw_src {l : LanT} (hf : FewL l) (h : LR l) {b : Nat} (hb : b < l.Plans.length) : bw l b = (IDn l b, 0) ∨ ∃ k c, Ed l k b c ∧ bw l b = wad (bw l k) c := by
 have := ((bst_eq hf h).2.2 b hb).1
 generalize hv : bw l b = v at this
 generalize l.Plans.length - 1 = N at this
 cases this with
 | base => exact .inl rfl
 | step hp he =>
  rename_i j k w c
  refine .inr ⟨k, c, he, ?_⟩
  have h1 := bw_edge hf h he
  have h2 := ((bst_eq hf h).2.2 k (he.rng h).1.1).2 _ _ hp
  rw [hv] at h1
  exact wle.anti h1 (h2.add c)
theorem bw_bnd {l : LanT} (hf : FewL l) (h : LR l) {b : Nat} (hb : b < l.Plans.length) : 0 ≤ (bw l b).2 ∧ (bw l b).2 ≤ 6000 := by
 have := ((bst_eq hf h).2.2 b hb).1.bnd h
 have hn := h.plans
 omega
theorem bw_zero {l : LanT} (hf : FewL l) (h : LR l) {b : Nat} (hb : b < l.Plans.length) : (bw l b).2 = 0 ↔ (bw l b).1 = IDn l b := by
 constructor
 ·intro h0
  rcases bw_src hf h hb with e | ⟨k, c, he, e⟩
  ·rw [e]
  ·have h1 := (he.rng h)
   have h2 := bw_bnd hf h h1.1.1
   rw [e] at h0; unfold wad at h0; dsimp only at h0; omega
 ·intro h1
  have h2 := bw_id hf h hb
  have h3 := bw_bnd hf h hb
  unfold wle at h2; dsimp only at h2; omega
theorem Ed.back {l : LanT} {b k : Nat} {c : Int} (he : Ed l b k c) : ∃ d, Ed l k b d := by
 obtain ⟨hn, p, q, x, y, hp, hq, hx, hy, x1, y1, e, rfl⟩ := he
 exact ⟨x.Cost, Ne.symm hn, q, p, y, x, hq, hp, hy, hx, y1, x1, e.symm, rfl⟩
theorem bw_root {l : LanT} (hf : FewL l) (h : LR l) {b k : Nat} {c : Int} (he : Ed l b k c) : (bw l b).1 = (bw l k).1 := by
 obtain ⟨d, hd⟩ := he.back
 have h1 := bw_edge hf h he
 have h2 := bw_edge hf h hd
 unfold wle wad at h1 h2; dsimp only at h1 h2; omega
theorem IDn_of {l : LanT} {b : Nat} {p : PlanT} (hp : l.Plans[b]? = some p) : IDn l b = p.ID := by unfold IDn; rw [hp]; rfl
theorem Best_eq (l : LanT) (hf : FewL l) (b : Int) : tree_Best l b = some (if LR l then (if 0 ≤ b ∧ b < (l.Plans.length : Int) then ((bw l b.toNat).1, (bw l b.toNat).2, 0) else (0, 0, 3)) else (0, 0, 1)) := by
 unfold tree_Best
 rw [LanRight_eq l hf, Option.bind_some]
 by_cases h : LR l
 ·rw [if_pos h, decide_eq_true h, Bool.not_true, cond_false]
  by_cases hb : 0 ≤ b ∧ b < (l.Plans.length : Int)
  ·rw [if_pos hb]
   obtain ⟨e1, e2, _⟩ := bst_eq hf h
   rw [decide_eq_false (show ¬ b < 0 by omega), cond_false, decide_eq_false (show ¬ ((l.Plans.length : Nat) : Int) ≤ b by omega), cond_false, e1, Option.bind_some, grd_true ⟨hb.1, by rw [e2]; exact hb.2⟩]
   have := bst_get hf h (b := b.toNat) (by omega)
   have : gixN (bst l) b.toNat = _ := this
   rw [this]; rfl
  ·rw [if_neg hb]
   by_cases h0 : b < 0
   ·rw [decide_eq_true h0]; rfl
   ·rw [decide_eq_false h0, cond_false, decide_eq_true (show ((l.Plans.length : Nat) : Int) ≤ b by omega)]; rfl
 ·rw [if_neg h, decide_eq_false h]; rfl
end
end Go.RX
