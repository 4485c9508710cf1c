/- TreeNear, plainly. -/
import Derived.Test.YtljecfgfbebjiaaKd
import Derived.Test.YtljecfgfbebjiaaOX
import Derived.Test.YtljecfgfbebjiaaAl
import Derived.Test.YtljecfgfbebjiaaSc
import Derived.Test.YtljecfgfbebjiaaPb
set_option linter.unusedVariables false
set_option linter.unusedSimpArgs false
open Go Go.RX
namespace Go.RX
section
set_option maxHeartbeats 1000000
theorem few16_eq (l : LanT) : law16_few l = some (fewL l) := by
 unfold law16_few
 rw [grd_true (mn_ok _ _ (by decide)), show (8 : Int) = ((8 : Nat) : Int) from rfl, take_mn,
  rangeL_map (f := fun p : PlanT => (⟨p.ID, p.Ports.take 10⟩ : PlanT)) (by rw [List.length_take]; omega) (fun k x s hx hk => by
   have hk8 : k < 8 := by have := (List.getElem?_eq_some_iff.1 hx).1; rw [List.length_take] at this; omega
   unfold law16_few_c0
   rw [grd_true (mn_ok _ _ (by decide)), grd_true (fits_of (by simp; omega) (by decide)), show (10 : Int) = ((10 : Nat) : Int) from rfl, take_mn]),
  aft_some_nxt, grd_true (mn_ok _ _ (by decide)), show (12 : Int) = ((12 : Nat) : Int) from rfl, take_mn]
 rfl
theorem all_tt {α : Type} (l : List α) : l.all (fun _ => true) = true := by induction l <;> simp_all
theorem near_in {l : LanT} (hf : FewL l) (h : LR l) {i j : Nat} {p q : PlanT} (hp : l.Plans[i]? = some p) (hq : l.Plans[j]? = some q) {x y : LinkT} (hx : x ∈ p.Ports) (hy : y ∈ q.Ports)
  (hc : i ≠ j ∧ x.Up = true ∧ y.Up = true ∧ x.Seg = y.Seg) : (bw l i).1 = (bw l j).1 ∧ (bw l i).2 ≤ IntKind.i64.wrap ((bw l j).2 + x.Cost) ∧ (bw l j).2 ≤ IntKind.i64.wrap ((bw l i).2 + y.Cost) := by
 have e1 : Ed l i j y.Cost := ⟨hc.1, p, q, x, y, hp, hq, hx, hy, hc.2.1, hc.2.2.1, hc.2.2.2, rfl⟩
 have e2 : Ed l j i x.Cost := ⟨Ne.symm hc.1, q, p, y, x, hq, hp, hy, hx, hc.2.2.1, hc.2.1, hc.2.2.2.symm, rfl⟩
 have r1 := bw_root hf h e1
 have a1 := bw_edge hf h e1
 have a2 := bw_edge hf h e2
 have b1 := bw_bnd hf h (e1.rng h).1.1
 have b2 := bw_bnd hf h (e1.rng h).1.2
 have c1 := (e1.rng h).2
 have c2 := (e2.rng h).2
 unfold wle wad at a1 a2
 dsimp only at a1 a2
 rw [wr_in (by omega) (by omega), wr_in (by omega) (by omega)]
 omega
theorem TreeNear_true (a0 : LanT) (a1 a2 : Int) : law16_TreeNear a0 a1 a2 = some true := by
 unfold law16_TreeNear
 rw [few16_eq, Option.bind_some]
 have hf := fewL_few a0
 generalize fewL a0 = l at hf
 have hn := hf.plans
 by_cases h0 : l.Plans.length = 0
 ·rw [decide_eq_true (show ((l.Plans.length : Nat) : Int) = 0 by omega), cond_true, Best_eq l hf, Option.bind_some, alive16, Option.bind_some]
  by_cases h : LR l
  ·rw [if_pos h, if_neg (by omega)]; rfl
  ·rw [if_neg h]; rfl
 ·have hne : ((l.Plans.length : Nat) : Int) ≠ 0 := by omega
  rw [decide_eq_false hne, cond_false, grd_true hne, grd_true hne, grd_true hne, grd_true hne]
  obtain ⟨i, hi, hi2⟩ := idx_ok (n := ((l.Plans.length : Nat) : Int)) (by omega) (by omega) a1
  obtain ⟨j, hj, hj2⟩ := idx_ok (n := ((l.Plans.length : Nat) : Int)) (by omega) (by omega) a2
  have hil : i < l.Plans.length := by omega
  have hjl : j < l.Plans.length := by omega
  obtain ⟨p, hp⟩ : ∃ p, l.Plans[i]? = some p := ⟨_, List.getElem?_eq_getElem hil⟩
  obtain ⟨q, hq⟩ : ∃ q, l.Plans[j]? = some q := ⟨_, List.getElem?_eq_getElem hjl⟩
  rw [hi, hj, Best_eq l hf, Option.bind_some, Best_eq l hf, Option.bind_some]
  by_cases h : LR l
  ·rw [if_pos h, if_pos h, if_pos (by omega), if_pos (by omega), Int.toNat_natCast, Int.toNat_natCast]
   have hloop : rangeL (law16_TreeNear_c0 a1 a2 l ((bw l i).1, (bw l i).2, 0) ((bw l j).1, (bw l j).2, 0)) p.Ports () = some (.nxt ()) := by
    have hpl := hf.ports p (List.mem_of_getElem? hp)
    have hql := hf.ports q (List.mem_of_getElem? hq)
    rw [rangeL_all (by omega) (fun _ => true) true (fun k x hx => by
     unfold law16_TreeNear_c0
     rw [hj, gix_nat, hq, Option.bind_some, rangeL_all (by omega) (fun _ => true) (Step.ret false) (fun k' y hy => by
      unfold law16_TreeNear_c1
      rw [hi, hj]
      dsimp only
      by_cases hc : i ≠ j ∧ x.Up = true ∧ y.Up = true ∧ x.Seg = y.Seg
      ·obtain ⟨r1, r2, r3⟩ := near_in hf h hp hq (List.mem_of_getElem? hx) (List.mem_of_getElem? hy) hc
       rw [decide_eq_true r1, decide_eq_false (show ¬ IntKind.i64.wrap ((bw l j).2 + x.Cost) < (bw l i).2 by omega), decide_eq_false (show ¬ IntKind.i64.wrap ((bw l i).2 + y.Cost) < (bw l j).2 by omega)]
       simp
      ·have : (bif (bif (bif (!decide ((i : Int) = (j : Int))) then x.Up else false) then y.Up else false) then decide (x.Seg = y.Seg) else false) = false := by
        by_cases c1 : (i : Int) = (j : Int)
        ·rw [decide_eq_true c1]; rfl
        ·rw [decide_eq_false c1]
         cases x1 : x.Up with
         | false => rfl
         | true => cases y1 : y.Up with
          | false => rfl
          | true => exact decide_eq_false fun e => hc ⟨by omega, x1, y1, e⟩
       rw [this]; rfl), all_tt]
     rfl), all_tt]
    rfl
   simp only [decide_true, Bool.not_true, Bool.cond_false, Bool.not_false, gd_true, alive16, Option.bind_some]
   rw [gix_nat, hp, Option.bind_some, hloop, aft_some_nxt]
   have hb := bw_bnd hf h hil
   rw [decide_eq_true hb.1, gd_true, Option.bind_some, cond_true]
   have hz := bw_zero hf h hil
   rw [IDn_of hp] at hz
   congr 1
   rw [decide_eq_decide.2 hz]
   exact beq_self_eq_true _
  ·rw [if_neg h, if_neg h]
   simp only [alive16, Option.bind_some]; rfl
end
section
set_option maxHeartbeats 1000000
def VR (v : VecT) : Prop := (0 ≤ v.Root ∧ v.Root ≤ 65535) ∧ (0 ≤ v.Bridge ∧ v.Bridge ≤ 65535) ∧ (0 ≤ v.Cost ∧ v.Cost ≤ 2147483647) ∧ 0 ≤ v.Port ∧ v.Port ≤ 7
def vlt (a b : VecT) : Prop := a.Root < b.Root ∨ (a.Root = b.Root ∧ (a.Cost < b.Cost ∨ (a.Cost = b.Cost ∧ (a.Bridge < b.Bridge ∨ (a.Bridge = b.Bridge ∧ a.Port < b.Port)))))
instance (a b : VecT) : Decidable (vlt a b) := by unfold vlt; infer_instance
theorem vlt.trans {a b c : VecT} (h : vlt a b) (k : vlt b c) : vlt a c := by unfold vlt at *; omega
theorem vlt.irr {a : VecT} : ¬ vlt a a := by unfold vlt; omega
theorem vlt.le_trans {a b c : VecT} (h : ¬ vlt b a) (k : vlt b c ∨ ¬ vlt c b) : ¬ vlt c a := by unfold vlt at *; omega
theorem vlt.tri {a b : VecT} (h : ¬ vlt a b) (k : ¬ (a.Bridge = b.Bridge ∧ a.Port = b.Port)) : vlt b a := by unfold vlt at *; omega
theorem vin_eq (a n : Int) : vec_in a n = some (decide (0 ≤ a ∧ a ≤ n)) := by
 unfold vec_in
 by_cases h : 0 ≤ a <;> simp [h]
theorem gd_bool (g : Bool) (b : Bool) : gd g (some b) = some (bif g then b else false) := by cases g <;> rfl
theorem vRight_true {v : VecT} (h : VR v) : vec_Right v = some true := by
 unfold vec_Right
 simp only [vin_eq, Option.bind_some, gd_bool, decide_eq_true h.1, decide_eq_true h.2.1, decide_eq_true h.2.2.1, decide_eq_true h.2.2.2, cond_true]
theorem Or4 (a b c d : Int) : cmp_Or_int [a, b, c, d] = some (if a ≠ 0 then a else if b ≠ 0 then b else if c ≠ 0 then c else if d ≠ 0 then d else 0) := by
 unfold cmp_Or_int rangeL
 simp only [List.length_cons, List.length_nil]
 rw [if_pos (by decide)]
 have st : ∀ (k : Nat) (x : Int) (t : List Int), forR cmp_Or_int_c0 (x :: t) k () = if x ≠ 0 then some (.ret x) else forR cmp_Or_int_c0 t (k + 1) () := fun k x t => by
  simp only [forR, cmp_Or_int_c0]
  by_cases h : x = 0
  ·simp [h]
  ·simp [h]
 rw [st, st, st, st]
 by_cases h1 : a = 0
 ·by_cases h2 : b = 0
  ·by_cases h3 : c = 0
   ·by_cases h4 : d = 0
    ·simp [h1, h2, h3, h4, forR]
    ·simp [h1, h2, h3, h4]
   ·simp [h1, h2, h3]
  ·simp [h1, h2]
 ·simp [h1]
theorem ahead_eq {a b : VecT} (ha : VR a) (hb : VR b) : vec_ahead_vec_oneT ⟨a⟩ ⟨b⟩ = some (decide (vlt a b)) := by
 obtain ⟨a1, a2, a3, a4⟩ := ha
 obtain ⟨b1, b2, b3, b4⟩ := hb
 have w : ∀ x y : Int, 0 ≤ x → x ≤ 2147483647 → 0 ≤ y → y ≤ 2147483647 → IntKind.i64.wrap (x - y) = x - y := fun x y h1 h2 h3 h4 => w64_in (by omega) (by omega)
 unfold vec_ahead_vec_oneT _vec_one_rank
 dsimp only
 rw [w _ _ a1.1 (by omega) b1.1 (by omega), w _ _ a3.1 (by omega) b3.1 (by omega), w _ _ a2.1 (by omega) b2.1 (by omega), w _ _ a4.1 (by omega) b4.1 (by omega), Or4]
 by_cases h : a.Root = b.Root ∧ a.Cost = b.Cost ∧ a.Bridge = b.Bridge ∧ a.Port = b.Port
 ·obtain ⟨h1, h2, h3, h4⟩ := h
  rw [decide_eq_true h1, decide_eq_true h2, decide_eq_true h3, decide_eq_true h4]
  simp only [Bool.and_true, cond_true, Option.bind_some]
  congr 1
  exact decide_eq_decide.2 (by unfold vlt; omega)
 ·have : (((decide (a.Root = b.Root)) && ((decide (a.Cost = b.Cost)) && ((decide (a.Bridge = b.Bridge)) && ((decide (a.Port = b.Port)) && true)))) && true) = false := by
   rw [Bool.eq_false_iff]
   intro e
   simp only [Bool.and_eq_true, decide_eq_true_eq, and_true] at e
   exact h e
  rw [this, cond_false, Option.bind_some, Option.bind_some]
  congr 1
  refine decide_eq_decide.2 ?_
  unfold vlt
  split
  ·omega
  ·split
   ·omega
   ·split
    ·omega
    ·split <;> omega
theorem vBest_eq {l : List VecT} (hl : l.length ≤ 1000) (hr : ∀ v ∈ l, VR v) (h0 : l ≠ []) : ∃ (i : Nat) (v : VecT), vec_Best l = some ((i : Int), 0) ∧ l[i]? = some v ∧ (∀ w ∈ l, ¬ vlt w v) ∧ ∀ j w, j < i → l[j]? = some w → vlt v w := by
 have hall : vec_allRight l = some true := by
  unfold vec_allRight slices_ContainsFunc_Vec slices_IndexFunc_Vec
  rcases rangeL_find (s0 := ()) (body := slices_IndexFunc_Vec_c0 fun x0_ => vec_allRight_1 x0_) (xs := l) (by omega) (fun _ _ => false) (fun k _ => (k : Int)) (fun k x hx => by
   unfold slices_IndexFunc_Vec_c0 vec_allRight_1
   dsimp only
   rw [vRight_true (hr x (List.mem_of_getElem? hx))]; rfl) with ⟨k, x, _, hp, _⟩ | ⟨_, h⟩
  ·cases hp
  ·rw [h]; rfl
 have hn : 0 < l.length := List.length_pos_iff.2 h0
 obtain ⟨s, h1, h2⟩ := rangeL_inv (s0 := (0 : Int)) (body := vec_Best_c0 l) (xs := l) (by omega)
  (fun k s => ∃ (i : Nat) (v : VecT), s = (i : Int) ∧ l[i]? = some v ∧ (∀ j w, j < k → l[j]? = some w → ¬ vlt w v) ∧ ∀ j w, j < i → l[j]? = some w → vlt v w)
  ⟨0, l[0], rfl, List.getElem?_eq_getElem hn, fun j w hj => absurd hj (Nat.not_lt_zero _), fun j w hj => absurd hj (Nat.not_lt_zero _)⟩ fun k x s hk ⟨i, v, e, hv, q1, q2⟩ => by
  subst e
  unfold vec_Best_c0
  rw [gix_nat, hv, Option.bind_some, ahead_eq (hr x (List.mem_of_getElem? hk)) (hr v (List.mem_of_getElem? hv)), Option.bind_some]
  by_cases hc : vlt x v
  ·rw [decide_eq_true hc]
   refine ⟨_, rfl, k, x, rfl, hk, fun j w hj hw => ?_, fun j w hj hw => ?_⟩
   ·by_cases hjk : j = k
    ·subst hjk; rw [hk] at hw; cases hw; exact vlt.irr
    ·have := q1 j w (by omega) hw
     intro e; exact this (e.trans hc)
   ·have := q1 j w hj hw
    unfold vlt at *; omega
  ·rw [decide_eq_false hc]
   refine ⟨_, rfl, i, v, rfl, hv, fun j w hj hw => ?_, q2⟩
   by_cases hjk : j = k
   ·subst hjk; rw [hk] at hw; cases hw; exact hc
   ·exact q1 j w (by omega) hw
 obtain ⟨i, v, e, hv, q1, q2⟩ := h2
 refine ⟨i, v, ?_, hv, fun w hw => ?_, q2⟩
 ·unfold vec_Best
  rw [hall, Option.bind_some, Bool.not_true, cond_false, decide_eq_false (show ¬ ((l.length : Nat) : Int) = 0 by omega), cond_false, h1, aft_some_nxt, e]
 ·obtain ⟨j, hj⟩ := List.mem_iff_getElem?.1 hw
  exact q1 j w (List.getElem?_eq_some_iff.1 hj).1 hj
theorem vBest_nil : vec_Best [] = some (0, 4) := rfl
def tol (l : LanT) (q : A2_Int) : VecT := ⟨(bw l q.c0.toNat).1, (bw l q.c0.toNat).2, IDn l q.c0.toNat, q.c1⟩
theorem told_eq {l : LanT} (hf : FewL l) (h : LR l) {b : Nat} (hb : b < l.Plans.length) (k : Int) : tree_told l (bst l) ⟨(b : Int), k⟩ = some (tol l ⟨(b : Int), k⟩) := by
 unfold tree_told tol IDn
 dsimp only
 rw [gix_nat, bst_get hf h hb, Option.bind_some, gix_nat, List.getElem?_eq_getElem hb, Option.bind_some, Int.toNat_natCast, List.getElem?_eq_getElem hb]; rfl
theorem IDn_bnd {l : LanT} (h : LR l) {b : Nat} (hb : b < l.Plans.length) : 0 ≤ IDn l b ∧ IDn l b ≤ 65535 := by
 unfold IDn; rw [List.getElem?_eq_getElem hb]; exact (h.planOk (List.getElem?_eq_getElem hb)).1
theorem IDn_inj {l : LanT} (h : LR l) {b c : Nat} (hb : b < l.Plans.length) (hc : c < l.Plans.length) (e : IDn l b = IDn l c) : b = c := by
 unfold IDn at e
 rw [List.getElem?_eq_getElem hb, List.getElem?_eq_getElem hc] at e
 have hb' : b < (l.Plans.map (·.ID)).length := by rw [List.length_map]; exact hb
 have hc' : c < (l.Plans.map (·.ID)).length := by rw [List.length_map]; exact hc
 exact (List.getElem_inj (h₀ := hb') (h₁ := hc') h.ids).1 (by rw [List.getElem_map, List.getElem_map]; exact e)
theorem PWroot {l : LanT} {j b : Nat} {w : Wt} (hw : PW (IDn l) (Ed l) j b w) (hb : b < l.Plans.length) (h : LR l) : ∃ r, r < l.Plans.length ∧ w.1 = IDn l r := by
 induction hw with
 | base j b => exact ⟨b, hb, rfl⟩
 | step hp e ih => exact ih (e.rng h).1.1
theorem bw_rootId {l : LanT} (hf : FewL l) (h : LR l) {b : Nat} (hb : b < l.Plans.length) : ∃ r, r < l.Plans.length ∧ (bw l b).1 = IDn l r := PWroot ((bst_eq hf h).2.2 b hb).1 hb h
theorem tol_VR {l : LanT} (hf : FewL l) (h : LR l) {b k : Nat} (hb : b < l.Plans.length) (hk : k ≤ 7) : VR (tol l ⟨(b : Int), (k : Int)⟩) := by
 obtain ⟨r, hr, e⟩ := bw_rootId hf h hb
 have h1 := IDn_bnd h hr
 have h2 := IDn_bnd h hb
 have h3 := bw_bnd hf h hb
 unfold VR tol; dsimp only; rw [Int.toNat_natCast]; omega
theorem on_ok {l : LanT} (h : LR l) {s : Int} {q : A2_Int} (hq : q ∈ portsOn l s) : ∃ (b k : Nat) (p : PlanT) (x : LinkT), q = ⟨(b : Int), (k : Int)⟩ ∧ b < l.Plans.length ∧ k ≤ 7 ∧ l.Plans[b]? = some p ∧ p.Ports[k]? = some x ∧ x.Up = true ∧ x.Seg = s := by
 obtain ⟨b, k, p, x, rfl, hp, hx, h1, h2⟩ := mem_portsOn.1 hq
 have := (h.planOk hp).2.1
 have hk := (List.getElem?_eq_some_iff.1 hx).1
 exact ⟨b, k, p, x, rfl, (List.getElem?_eq_some_iff.1 hp).1, by omega, hp, hx, h1, h2⟩
def ownS (l : LanT) (s : Int) : Option A2_Int := match tree_own l (bst l) s with
 | some (q, true) => some q
 | _ => none
theorem own_ex {l : LanT} (hf : FewL l) (h : LR l) {s : Int} (hs : 0 ≤ s ∧ s < l.Segs) :
  (portsOn l s = [] ∧ tree_own l (bst l) s = some (⟨0, 0⟩, false)) ∨ ∃ q, q ∈ portsOn l s ∧ tree_own l (bst l) s = some (q, true) ∧ ∀ p ∈ portsOn l s, ¬ vlt (tol l p) (tol l q) := by
 have hn := portsOn_len hf s
 unfold tree_own
 rw [On_eq l hf, if_pos h, if_pos hs, Option.bind_some]
 dsimp only
 rw [rangeL_map (f := tol l) (by omega) (fun k q t hq hk => by
  obtain ⟨b, j, p, x, rfl, hb, _⟩ := on_ok h (List.mem_of_getElem? hq)
  have hlt := (List.getElem?_eq_some_iff.1 hq).1
  unfold tree_own_c0
  rw [told_eq hf h hb, Option.bind_some, grd_true (fits_of (by simp; omega) (by decide))]), aft_some_nxt]
 by_cases h0 : portsOn l s = []
 ·rw [h0]; exact .inl ⟨rfl, rfl⟩
 ·obtain ⟨i, v, e1, e2, e3, _⟩ := vBest_eq (l := (portsOn l s).map (tol l)) (by rw [List.length_map]; omega) (fun v hv => by
   obtain ⟨q, hq, rfl⟩ := List.mem_map.1 hv
   obtain ⟨b, j, p, x, rfl, hb, hj, _⟩ := on_ok h hq
   exact tol_VR hf h hb hj) (by simpa using h0)
  rw [e1, Option.bind_some]
  rw [List.getElem?_map] at e2
  obtain ⟨q, hq, rfl⟩ := Option.map_eq_some_iff.1 e2
  refine .inr ⟨q, List.mem_of_getElem? hq, ?_, fun p hp => e3 _ (List.mem_map_of_mem hp)⟩
  dsimp only
  rw [decide_eq_true rfl, Bool.not_true, cond_false, gix_nat, hq]; rfl
theorem tol_inj {l : LanT} (h : LR l) {s s' : Int} {p q : A2_Int} (hp : p ∈ portsOn l s) (hq : q ∈ portsOn l s') (e : (tol l p).Bridge = (tol l q).Bridge ∧ (tol l p).Port = (tol l q).Port) : p = q := by
 obtain ⟨b, j, _, _, rfl, hb, _⟩ := on_ok h hp
 obtain ⟨c, k, _, _, rfl, hc, _⟩ := on_ok h hq
 have e1 : IDn l b = IDn l c := by have := e.1; unfold tol at this; dsimp only at this; rwa [Int.toNat_natCast, Int.toNat_natCast] at this
 have e2 : (j : Int) = (k : Int) := e.2
 rw [IDn_inj h hb hc e1, e2]
theorem own_eq {l : LanT} (hf : FewL l) (h : LR l) {s : Int} (hs : 0 ≤ s ∧ s < l.Segs) : tree_own l (bst l) s = some ((ownS l s).getD ⟨0, 0⟩, (ownS l s).isSome) := by
 unfold ownS
 rcases own_ex hf h hs with ⟨_, e⟩ | ⟨q, _, e, _⟩ <;> rw [e] <;> rfl
theorem own_none {l : LanT} (hf : FewL l) (h : LR l) {s : Int} (hs : 0 ≤ s ∧ s < l.Segs) : ownS l s = none ↔ portsOn l s = [] := by
 unfold ownS
 rcases own_ex hf h hs with ⟨e0, e⟩ | ⟨q, hq, e, _⟩ <;> rw [e]
 ·exact ⟨fun _ => e0, fun _ => rfl⟩
 ·exact ⟨(fun k => nomatch k), fun k => by rw [k] at hq; cases hq⟩
theorem own_some {l : LanT} (hf : FewL l) (h : LR l) {s : Int} (hs : 0 ≤ s ∧ s < l.Segs) {q : A2_Int} (hq : ownS l s = some q) : q ∈ portsOn l s ∧ ∀ p ∈ portsOn l s, p = q ∨ vlt (tol l q) (tol l p) := by
 unfold ownS at hq
 rcases own_ex hf h hs with ⟨e0, e⟩ | ⟨q', hq', e, e2⟩ <;> rw [e] at hq
 ·cases hq
 ·cases hq
  refine ⟨hq', fun p hp => ?_⟩
  by_cases he : p = q
  ·exact .inl he
  ·exact .inr (vlt.tri (e2 p hp) fun k => he (tol_inj h hp hq' k))
theorem own_up {l : LanT} (hf : FewL l) (h : LR l) {b k : Nat} {p : PlanT} {x : LinkT} (hp : l.Plans[b]? = some p) (hx : p.Ports[k]? = some x) (hu : x.Up = true) : ∃ q, ownS l x.Seg = some q := by
 have hs := ((h.planOk hp).2.2 x (List.mem_of_getElem? hx)).1
 cases hq : ownS l x.Seg with
 | some q => exact ⟨q, rfl⟩
 | none =>
  have := (own_none hf h hs).1 hq
  have hm : (⟨(b : Int), (k : Int)⟩ : A2_Int) ∈ portsOn l x.Seg := mem_portsOn.2 ⟨b, k, p, x, rfl, hp, hx, hu, rfl⟩
  rw [this] at hm; cases hm
def cnd (l : LanT) (b : Nat) (x : LinkT) : Option VecT := match ownS l x.Seg with
 | some q => if x.Up = true ∧ q.c0 ≠ (b : Int) ∧ (tol l q).Root = (bw l b).1 ∧ (tol l q).Cost + x.Cost = (bw l b).2 then some ⟨(tol l q).Root, (tol l q).Cost + x.Cost, (tol l q).Bridge, (tol l q).Port⟩ else none
 | none => none
def cnds (l : LanT) (b : Nat) (xs : List LinkT) : List (Int × VecT) := xs.zipIdx.filterMap fun x => (cnd l b x.1).map fun v => ((x.2 : Int), v)
def rt (l : LanT) (b : Nat) : Int := (tree_root l (bst l) (b : Int)).getD (-1)
theorem cnds_len {l : LanT} {b : Nat} {xs : List LinkT} : (cnds l b xs).length ≤ xs.length := by
 unfold cnds
 refine Nat.le_trans (List.length_filterMap_le _ _) ?_
 rw [List.length_zipIdx]; exact Nat.le_refl _
theorem mem_cnds {l : LanT} {b : Nat} {xs : List LinkT} {k : Int} {v : VecT} : (k, v) ∈ cnds l b xs ↔ ∃ (j : Nat) (x : LinkT), k = (j : Int) ∧ xs[j]? = some x ∧ cnd l b x = some v := by
 unfold cnds
 simp only [List.mem_filterMap, Prod.exists, List.mem_zipIdx_iff_getElem?, Option.map_eq_some_iff, Prod.mk.injEq]
 constructor
 ·rintro ⟨x, j, hx, w, hw, rfl, rfl⟩; exact ⟨j, x, rfl, hx, hw⟩
 ·rintro ⟨j, x, rfl, hx, hw⟩; exact ⟨x, j, hx, v, hw, rfl, rfl⟩
theorem cnd_VR {l : LanT} (hf : FewL l) (h : LR l) {b : Nat} (hb : b < l.Plans.length) {x : LinkT} (hs : 0 ≤ x.Seg ∧ x.Seg < l.Segs) {v : VecT} (hv : cnd l b x = some v) : VR v := by
 unfold cnd at hv
 split at hv
 ·rename_i q hq
  split at hv
  ·rename_i hc
   cases hv
   obtain ⟨c, k, _, _, rfl, hc', hk, _⟩ := on_ok h (own_some hf h hs hq).1
   have h1 := tol_VR hf h hc' hk
   have h2 := bw_bnd hf h hb
   unfold VR at *; dsimp only; omega
  ·cases hv
 ·cases hv
theorem root_ex {l : LanT} (hf : FewL l) (h : LR l) {b : Nat} {p : PlanT} (hp : l.Plans[b]? = some p) :
  ((bw l b).1 = IDn l b ∧ tree_root l (bst l) (b : Int) = some (-1)) ∨ ((bw l b).1 ≠ IDn l b ∧
   ((cnds l b p.Ports = [] ∧ tree_root l (bst l) (b : Int) = some (-1)) ∨ ∃ (i : Nat) (k : Int) (v : VecT), (cnds l b p.Ports)[i]? = some (k, v) ∧ tree_root l (bst l) (b : Int) = some k ∧
    (∀ e ∈ cnds l b p.Ports, ¬ vlt e.2 v) ∧ ∀ j e, j < i → (cnds l b p.Ports)[j]? = some e → vlt v e.2)) := by
 have hb := (List.getElem?_eq_some_iff.1 hp).1
 have hpl := hf.ports p (List.mem_of_getElem? hp)
 unfold tree_root
 rw [gix_nat, bst_get hf h hb, Option.bind_some, gix_nat, hp, Option.bind_some]
 dsimp only
 rw [IDn_of hp]
 by_cases h0 : (bw l b).1 = p.ID
 ·rw [decide_eq_true h0]; exact .inl ⟨h0, rfl⟩
 ·rw [decide_eq_false h0, cond_false]
  refine .inr ⟨h0, ?_⟩
  obtain ⟨s, h1, h2⟩ := rangeL_inv (s0 := (([] : List Int), ([] : List VecT))) (body := tree_root_c0 l (bst l) (b : Int)) (xs := p.Ports) (by omega)
   (fun k s => s = ((cnds l b (p.Ports.take k)).map (·.1), (cnds l b (p.Ports.take k)).map (·.2))) rfl fun k x s hk hs => by
   subst hs
   have hlt := (List.getElem?_eq_some_iff.1 hk).1
   have hx := List.mem_of_getElem? hk
   have hok := (h.planOk hp).2.2 x hx
   have hxc := hok.2
   have hstep : cnds l b (p.Ports.take (k + 1)) = cnds l b (p.Ports.take k) ++ ((cnd l b x).map fun v => ((k : Int), v)).toList := by
    unfold cnds
    rw [List.take_add_one, hk, Option.toList, List.zipIdx_append, List.filterMap_append, List.length_take, Nat.min_eq_left (by omega)]
    congr 1
    simp only [List.zipIdx_cons, List.zipIdx_nil, List.filterMap_cons, List.filterMap_nil, Nat.zero_add]
    cases cnd l b x <;> rfl
   have hcl : (cnds l b (p.Ports.take k)).length ≤ 10 := Nat.le_trans cnds_len (by rw [List.length_take]; omega)
   rw [hstep]
   unfold tree_root_c0
   rw [own_eq hf h hok.1, Option.bind_some]
   dsimp only
   unfold cnd
   cases hq : ownS l x.Seg with
   | none =>
    refine ⟨((cnds l b (p.Ports.take k)).map (·.1), (cnds l b (p.Ports.take k)).map (·.2)), by cases x.Up <;> rfl, ?_⟩
    simp
   | some q =>
    obtain ⟨c, j, _, _, rfl, hc', hj, _⟩ := on_ok h (own_some hf h hok.1 hq).1
    have hv := tol_VR hf h hc' hj
    have hcb := bw_bnd hf h hc'
    simp only [Option.getD_some, Option.isSome_some, Bool.not_true]
    by_cases hu : x.Up = true
    ·by_cases hcb' : (c : Int) = (b : Int)
     ·rw [hu, decide_eq_true hcb']
      refine ⟨_, rfl, ?_⟩
      simp [hcb']
     ·rw [hu, decide_eq_false hcb']
      simp only [Bool.not_true, Bool.cond_false]
      rw [told_eq hf h hc', Option.bind_some]
      have hfar : vec_Far (tol l ⟨(c : Int), (j : Int)⟩) x.Cost = some (⟨(tol l ⟨(c : Int), (j : Int)⟩).Root, (tol l ⟨(c : Int), (j : Int)⟩).Cost + x.Cost, (tol l ⟨(c : Int), (j : Int)⟩).Bridge, (tol l ⟨(c : Int), (j : Int)⟩).Port⟩, 0) := by
       unfold vec_Far
       rw [vRight_true hv, Option.bind_some, vin_eq]
       have hco : (tol l ⟨(c : Int), (j : Int)⟩).Cost = (bw l c).2 := by unfold tol; dsimp only; rw [Int.toNat_natCast]
       rw [decide_eq_true (show 0 ≤ x.Cost ∧ x.Cost ≤ 2147483647 by omega), hco, wr_in (by omega) (by omega)]
       have : mn ((bw l c).2 + x.Cost) 2147483647 = (bw l c).2 + x.Cost := by unfold mn; split <;> omega
       rw [this]; rfl
      rw [hfar, Option.bind_some, gix_nat, bst_get hf h hb, Option.bind_some]
      dsimp only
      by_cases hg : (tol l ⟨(c : Int), (j : Int)⟩).Root = (bw l b).1 ∧ (tol l ⟨(c : Int), (j : Int)⟩).Cost + x.Cost = (bw l b).2
      ·rw [decide_eq_true hg.1, decide_eq_true hg.2, if_pos ⟨trivial, hcb', hg⟩]
       simp only [Bool.and_true, cond_true]
       rw [grd_true (fits_of (by simp; omega) (by decide)), grd_true (fits_of (by simp; omega) (by decide))]
       refine ⟨_, rfl, ?_⟩
       simp
      ·rw [if_neg fun k => hg k.2.2]
       have : (decide ((tol l ⟨(c : Int), (j : Int)⟩).Root = (bw l b).1) && (decide ((tol l ⟨(c : Int), (j : Int)⟩).Cost + x.Cost = (bw l b).2) && true)) = false := by
        rw [Bool.eq_false_iff]; intro e; simp only [Bool.and_eq_true, decide_eq_true_eq, and_true] at e; exact hg e
       rw [this]
       refine ⟨_, rfl, ?_⟩
       simp
    ·have hu' : x.Up = false := Bool.eq_false_iff.2 hu
     rw [hu', if_neg fun k => by cases k.1]
     refine ⟨_, rfl, ?_⟩
     simp
  rw [h1, aft_some_nxt, h2, List.take_length]
  dsimp only
  by_cases hn : cnds l b p.Ports = []
  ·rw [hn]; exact .inl ⟨rfl, rfl⟩
  ·have hcl : (cnds l b p.Ports).length ≤ 10 := Nat.le_trans cnds_len hpl
   obtain ⟨i, v, e1, e2, e3, e4⟩ := vBest_eq (l := (cnds l b p.Ports).map (·.2)) (by rw [List.length_map]; omega) (fun v hv => by
    obtain ⟨⟨k, v⟩, hkv, rfl⟩ := List.mem_map.1 hv
    obtain ⟨j, x, rfl, hx, hc⟩ := mem_cnds.1 hkv
    exact cnd_VR hf h hb ((h.planOk hp).2.2 x (List.mem_of_getElem? hx)).1 hc) (by simpa using hn)
   rw [e1, Option.bind_some]
   rw [List.getElem?_map] at e2
   obtain ⟨⟨k, v'⟩, hkv, rfl⟩ := Option.map_eq_some_iff.1 e2
   have hi := (List.getElem?_eq_some_iff.1 hkv).1
   refine .inr ⟨i, k, v', hkv, ?_, fun e he => e3 _ (List.mem_map_of_mem he), fun j e hj he => e4 j _ hj (by rw [List.getElem?_map, he]; rfl)⟩
   dsimp only
   rw [decide_eq_true rfl, Bool.not_true, cond_false, grd_true ⟨by omega, by rw [List.length_map]; omega⟩, Int.toNat_natCast]
   have : gixN ((cnds l b p.Ports).map (·.1)) i = some k := by show ((cnds l b p.Ports).map (·.1))[i]? = _; rw [List.getElem?_map, hkv]; rfl
   rw [this]; rfl
theorem cnds_ne {l : LanT} (hf : FewL l) (h : LR l) {b : Nat} {p : PlanT} (hp : l.Plans[b]? = some p) (h0 : (bw l b).1 ≠ IDn l b) : cnds l b p.Ports ≠ [] := by
 have hb := (List.getElem?_eq_some_iff.1 hp).1
 rcases bw_src hf h hb with e | ⟨k, c, he, e⟩
 ·rw [e] at h0; exact absurd rfl h0
 ·obtain ⟨d, hd⟩ := he.back
  have hkl := (he.rng h).1.1
  obtain ⟨hne, q, p', y, x, hq, hp', hy, hx, y1, x1, hs, rfl⟩ := he
  rw [hp] at hp'; cases hp'
  obtain ⟨j, hj⟩ := List.mem_iff_getElem?.1 hx
  obtain ⟨i, hi⟩ := List.mem_iff_getElem?.1 hy
  have hok := (h.planOk hp).2.2 x hx
  have hxc := hok.2
  obtain ⟨o, ho⟩ := own_up hf h hp hj x1
  obtain ⟨o1, o2⟩ := own_some hf h hok.1 ho
  obtain ⟨c, m, pc, xc, rfl, hc, hm, hpc, hxc, xc1, xc2⟩ := on_ok h o1
  have hkon : (⟨(k : Int), (i : Int)⟩ : A2_Int) ∈ portsOn l x.Seg := mem_portsOn.2 ⟨k, i, q, y, rfl, hq, hi, y1, hs⟩
  have hle : wle (bw l c) (bw l k) := by
   rcases o2 _ hkon with e' | e'
   ·have : (k : Int) = (c : Int) := congrArg A2_Int.c0 e'
    have : k = c := by omega
    rw [this]; exact wle.refl _
   ·unfold vlt tol at e'; dsimp only at e'; rw [Int.toNat_natCast, Int.toNat_natCast] at e'
    unfold wle; omega
  have hbc : c ≠ b := fun q' => by
   subst q'
   rw [e] at hle; unfold wle wad at hle; dsimp only at hle
   omega
  have hEd : Ed l c b x.Cost := ⟨hbc, pc, p, xc, x, hpc, hp, List.mem_of_getElem? hxc, hx, xc1, x1, xc2, rfl⟩
  have h3 := bw_edge hf h hEd
  have h4 := hle.add x.Cost
  rw [← e] at h4
  have h5 := wle.anti h3 h4
  have hcnd : cnd l b x = some ⟨(tol l ⟨(c : Int), (m : Int)⟩).Root, (tol l ⟨(c : Int), (m : Int)⟩).Cost + x.Cost, (tol l ⟨(c : Int), (m : Int)⟩).Bridge, (tol l ⟨(c : Int), (m : Int)⟩).Port⟩ := by
   unfold cnd
   rw [ho]
   dsimp only
   rw [if_pos]
   refine ⟨x1, by omega, ?_, ?_⟩
   ·unfold tol; dsimp only; rw [Int.toNat_natCast, h5]; rfl
   ·unfold tol; dsimp only; rw [Int.toNat_natCast, h5]; rfl
  intro hnil
  have := (mem_cnds (l := l) (b := b) (xs := p.Ports)).2 ⟨j, x, rfl, hj, hcnd⟩
  rw [hnil] at this; cases this
theorem rt_eq {l : LanT} (hf : FewL l) (h : LR l) {b : Nat} {p : PlanT} (hp : l.Plans[b]? = some p) : tree_root l (bst l) (b : Int) = some (rt l b) ∧
  (((bw l b).1 = IDn l b ∧ rt l b = -1) ∨ ((bw l b).1 ≠ IDn l b ∧ ∃ (j : Nat) (x : LinkT) (q : A2_Int), rt l b = (j : Int) ∧ p.Ports[j]? = some x ∧ x.Up = true ∧ ownS l x.Seg = some q ∧ q.c0 ≠ (b : Int) ∧ (tol l q).Root = (bw l b).1 ∧ (tol l q).Cost + x.Cost = (bw l b).2)) := by
 unfold rt
 rcases root_ex hf h hp with ⟨e0, e⟩ | ⟨e0, ⟨e1, e⟩ | ⟨i, k, v, hk, e, _⟩⟩
 ·rw [e]; exact ⟨rfl, .inl ⟨e0, rfl⟩⟩
 ·exact absurd e1 (cnds_ne hf h hp e0)
 ·rw [e]
  refine ⟨rfl, .inr ⟨e0, ?_⟩⟩
  obtain ⟨j, x, rfl, hx, hc⟩ := mem_cnds.1 (List.mem_of_getElem? hk)
  unfold cnd at hc
  split at hc
  ·rename_i q hq
   split at hc
   ·rename_i hcc
    exact ⟨j, x, q, rfl, hx, hcc.1, hq, hcc.2⟩
   ·cases hc
  ·cases hc
def rol (l : LanT) (b k : Nat) (x : LinkT) : Int := if x.Up = false then 3 else if ownS l x.Seg = some ⟨(b : Int), (k : Int)⟩ then 1 else if (k : Int) = rt l b then 0 else 2
def rols (l : LanT) : List (List Int) := l.Plans.zipIdx.map fun p => p.1.Ports.zipIdx.map fun x => rol l p.2 x.2 x.1
theorem rangeL_mapIdx {α β ρ : Type} {body : Nat → α → List β → Option (Step ρ (List β))} {xs : List α} (hl : xs.length ≤ 1000000) (f : α → Nat → β) (hs : ∀ k x s, xs[k]? = some x → s.length = k → body k x s = some (.nxt (s ++ [f x k]))) :
  rangeL body xs [] = some (.nxt (xs.zipIdx.map fun x => f x.1 x.2)) := by
 obtain ⟨s, h1, h2⟩ := rangeL_inv (s0 := ([] : List β)) (body := body) hl (fun k s => s = (xs.take k).zipIdx.map fun x => f x.1 x.2) rfl fun k x s hx h => by
  have hlt := (List.getElem?_eq_some_iff.1 hx).1
  refine ⟨_, hs k x s hx (by rw [h]; simp; omega), ?_⟩
  rw [h, List.take_add_one, hx, Option.toList, List.zipIdx_append, List.map_append, List.length_take, Nat.min_eq_left (by omega)]
  simp
 rw [h1, h2, List.take_length]
theorem Roles_eq (l : LanT) (hf : FewL l) : tree_Roles l = some (if LR l then (rols l, 0) else ([], 1)) := by
 have hn := hf.plans
 unfold tree_Roles
 rw [LanRight_eq l hf, Option.bind_some]
 by_cases h : LR l
 ·rw [if_pos h, decide_eq_true h, Bool.not_true, cond_false, (bst_eq hf h).1, Option.bind_some]
  rw [rangeL_mapIdx (by omega) (fun p b => p.Ports.zipIdx.map fun x => rol l b x.2 x.1) (fun b p s hp hs => by
   have hb := (List.getElem?_eq_some_iff.1 hp).1
   have hpl := hf.ports p (List.mem_of_getElem? hp)
   unfold tree_Roles_c0
   rw [(rt_eq hf h hp).1, Option.bind_some, rangeL_mapIdx (by omega) (fun x k => rol l b k x) (fun k x t hx ht => by
    have hok := (h.planOk hp).2.2 x (List.mem_of_getElem? hx)
    have hkl := (List.getElem?_eq_some_iff.1 hx).1
    unfold tree_Roles_c1 rol
    rw [own_eq hf h hok.1, Option.bind_some]
    have F : ∀ v : Int, fits (t ++ [v]).length 8 := fun v => fits_of (by simp; omega) (by decide)
    cases hu : x.Up with
    | false => rw [if_pos rfl, Bool.not_false, cond_true, grd_true (F _)]
    | true =>
     obtain ⟨q, hq⟩ := own_up hf h hp hx hu
     rw [if_neg (by simp), Bool.not_true, cond_false, hq]
     simp only [Option.getD_some, Option.some.injEq]
     by_cases hc : q = ⟨(b : Int), (k : Int)⟩
     ·subst hc
      rw [if_pos rfl]
      simp only [decide_true, Bool.and_true, Bool.and_self, cond_true]
      rw [grd_true (F _)]
     ·have : (decide (q.c0 = (b : Int)) && (decide (q.c1 = (k : Int)) && true)) = false := by
       rw [Bool.eq_false_iff]; intro e; simp only [Bool.and_eq_true, decide_eq_true_eq, and_true] at e
       exact hc (by cases q; dsimp only at e; rw [e.1, e.2])
      rw [this, if_neg hc, cond_false]
      by_cases hr : (k : Int) = rt l b
      ·rw [decide_eq_true hr, if_pos hr, cond_true, grd_true (F _)]
      ·rw [decide_eq_false hr, if_neg hr, cond_false, grd_true (F _)]), aft_some_nxt, grd_true (fits_of (by simp; omega) (by decide))]), aft_some_nxt]
  rfl
 ·rw [if_neg h, decide_eq_false h]; rfl
theorem Own_eq (l : LanT) (hf : FewL l) (s : Int) : tree_Own l s = some (if LR l then (if 0 ≤ s ∧ s < l.Segs then ((ownS l s).getD ⟨0, 0⟩, (ownS l s).isSome, 0) else (⟨0, 0⟩, false, 3)) else (⟨0, 0⟩, false, 1)) := by
 unfold tree_Own
 rw [LanRight_eq l hf, Option.bind_some]
 by_cases h : LR l
 ·rw [if_pos h, decide_eq_true h, Bool.not_true, cond_false]
  by_cases hs : 0 ≤ s ∧ s < l.Segs
  ·rw [if_pos hs, decide_eq_false (show ¬ s < 0 by omega), cond_false, decide_eq_false (show ¬ l.Segs ≤ s by omega), cond_false, (bst_eq hf h).1, Option.bind_some, own_eq hf h hs]; rfl
  ·rw [if_neg hs]
   by_cases h0 : s < 0
   ·rw [decide_eq_true h0]; rfl
   ·rw [decide_eq_false h0, cond_false, decide_eq_true (show l.Segs ≤ s by omega)]; rfl
 ·rw [if_neg h, decide_eq_false h]; rfl
end
section
set_option maxHeartbeats 1000000
theorem tOpen_eq (l : LanT) (hf : FewL l) : tree_Open l = some (if LR l then ((rols l).map fun row => row.map opB, 0) else ([], 1)) := by
 unfold tree_Open
 rw [Roles_eq l hf, Option.bind_some]
 by_cases h : LR l
 ·rw [if_pos h, if_pos h]
  dsimp only
  rw [decide_eq_true rfl, Bool.not_true, cond_false, grd_true]
  have hn := hf.plans
  refine ⟨by unfold rols; simp; omega, fun row hrow => ?_⟩
  obtain ⟨⟨p, b⟩, hpb, rfl⟩ := List.mem_map.1 hrow
  have hp := List.mem_of_getElem? (List.mem_zipIdx_iff_getElem?.1 hpb)
  have := (h.plan p hp).2.1
  constructor
  ·intro e
   have e2 : (p.Ports.zipIdx.map fun x => rol l b x.2 x.1).length = 0 := congrArg List.length e
   rw [List.length_map, List.length_zipIdx] at e2
   omega
  ·have e2 : (p.Ports.zipIdx.map fun x => rol l b x.2 x.1).length ≤ 1000 := by
    rw [List.length_map, List.length_zipIdx]
    have := hf.ports p hp
    omega
   exact e2
 ·rw [if_neg h, if_neg h]; rfl
def tpl (l : LanT) (b : Nat) (p : PlanT) : PlanT := ⟨p.ID, p.Ports.zipIdx.map fun x => ⟨x.1.Seg, x.1.Cost, x.1.Up && opB (rol l b x.2 x.1)⟩⟩
def tl (l : LanT) : LanT := ⟨l.Segs, l.Plans.zipIdx.map fun p => tpl l p.2 p.1, l.Hosts⟩
theorem tl_get {l : LanT} {b : Nat} : (tl l).Plans[b]? = (l.Plans[b]?).map (tpl l b) := by
 unfold tl
 rw [List.getElem?_map, List.getElem?_zipIdx]
 cases l.Plans[b]? <;> simp
theorem tl_few {l : LanT} (hf : FewL l) : FewL (tl l) where
 plans := by unfold tl; simp; exact hf.plans
 ports q hq := by
  obtain ⟨b, hb⟩ := List.mem_iff_getElem?.1 hq
  rw [tl_get] at hb
  obtain ⟨p, hp, rfl⟩ := Option.map_eq_some_iff.1 hb
  unfold tpl; simp; exact hf.ports p (List.mem_of_getElem? hp)
 hosts := hf.hosts
theorem tl_ids {l : LanT} : (tl l).Plans.map (·.ID) = l.Plans.map (·.ID) := by
 refine List.ext_getElem? fun b => ?_
 rw [List.getElem?_map, List.getElem?_map, tl_get]
 cases l.Plans[b]? <;> rfl
theorem tl_LR {l : LanT} (h : LR l) : LR (tl l) where
 segs := h.segs
 plans := by unfold tl; simp; exact h.plans
 hosts := h.hosts
 ids := by rw [tl_ids]; exact h.ids
 macs := h.macs
 plan q hq := by
  obtain ⟨b, hb⟩ := List.mem_iff_getElem?.1 hq
  rw [tl_get] at hb
  obtain ⟨p, hp, rfl⟩ := Option.map_eq_some_iff.1 hb
  obtain ⟨h1, h2, h3⟩ := h.planOk hp
  refine ⟨h1, by unfold tpl; simpa using h2, fun x hx => ?_⟩
  obtain ⟨⟨y, k⟩, hy, rfl⟩ := List.mem_map.1 hx
  exact h3 y (List.mem_of_getElem? (List.mem_zipIdx_iff_getElem?.1 hy))
 host := h.host
theorem mem_tups {l : LanT} {b : Nat} {p : PlanT} {s : Int} : s ∈ ups (tpl l b p) ↔ ∃ (k : Nat) (x : LinkT), p.Ports[k]? = some x ∧ x.Up = true ∧ opB (rol l b k x) = true ∧ x.Seg = s := by
 rw [mem_ups]
 constructor
 ·rintro ⟨y, hy, h1, h2⟩
  obtain ⟨⟨x, k⟩, hx, rfl⟩ := List.mem_map.1 hy
  dsimp only at h1 h2
  rw [Bool.and_eq_true] at h1
  exact ⟨k, x, List.mem_zipIdx_iff_getElem?.1 hx, h1.1, h1.2, h2⟩
 ·rintro ⟨k, x, hx, h1, h2, h3⟩
  refine ⟨⟨x.Seg, x.Cost, x.Up && opB (rol l b k x)⟩, List.mem_map.2 ⟨(x, k), List.mem_zipIdx_iff_getElem?.2 hx, rfl⟩, by dsimp only; rw [h1, h2]; rfl, h3⟩
theorem opB_iff {l : LanT} {b k : Nat} {x : LinkT} (hu : x.Up = true) : opB (rol l b k x) = true ↔ ownS l x.Seg = some ⟨(b : Int), (k : Int)⟩ ∨ rt l b = (k : Int) := by
 unfold rol
 rw [if_neg (by rw [hu]; simp)]
 by_cases h1 : ownS l x.Seg = some ⟨(b : Int), (k : Int)⟩
 ·rw [if_pos h1]; exact ⟨fun _ => .inl h1, fun _ => rfl⟩
 ·rw [if_neg h1]
  by_cases h2 : (k : Int) = rt l b
  ·rw [if_pos h2]; exact ⟨fun _ => .inr h2.symm, fun _ => rfl⟩
  ·rw [if_neg h2]
   exact ⟨fun e => by exact absurd e (by decide), fun e => by
    rcases e with e | e
    ·exact absurd e h1
    ·exact absurd e.symm h2⟩
abbrev tR (l : LanT) (a b : Int) : Prop := Rc (ed (tl l)) a b
theorem tjn {l : LanT} {b : Nat} {p : PlanT} (hp : l.Plans[b]? = some p) {a c : Int} (ha : a ∈ ups (tpl l b p)) (hc : c ∈ ups (tpl l b p)) : tR l a c :=
 .one (jn_ed.2 ⟨tpl l b p, List.mem_of_getElem? (i := b) (by rw [tl_get, hp]; rfl), ha, hc⟩)
section
variable {l : LanT}
theorem own_tups (hf : FewL l) (h : LR l) {s : Int} (hs : 0 ≤ s ∧ s < l.Segs) {c j : Nat} (ho : ownS l s = some ⟨(c : Int), (j : Int)⟩) : ∃ p x, l.Plans[c]? = some p ∧ p.Ports[j]? = some x ∧ x.Up = true ∧ x.Seg = s ∧ s ∈ ups (tpl l c p) := by
 obtain ⟨c', j', p, x, e, _, _, hp, hx, hu, hsg⟩ := on_ok h (own_some hf h hs ho).1
 have e1 : (c : Int) = (c' : Int) := congrArg A2_Int.c0 e
 have e2 : (j : Int) = (j' : Int) := congrArg A2_Int.c1 e
 have e1 : c = c' := by omega
 have e2 : j = j' := by omega
 subst e1; subst e2
 exact ⟨p, x, hp, hx, hu, hsg, mem_tups.2 ⟨j, x, hx, hu, (opB_iff hu).2 (.inl (by rw [hsg]; exact ho)), hsg⟩⟩
def Top (l : LanT) (r : Int) (u : Int) : Prop := ∃ c j : Nat, c < l.Plans.length ∧ (bw l c).1 = IDn l c ∧ IDn l c = r ∧ (0 ≤ u ∧ u < l.Segs) ∧ ownS l u = some ⟨(c : Int), (j : Int)⟩
theorem Top.same (hf : FewL l) (h : LR l) {r u v : Int} (h1 : Top l r u) (h2 : Top l r v) : tR l u v := by
 obtain ⟨c, j, c1, c2, c3, c4, c5⟩ := h1
 obtain ⟨d, k, d1, d2, d3, d4, d5⟩ := h2
 have : c = d := IDn_inj h c1 d1 (by rw [c3, d3])
 subst this
 obtain ⟨p, _, hp, _, _, _, h3⟩ := own_tups hf h c4 c5
 obtain ⟨q, _, hq, _, _, _, h4⟩ := own_tups hf h d4 d5
 rw [hp] at hq; cases hq
 exact tjn hp h3 h4
theorem to_top (hf : FewL l) (h : LR l) : ∀ (n : Nat) {b : Nat} {p : PlanT} {s : Int}, l.Plans[b]? = some p → (bw l b).2 ≤ (n : Int) → s ∈ ups (tpl l b p) → ∃ u, Top l (bw l b).1 u ∧ tR l s u := by
 intro n
 induction n with
 | zero =>
  intro b p s hp hn hs
  have hb := (List.getElem?_eq_some_iff.1 hp).1
  have h0 := (bw_zero hf h hb).1 (by have := bw_bnd hf h hb; omega)
  obtain ⟨k, x, hx, hu, ho, hsg⟩ := mem_tups.1 hs
  have hok := ((h.planOk hp).2.2 x (List.mem_of_getElem? hx)).1
  rcases (opB_iff hu).1 ho with e | e
  ·exact ⟨s, ⟨b, k, hb, h0, h0.symm, by rw [← hsg]; exact hok, by rw [← hsg]; exact e⟩, .refl⟩
  ·rcases (rt_eq hf h hp).2 with ⟨_, e2⟩ | ⟨e2, _⟩
   ·omega
   ·exact absurd h0 e2
 | succ n ih =>
  intro b p s hp hn hs
  have hb := (List.getElem?_eq_some_iff.1 hp).1
  by_cases h0 : (bw l b).1 = IDn l b
  ·obtain ⟨k, x, hx, hu, ho, hsg⟩ := mem_tups.1 hs
   have hok := ((h.planOk hp).2.2 x (List.mem_of_getElem? hx)).1
   rcases (opB_iff hu).1 ho with e | e
   ·exact ⟨s, ⟨b, k, hb, h0, h0.symm, by rw [← hsg]; exact hok, by rw [← hsg]; exact e⟩, .refl⟩
   ·rcases (rt_eq hf h hp).2 with ⟨_, e2⟩ | ⟨e2, _⟩
    ·omega
    ·exact absurd h0 e2
  ·rcases (rt_eq hf h hp).2 with ⟨e2, _⟩ | ⟨_, j, x, q, e, hx, hu, hq, h1, h2, h3⟩
   ·exact absurd e2 h0
   ·have hok := (h.planOk hp).2.2 x (List.mem_of_getElem? hx)
    obtain ⟨c, m, _, _, rfl, hc, _⟩ := on_ok h (own_some hf h hok.1 hq).1
    obtain ⟨pc, y, hpc, _, _, _, hin⟩ := own_tups hf h hok.1 hq
    have hxin : x.Seg ∈ ups (tpl l b p) := mem_tups.2 ⟨j, x, hx, hu, (opB_iff hu).2 (.inr e), rfl⟩
    have hxc := hok.2
    unfold tol at h2 h3
    dsimp only at h2 h3
    rw [Int.toNat_natCast] at h2 h3
    obtain ⟨u, h4, h5⟩ := ih hpc (by omega) hin
    rw [h2] at h4
    exact ⟨u, h4, (tjn hp hs hxin).trans h5⟩
theorem up_top (hf : FewL l) (h : LR l) {b : Nat} {p : PlanT} {s : Int} (hp : l.Plans[b]? = some p) (hs : s ∈ ups p) : ∃ u, Top l (bw l b).1 u ∧ tR l s u := by
 obtain ⟨x, hx, hu, hsg⟩ := mem_ups.1 hs
 have hok := ((h.planOk hp).2.2 x hx).1
 obtain ⟨k, hk⟩ := List.mem_iff_getElem?.1 hx
 obtain ⟨q, hq⟩ := own_up hf h hp hk hu
 obtain ⟨c, m, pc, y, rfl, hc, _, hpc, hy, hyu, hys⟩ := on_ok h (own_some hf h hok hq).1
 obtain ⟨pc', _, hpc', _, _, _, hin⟩ := own_tups hf h hok hq
 have hr : (bw l c).1 = (bw l b).1 := by
  by_cases e : c = b
  ·rw [e]
  ·exact bw_root hf h (c := x.Cost) ⟨e, pc, p, y, x, hpc, hp, List.mem_of_getElem? hy, hx, hyu, hu, hys, rfl⟩
 have hb := (bw_bnd hf h hc)
 obtain ⟨u, h1, h2⟩ := to_top hf h 6000 hpc' (by omega) hin
 rw [hr] at h1
 rw [hsg] at h2
 exact ⟨u, h1, h2⟩
theorem span (hf : FewL l) (h : LR l) {a b : Int} : Rc (ed l) a b ↔ tR l a b := by
 refine Eqv.iff_of (fun x y hj => ?_) (fun x y hj => ?_)
 ·obtain ⟨p, hp, h1, h2⟩ := jn_ed.1 hj
  obtain ⟨c, hc⟩ := List.mem_iff_getElem?.1 hp
  obtain ⟨u, u1, u2⟩ := up_top hf h hc h1
  obtain ⟨v, v1, v2⟩ := up_top hf h hc h2
  exact u2.trans ((Top.same hf h u1 v1).trans (Rc.symm v2))
 ·obtain ⟨q, hq, h1, h2⟩ := jn_ed.1 hj
  obtain ⟨c, hc⟩ := List.mem_iff_getElem?.1 hq
  rw [tl_get] at hc
  obtain ⟨p, hp, rfl⟩ := Option.map_eq_some_iff.1 hc
  have sub : ∀ s, s ∈ ups (tpl l c p) → s ∈ ups p := fun s hs => by
   obtain ⟨k, x, hx, hu, _, hsg⟩ := mem_tups.1 hs
   exact mem_ups.2 ⟨x, List.mem_of_getElem? hx, hu, hsg⟩
  exact .one (jn_ed.2 ⟨p, List.mem_of_getElem? hp, sub x h1, sub y h2⟩)
end
end
section
set_option maxHeartbeats 1000000
theorem cnt_reps {R : Int → Int → Prop} (hs : ∀ x y, R x y → R y x) (ht : ∀ x y z, R x y → R y z → R x z) {n : Nat} {M : List Nat} {f : Nat → Nat} (hf : ∀ s : Nat, s < n → f s ∈ M ∧ R s (f s)) : cnt R n ≤ M.length := by
 have key : ∀ m, m ≤ n → ∃ K : List Nat, K.Nodup ∧ K.length = cnt R m ∧ ∀ u ∈ K, ∃ s, s < m ∧ u = f s := by
  intro m
  induction m with
  | zero => intro _; exact ⟨[], List.nodup_nil, rfl, fun u hu => by cases hu⟩
  | succ m ih =>
   intro hm
   obtain ⟨K, k1, k2, k3⟩ := ih (by omega)
   by_cases hl : Lst R m
   ·refine ⟨f m :: K, List.nodup_cons.2 ⟨fun hin => ?_, k1⟩, by simp only [cnt, if_pos hl, List.length_cons, k2], fun u hu => ?_⟩
    ·obtain ⟨s, s1, s2⟩ := k3 _ hin
     have h1 := (hf m (by omega)).2
     rw [s2] at h1
     exact hl s s1 (ht _ _ _ (hf s (by omega)).2 (hs _ _ h1))
    ·rcases List.mem_cons.1 hu with e | e
     ·exact ⟨m, by omega, e⟩
     ·obtain ⟨s, s1, s2⟩ := k3 u e; exact ⟨s, by omega, s2⟩
   ·refine ⟨K, k1, by simp only [cnt, if_neg hl, k2, Nat.add_zero], fun u hu => ?_⟩
    obtain ⟨s, s1, s2⟩ := k3 u hu; exact ⟨s, by omega, s2⟩
 obtain ⟨K, k1, k2, k3⟩ := key n (Nat.le_refl _)
 rw [← k2]
 exact nodup_len k1 fun u hu => by
  obtain ⟨s, s1, s2⟩ := k3 u hu
  rw [s2]; exact (hf s s1).1
def ow (l : LanT) (s : Nat) : Option Nat := (ownS l (s : Int)).map fun q => q.c0.toNat
def topS (l : LanT) (b : Nat) : Option Nat := (List.range l.Segs.toNat).find? fun s => decide (ow l s = some b)
def mkd (l : LanT) (s : Nat) : Bool := match ow l s with
 | some b => !(decide ((bw l b).1 = IDn l b) && decide (topS l b = some s))
 | none => false
theorem ow_own {l : LanT} (hf : FewL l) (h : LR l) {s b : Nat} (hs : s < l.Segs.toNat) (ho : ow l s = some b) : ∃ j : Nat, ownS l (s : Int) = some ⟨(b : Int), (j : Int)⟩ := by
 unfold ow at ho
 obtain ⟨q, hq, e⟩ := Option.map_eq_some_iff.1 ho
 have hs' : 0 ≤ (s : Int) ∧ (s : Int) < l.Segs := by omega
 obtain ⟨c, j, _, _, rfl, _⟩ := on_ok h (own_some hf h hs' hq).1
 dsimp only at e
 rw [Int.toNat_natCast] at e
 subst e
 exact ⟨j, hq⟩
theorem own_ow {l : LanT} {s b : Nat} {j : Int} (ho : ownS l (s : Int) = some ⟨(b : Int), j⟩) : ow l s = some b := by
 unfold ow; rw [ho]; simp
theorem reps {l : LanT} (hf : FewL l) (h : LR l) {s : Nat} (hs : s < l.Segs.toNat) : ∃ u, u ∈ (List.range l.Segs.toNat).filter (fun s => !mkd l s) ∧ tR l s u := by
 cases ho : ow l s with
 | none => exact ⟨s, List.mem_filter.2 ⟨List.mem_range.2 hs, by unfold mkd; rw [ho]; rfl⟩, .refl⟩
 | some b =>
  obtain ⟨j, hj⟩ := ow_own hf h hs ho
  have hs' : 0 ≤ (s : Int) ∧ (s : Int) < l.Segs := by omega
  obtain ⟨p, x, hp, hx, hu, hsg, hin⟩ := own_tups hf h hs' hj
  have hbb := bw_bnd hf h (List.getElem?_eq_some_iff.1 hp).1
  obtain ⟨u, hT, hR⟩ := to_top hf h 6000 hp (by omega) hin
  obtain ⟨c, m, c1, c2, c3, c4, c5⟩ := hT
  have hun : ((u.toNat : Nat) : Int) = u := Int.toNat_of_nonneg c4.1
  have hfind : ∃ u0, topS l c = some u0 := by
   unfold topS
   cases hq : (List.range l.Segs.toNat).find? fun s => decide (ow l s = some c) with
   | some u0 => exact ⟨u0, rfl⟩
   | none =>
    have := List.find?_eq_none.1 hq u.toNat (List.mem_range.2 (by omega))
    rw [own_ow (s := u.toNat) (b := c) (j := (m : Int)) (by rw [hun]; exact c5)] at this
    simp at this
  obtain ⟨u0, hu0⟩ := hfind
  have hu1 : ow l u0 = some c := by
   have := List.find?_some hu0
   simpa using this
  have hu2 : u0 < l.Segs.toNat := List.mem_range.1 (List.mem_of_find?_eq_some hu0)
  obtain ⟨j0, hj0⟩ := ow_own hf h hu2 hu1
  refine ⟨u0, List.mem_filter.2 ⟨List.mem_range.2 hu2, ?_⟩, hR.trans (Top.same hf h (r := (bw l b).1) ⟨c, m, c1, c2, c3, c4, c5⟩ ⟨c, j0, c1, c2, c3, by omega, hj0⟩)⟩
  unfold mkd
  rw [hu1]
  simp [c2, hu0]
theorem countP_or {α : Type} {p q r : α → Bool} (h : ∀ x, p x = true → q x = true ∨ r x = true) : ∀ l : List α, l.countP p ≤ l.countP q + l.countP r
 | [] => Nat.zero_le _
 | x :: l => by
  have ih := countP_or h l
  rw [List.countP_cons, List.countP_cons, List.countP_cons]
  have := h x
  cases hp : p x with
  | false => simp; omega
  | true =>
   rcases this hp with e | e
   ·simp [e]; omega
   ·simp [e]; omega
theorem zip_gt {α : Type} {r : Int} : ∀ (l : List α) (i : Nat), r < (i : Int) → (l.zipIdx i).countP (fun x => decide ((x.2 : Int) = r)) = 0
 | [], _, _ => rfl
 | a :: l, i, h => by
  rw [List.zipIdx_cons, List.countP_cons, zip_gt l (i + 1) (by omega)]
  have : decide (((a, i).2 : Int) = r) = false := decide_eq_false (by dsimp only; omega)
  rw [this]; rfl
theorem zip_one {α : Type} {r : Int} : ∀ (l : List α) (i : Nat), (l.zipIdx i).countP (fun x => decide ((x.2 : Int) = r)) ≤ 1
 | [], _ => Nat.zero_le _
 | a :: l, i => by
  rw [List.zipIdx_cons, List.countP_cons]
  by_cases h : (i : Int) = r
  ·rw [zip_gt l (i + 1) (by omega)]
   split <;> omega
  ·have : decide (((a, i).2 : Int) = r) = false := decide_eq_false h
   rw [this]
   have := zip_one (r := r) l (i + 1)
   simpa using this
theorem one_bridge {l : LanT} (hf : FewL l) (h : LR l) {b : Nat} {p : PlanT} (hp : l.Plans[b]? = some p) : (ups (tpl l b p)).length - 1 ≤ (List.range l.Segs.toNat).countP (fun s => mkd l s && decide (ow l s = some b)) := by
 have hb := (List.getElem?_eq_some_iff.1 hp).1
 have hlen : (ups (tpl l b p)).length = p.Ports.zipIdx.countP (fun x => x.1.Up && opB (rol l b x.2 x.1)) := by
  unfold ups tpl
  rw [List.length_map, ← List.countP_eq_length_filter, List.countP_map]; rfl
 let des : LinkT × Nat → Bool := fun x => x.1.Up && decide (ownS l x.1.Seg = some ⟨(b : Int), (x.2 : Int)⟩)
 have hor : p.Ports.zipIdx.countP (fun x => x.1.Up && opB (rol l b x.2 x.1)) ≤ p.Ports.zipIdx.countP des + p.Ports.zipIdx.countP (fun x => decide ((x.2 : Int) = rt l b)) := by
  refine countP_or (fun x hx => ?_) _
  rw [Bool.and_eq_true] at hx
  rcases (opB_iff hx.1).1 hx.2 with e | e
  ·exact .inl (by show (x.1.Up && decide _) = true; rw [hx.1, decide_eq_true e]; rfl)
  ·exact .inr (decide_eq_true e.symm)
 have hD : p.Ports.zipIdx.countP des ≤ ((List.range l.Segs.toNat).filter fun s => decide (ow l s = some b)).length := by
  rw [List.countP_eq_length_filter, ← List.length_map (fun x : LinkT × Nat => x.1.Seg.toNat)]
  refine nodup_len ?_ fun s hs => ?_
  ·refine List.pairwise_map.2 (List.Pairwise.imp_of_mem ?_ ((List.pairwise_map.1 (by rw [List.zipIdx_map_snd]; exact List.nodup_range' ) : p.Ports.zipIdx.Pairwise fun a c => a.2 ≠ c.2).filter des))
   intro x y hx hy hne he
   obtain ⟨hx1, hx2⟩ := List.mem_filter.1 hx
   obtain ⟨hy1, hy2⟩ := List.mem_filter.1 hy
   have hx3 : x.1.Up = true ∧ ownS l x.1.Seg = some ⟨(b : Int), (x.2 : Int)⟩ := by simpa [des] using hx2
   have hy3 : y.1.Up = true ∧ ownS l y.1.Seg = some ⟨(b : Int), (y.2 : Int)⟩ := by simpa [des] using hy2
   have ox := ((h.planOk hp).2.2 x.1 (List.mem_of_getElem? (List.mem_zipIdx_iff_getElem?.1 hx1))).1
   have oy := ((h.planOk hp).2.2 y.1 (List.mem_of_getElem? (List.mem_zipIdx_iff_getElem?.1 hy1))).1
   have es : x.1.Seg = y.1.Seg := by omega
   have := hx3.2
   rw [es, hy3.2] at this
   have := congrArg A2_Int.c1 (Option.some.inj this)
   exact hne (by dsimp only at this; omega)
  ·obtain ⟨x, hx, rfl⟩ := List.mem_map.1 hs
   obtain ⟨hx1, hx2⟩ := List.mem_filter.1 hx
   have hx3 : x.1.Up = true ∧ ownS l x.1.Seg = some ⟨(b : Int), (x.2 : Int)⟩ := by simpa [des] using hx2
   have ox := ((h.planOk hp).2.2 x.1 (List.mem_of_getElem? (List.mem_zipIdx_iff_getElem?.1 hx1))).1
   refine List.mem_filter.2 ⟨List.mem_range.2 (by omega), decide_eq_true (own_ow (j := (x.2 : Int)) ?_)⟩
   rw [Int.toNat_of_nonneg ox.1]; exact hx3.2
 rw [hlen]
 rcases (rt_eq hf h hp).2 with ⟨e0, e1⟩ | ⟨e0, _⟩
 ·have hz : p.Ports.zipIdx.countP (fun x => decide ((x.2 : Int) = rt l b)) = 0 := zip_gt _ _ (by rw [e1]; omega)
  have hF : ((List.range l.Segs.toNat).filter fun s => decide (ow l s = some b)).length ≤ ((topS l b).getD 0 :: (List.range l.Segs.toNat).filter fun s => mkd l s && decide (ow l s = some b)).length := by
   refine nodup_len (List.nodup_range.filter _) fun s hs => ?_
   obtain ⟨s1, s2⟩ := List.mem_filter.1 hs
   have s2 := of_decide_eq_true s2
   by_cases ht : topS l b = some s
   ·rw [ht]; exact List.mem_cons_self ..
   ·refine List.mem_cons_of_mem _ (List.mem_filter.2 ⟨s1, ?_⟩)
    unfold mkd
    rw [s2]
    simp [ht]
  rw [List.length_cons, ← List.countP_eq_length_filter (p := fun s => mkd l s && decide (ow l s = some b))] at hF
  omega
 ·have h1 := zip_one (r := rt l b) p.Ports 0
  have hE : ((List.range l.Segs.toNat).filter fun s => decide (ow l s = some b)).length = (List.range l.Segs.toNat).countP (fun s => mkd l s && decide (ow l s = some b)) := by
   rw [← List.countP_eq_length_filter]
   refine List.countP_congr fun s _ => ?_
   constructor
   ·intro e
    have e := of_decide_eq_true e
    unfold mkd
    rw [e]; simp [e0]
   ·intro e; rw [Bool.and_eq_true] at e; exact e.2
  omega
theorem countP_split {α : Type} {p q r : α → Bool} (h : ∀ x, (p x = true → r x = true ∧ q x = false) ∧ (q x = true → r x = true)) : ∀ l : List α, l.countP p + l.countP q ≤ l.countP r
 | [] => Nat.le_refl _
 | x :: l => by
  have ih := countP_split h l
  rw [List.countP_cons, List.countP_cons, List.countP_cons]
  have := h x
  cases hp : p x <;> cases hq : q x <;> simp_all <;> omega
theorem slack_mk {l : LanT} (hf : FewL l) (h : LR l) : slack (tl l) ≤ (List.range l.Segs.toNat).countP (mkd l) := by
 have key : ∀ i, i ≤ l.Plans.length → (((ed (tl l)).take i).map fun p => p.length - 1).sum ≤ (List.range l.Segs.toNat).countP (fun s => mkd l s && decide (∃ b, b < i ∧ ow l s = some b)) := by
  intro i
  induction i with
  | zero => intro _; simp
  | succ i ih =>
   intro hi
   obtain ⟨p, hp⟩ : ∃ p, l.Plans[i]? = some p := ⟨_, List.getElem?_eq_getElem (by omega)⟩
   have he : (ed (tl l))[i]? = some (ups (tpl l i p)) := by unfold ed; rw [List.getElem?_map, tl_get, hp]; rfl
   rw [List.take_add_one, he, Option.toList, List.map_append, List.sum_append]
   have h1 := ih (by omega)
   have h2 := one_bridge hf h hp
   have h3 := countP_split (p := fun s => mkd l s && decide (∃ b, b < i ∧ ow l s = some b)) (q := fun s => mkd l s && decide (ow l s = some i)) (r := fun s => mkd l s && decide (∃ b, b < i + 1 ∧ ow l s = some b)) (fun s => by
    constructor
    ·intro e
     rw [Bool.and_eq_true] at e
     obtain ⟨b, b1, b2⟩ := of_decide_eq_true e.2
     refine ⟨by rw [e.1, decide_eq_true ⟨b, by omega, b2⟩]; rfl, ?_⟩
     rw [b2, decide_eq_false (fun q => by have := Option.some.inj q; omega), Bool.and_false]
    ·intro e
     rw [Bool.and_eq_true] at e
     rw [e.1, decide_eq_true ⟨i, by omega, of_decide_eq_true e.2⟩]; rfl) (List.range l.Segs.toNat)
   simp only [List.map_cons, List.map_nil, List.sum_cons, List.sum_nil, Nat.add_zero]
   omega
 have h1 := key l.Plans.length (Nat.le_refl _)
 have hl : (ed (tl l)).length = l.Plans.length := by unfold ed tl; simp
 rw [List.take_of_length_le (by omega)] at h1
 refine Nat.le_trans h1 (List.countP_mono_left fun s _ e => ?_)
 rw [Bool.and_eq_true] at e; exact e.1
theorem no_loops {l : LanT} (hf : FewL l) (h : LR l) : partsN (tl l) + slack (tl l) = l.Segs.toNat := by
 have h1 : partsN (tl l) ≤ ((List.range l.Segs.toNat).filter (fun s => !mkd l s)).length := by
  unfold partsN
  show cnt (tR l) l.Segs.toNat ≤ _
  refine cnt_reps (R := tR l) (f := fun s => if hs : s < l.Segs.toNat then Classical.choose (reps hf h hs) else 0) (fun x y q => Rc.symm q) (fun x y z q r => Eqv.trans q r) fun s hs => ?_
  simp only [hs, dite_true]
  exact Classical.choose_spec (reps hf h hs)
 have h2 := slack_mk hf h
 have h3 := Rc.cnt_ge (ed (tl l)) (LR.bnd (tl_LR h))
 have h4 : (List.range l.Segs.toNat).countP (mkd l) + ((List.range l.Segs.toNat).filter (fun s => !mkd l s)).length = l.Segs.toNat := by
  have := List.length_eq_countP_add_countP (mkd l) (l := List.range l.Segs.toNat)
  rw [List.length_range] at this
  rw [← List.countP_eq_length_filter]
  have e : (List.range l.Segs.toNat).countP (fun s => !mkd l s) = (List.range l.Segs.toNat).countP (fun a => decide ¬ mkd l a = true) := by
   congr 1; funext b; cases mkd l b <;> rfl
  omega
 have h5 : l.Segs.toNat ≤ partsN (tl l) + slack (tl l) := h3
 omega
end
section
set_option maxHeartbeats 1000000
def opn2 (l : LanT) : List (List Bool) := (rols l).map fun row => row.map opB
theorem opn2_get {l : LanT} {b : Nat} {p : PlanT} (hp : l.Plans[b]? = some p) : (opn2 l)[b]? = some (p.Ports.zipIdx.map fun x => opB (rol l b x.2 x.1)) := by
 unfold opn2 rols
 rw [List.getElem?_map, List.getElem?_map, List.getElem?_zipIdx, hp]
 simp
theorem opn2_get2 {l : LanT} {b k : Nat} {p : PlanT} {x : LinkT} (hx : p.Ports[k]? = some x) : (p.Ports.zipIdx.map fun x => opB (rol l b x.2 x.1))[k]? = some (opB (rol l b k x)) := by
 rw [List.getElem?_map, List.getElem?_zipIdx, hx]; simp
theorem shaped2_eq {l : LanT} (hf : FewL l) : law16_shaped l (opn2 l) = some true := by
 have hn := hf.plans
 unfold law16_shaped
 have hl : (opn2 l).length = l.Plans.length := by unfold opn2 rols; simp
 rw [hl, decide_eq_true rfl, Bool.not_true, cond_false, rangeL_all (by omega) (fun _ => true) false (fun k p hp => by
  have hk := (List.getElem?_eq_some_iff.1 hp).1
  unfold law16_shaped_c0
  rw [gix_nat, opn2_get hp, Option.bind_some, List.length_map, List.length_zipIdx, decide_eq_true rfl]; rfl), all_tt]
 rfl
theorem closed_eq {l : LanT} (hf : FewL l) : law16_closed l (opn2 l) = some (tl l) := by
 have hn := hf.plans
 unfold law16_closed
 rw [rangeL_mapIdx (by omega) (fun p b => tpl l b p) (fun b p s hp hs => by
  have hb := (List.getElem?_eq_some_iff.1 hp).1
  have hpl := hf.ports p (List.mem_of_getElem? hp)
  unfold law16_closed_c0
  rw [rangeL_mapIdx (by omega) (fun x k => (⟨x.Seg, x.Cost, x.Up && opB (rol l b k x)⟩ : LinkT)) (fun k x t hx ht => by
   have hkl := (List.getElem?_eq_some_iff.1 hx).1
   unfold law16_closed_c1
   rw [gix_nat, opn2_get hp]
   cases hu : x.Up with
   | false =>
    rw [gd_false, Option.bind_some, gd_false, Option.bind_some, grd_true (fits_of (by simp; omega) (by decide))]; rfl
   | true =>
    rw [gd_true, Option.bind_some, gix_nat, opn2_get2 hx, gd_true, Option.bind_some, grd_true (fits_of (by simp; omega) (by decide))]; rfl), aft_some_nxt, grd_true (fits_of (by simp; omega) (by decide))]
  rfl), aft_some_nxt]
 rfl
theorem same_self (x : List Int) (h : x.length ≤ 1000) : ref06_Same x x = some true := by
 unfold ref06_Same
 rw [decide_eq_true rfl, Bool.not_true, cond_false, rangeL_all (by omega) (fun _ => true) false (fun k y hy => by
  unfold ref06_Same_c0
  rw [gix_nat, hy, Option.bind_some, decide_eq_true rfl]; rfl), all_tt]
 rfl
theorem partI_len' (E : List (List Int)) (N s : Int) : (partI E N s).length ≤ N.toNat := by
 unfold partI
 refine Nat.le_trans (List.length_filter_le _ _) ?_
 unfold upI; simp
theorem TreeSpans_true (a0 : LanT) : law16_TreeSpans a0 = some true := by
 unfold law16_TreeSpans
 rw [few16_eq, Option.bind_some]
 have hf := fewL_few a0
 generalize fewL a0 = l at hf
 have hn := hf.plans
 rw [tOpen_eq l hf, Option.bind_some]
 by_cases h : LR l
 ·rw [if_pos h]
  have hsg := h.segs
  simp only [decide_true, Bool.not_true, Bool.cond_false]
  show ((law16_shaped l (opn2 l)).bind _) = _
  rw [shaped2_eq hf, Option.bind_some]
  simp only [Bool.not_true, Bool.not_false, gd_true, alive16, Option.bind_some, Bool.cond_false]
  show ((law16_closed l (opn2 l)).bind _) = _
  rw [closed_eq hf, Option.bind_some, Loops_eq (tl l) (tl_few hf), if_pos (tl_LR h), Option.bind_some]
  have h0 : ((partsN (tl l) : Nat) : Int) - (tl l).Segs + ((slack (tl l) : Nat) : Int) = 0 := by
   have := no_loops hf h
   have e : (tl l).Segs = l.Segs := rfl
   rw [e]; omega
  rw [h0]
  simp only [decide_true, Bool.not_true, Bool.cond_false]
  obtain ⟨o, h1, h2⟩ := rangeN_rec (n := l.Segs) (s0 := ()) (body := law16_TreeSpans_c0 l (tl l)) (by omega) (fun _ _ => True) (fun _ => False) (fun _ => False) trivial fun s _ hs _ => by
   have hs' : 0 ≤ (s : Int) ∧ (s : Int) < l.Segs := ⟨by omega, hs⟩
   have e1 : partI (ed l) l.Segs (s : Int) = partI (ed (tl l)) l.Segs (s : Int) := partI_eq (partI_asc _ _ _) fun t => by
    rw [partI_mem]
    exact and_congr Iff.rfl (span hf h)
   have hl := partI_len' (ed (tl l)) l.Segs (s : Int)
   unfold law16_TreeSpans_c0
   rw [Part_eq l hf, if_pos h, if_pos hs', Option.bind_some, Part_eq (tl l) (tl_few hf), if_pos (tl_LR h), show (tl l).Segs = l.Segs from rfl, if_pos hs', Option.bind_some]
   dsimp only
   rw [e1]
   simp only [decide_true, Bool.not_true, Bool.cond_false, Bool.not_false, gd_true]
   rw [same_self _ (by omega)]
   exact ⟨_, rfl, trivial⟩
  have ho : o = .nxt () := by cases o with
   | nxt s => rfl
   | ret r => exact h2.elim
   | brk s => exact h2.elim
  rw [h1, ho, aft_some_nxt]
  rw [rangeL_all (by omega) (fun _ => true) false (fun b p hp => by
   have hpl := hf.ports p (List.mem_of_getElem? hp)
   unfold law16_TreeSpans_c1
   rw [rangeL_all (by omega) (fun _ => true) (Step.ret false) (fun k x hx => by
    unfold law16_TreeSpans_c2
    dsimp only
    have hg : gix ((rols l).map fun row => row.map opB) ((b : Nat) : Int) = some (p.Ports.zipIdx.map fun x => opB (rol l b x.2 x.1)) := by rw [gix_nat]; exact opn2_get hp
    rw [hg, Option.bind_some, gix_nat, opn2_get2 hx, Option.bind_some]
    have : (bif opB (rol l b k x) then (!x.Up) else false) = false := by
     cases hu : x.Up with
     | true => cases opB (rol l b k x) <;> rfl
     | false =>
      have : rol l b k x = 3 := by unfold rol; rw [if_pos hu]
      rw [this]; rfl
    rw [this]; rfl), all_tt]
   rfl), all_tt]
  rfl
 ·rw [if_neg h]
  simp [alive16]
end
end Go.RX
