/- TreeNear, plainly. -/
import Derived.Test.YtljecfgfbebjiaaKd
import Derived.Test.YtljecfgfbebjiaaOX
import Derived.Test.YtljecfgfbebjiaaAl
import Derived.Test.YtljecfgfbebjiaaKe
import Derived.Test.YtljecfgfbebjiaaKg
import Derived.Test.YtljecfgfbebjiaaRr
set_option linter.unusedVariables false
set_option linter.unusedSimpArgs false
open Go Go.RX
namespace Go.RX
section
set_option maxHeartbeats 1000000
theorem few16_eq (l : LanT) : law16_few l = some (fewL l) := by
 unfold law16_few
 rw [grd_true (mn_ok _ _ (by decide)), show (8 : Int) = ((8 : Nat) : Int) from rfl, take_mn,
  rangeL_map (f := fun p : PlanT => (⟨p.ID, p.Ports.take 10⟩ : PlanT)) (by rw [List.length_take]; omega) (fun k x s hx hk => by
   have hk8 : k < 8 := by have := (List.getElem?_eq_some_iff.1 hx).1; rw [List.length_take] at this; omega
   unfold law16_few_c0
   rw [grd_true (mn_ok _ _ (by decide)), grd_true (fits_of (by simp; omega) (by decide)), show (10 : Int) = ((10 : Nat) : Int) from rfl, take_mn]),
  aft_some_nxt, grd_true (mn_ok _ _ (by decide)), show (12 : Int) = ((12 : Nat) : Int) from rfl, take_mn]
 rfl
theorem all_tt {α : Type} (l : List α) : l.all (fun _ => true) = true := by induction l <;> simp_all
theorem near_in {l : LanT} (hf : FewL l) (h : LR l) {i j : Nat} {p q : PlanT} (hp : l.Plans[i]? = some p) (hq : l.Plans[j]? = some q) {x y : LinkT} (hx : x ∈ p.Ports) (hy : y ∈ q.Ports)
  (hc : i ≠ j ∧ x.Up = true ∧ y.Up = true ∧ x.Seg = y.Seg) : (bw l i).1 = (bw l j).1 ∧ (bw l i).2 ≤ IntKind.i64.wrap ((bw l j).2 + x.Cost) ∧ (bw l j).2 ≤ IntKind.i64.wrap ((bw l i).2 + y.Cost) := by
 have e1 : Ed l i j y.Cost := ⟨hc.1, p, q, x, y, hp, hq, hx, hy, hc.2.1, hc.2.2.1, hc.2.2.2, rfl⟩
 have e2 : Ed l j i x.Cost := ⟨Ne.symm hc.1, q, p, y, x, hq, hp, hy, hx, hc.2.2.1, hc.2.1, hc.2.2.2.symm, rfl⟩
 have r1 := bw_root hf h e1
 have a1 := bw_edge hf h e1
 have a2 := bw_edge hf h e2
 have b1 := bw_bnd hf h (e1.rng h).1.1
 have b2 := bw_bnd hf h (e1.rng h).1.2
 have c1 := (e1.rng h).2
 have c2 := (e2.rng h).2
 unfold wle wad at a1 a2
 dsimp only at a1 a2
 rw [wr_in (by omega) (by omega), wr_in (by omega) (by omega)]
 omega
theorem TreeNear_true (a0 : LanT) (a1 a2 : Int) : law16_TreeNear a0 a1 a2 = some true := by
 unfold law16_TreeNear
 rw [few16_eq, Option.bind_some]
 have hf := fewL_few a0
 generalize fewL a0 = l at hf
 have hn := hf.plans
 by_cases h0 : l.Plans.length = 0
 ·rw [decide_eq_true (show ((l.Plans.length : Nat) : Int) = 0 by omega), cond_true, Best_eq l hf, Option.bind_some, alive16, Option.bind_some]
  by_cases h : LR l
  ·rw [if_pos h, if_neg (by omega)]; rfl
  ·rw [if_neg h]; rfl
 ·have hne : ((l.Plans.length : Nat) : Int) ≠ 0 := by omega
  rw [decide_eq_false hne, cond_false, grd_true hne, grd_true hne, grd_true hne, grd_true hne]
  obtain ⟨i, hi, hi2⟩ := idx_ok (n := ((l.Plans.length : Nat) : Int)) (by omega) (by omega) a1
  obtain ⟨j, hj, hj2⟩ := idx_ok (n := ((l.Plans.length : Nat) : Int)) (by omega) (by omega) a2
  have hil : i < l.Plans.length := by omega
  have hjl : j < l.Plans.length := by omega
  obtain ⟨p, hp⟩ : ∃ p, l.Plans[i]? = some p := ⟨_, List.getElem?_eq_getElem hil⟩
  obtain ⟨q, hq⟩ : ∃ q, l.Plans[j]? = some q := ⟨_, List.getElem?_eq_getElem hjl⟩
  rw [hi, hj, Best_eq l hf, Option.bind_some, Best_eq l hf, Option.bind_some]
  by_cases h : LR l
  ·rw [if_pos h, if_pos h, if_pos (by omega), if_pos (by omega), Int.toNat_natCast, Int.toNat_natCast]
   have hloop : rangeL (law16_TreeNear_c0 a1 a2 l ((bw l i).1, (bw l i).2, 0) ((bw l j).1, (bw l j).2, 0)) p.Ports () = some (.nxt ()) := by
    have hpl := hf.ports p (List.mem_of_getElem? hp)
    have hql := hf.ports q (List.mem_of_getElem? hq)
    rw [rangeL_all (by omega) (fun _ => true) true (fun k x hx => by
     unfold law16_TreeNear_c0
     rw [hj, gix_nat, hq, Option.bind_some, rangeL_all (by omega) (fun _ => true) (Step.ret false) (fun k' y hy => by
      unfold law16_TreeNear_c1
      rw [hi, hj]
      dsimp only
      by_cases hc : i ≠ j ∧ x.Up = true ∧ y.Up = true ∧ x.Seg = y.Seg
      ·obtain ⟨r1, r2, r3⟩ := near_in hf h hp hq (List.mem_of_getElem? hx) (List.mem_of_getElem? hy) hc
       rw [decide_eq_true r1, decide_eq_false (show ¬ IntKind.i64.wrap ((bw l j).2 + x.Cost) < (bw l i).2 by omega), decide_eq_false (show ¬ IntKind.i64.wrap ((bw l i).2 + y.Cost) < (bw l j).2 by omega)]
       simp
      ·have : (bif (bif (bif (!decide ((i : Int) = (j : Int))) then x.Up else false) then y.Up else false) then decide (x.Seg = y.Seg) else false) = false := by
        by_cases c1 : (i : Int) = (j : Int)
        ·rw [decide_eq_true c1]; rfl
        ·rw [decide_eq_false c1]
         cases x1 : x.Up with
         | false => rfl
         | true => cases y1 : y.Up with
          | false => rfl
          | true => exact decide_eq_false fun e => hc ⟨by omega, x1, y1, e⟩
       rw [this]; rfl), all_tt]
     rfl), all_tt]
    rfl
   simp only [decide_true, Bool.not_true, Bool.cond_false, Bool.not_false, gd_true, alive16, Option.bind_some]
   rw [gix_nat, hp, Option.bind_some, hloop, aft_some_nxt]
   have hb := bw_bnd hf h hil
   rw [decide_eq_true hb.1, gd_true, Option.bind_some, cond_true]
   have hz := bw_zero hf h hil
   rw [IDn_of hp] at hz
   congr 1
   rw [decide_eq_decide.2 hz]
   exact beq_self_eq_true _
  ·rw [if_neg h, if_neg h]
   simp only [alive16, Option.bind_some]; rfl
end
section
set_option maxHeartbeats 1000000
def VR (v : VecT) : Prop := (0 ≤ v.Root ∧ v.Root ≤ 65535) ∧ (0 ≤ v.Bridge ∧ v.Bridge ≤ 65535) ∧ (0 ≤ v.Cost ∧ v.Cost ≤ 2147483647) ∧ 0 ≤ v.Port ∧ v.Port ≤ 7
def vlt (a b : VecT) : Prop := a.Root < b.Root ∨ (a.Root = b.Root ∧ (a.Cost < b.Cost ∨ (a.Cost = b.Cost ∧ (a.Bridge < b.Bridge ∨ (a.Bridge = b.Bridge ∧ a.Port < b.Port)))))
instance (a b : VecT) : Decidable (vlt a b) := by unfold vlt; infer_instance
theorem vlt.trans {a b c : VecT} (h : vlt a b) (k : vlt b c) : vlt a c := by unfold vlt at *; omega
theorem vlt.irr {a : VecT} : ¬ vlt a a := by unfold vlt; omega
theorem vlt.le_trans {a b c : VecT} (h : ¬ vlt b a) (k : vlt b c ∨ ¬ vlt c b) : ¬ vlt c a := by unfold vlt at *; omega
theorem vlt.tri {a b : VecT} (h : ¬ vlt a b) (k : ¬ (a.Bridge = b.Bridge ∧ a.Port = b.Port)) : vlt b a := by unfold vlt at *; omega
theorem vin_eq (a n : Int) : vec_in a n = some (decide (0 ≤ a ∧ a ≤ n)) := by
 unfold vec_in
 by_cases h : 0 ≤ a <;> simp [h]
theorem gd_bool (g : Bool) (b : Bool) : gd g (some b) = some (bif g then b else false) := by cases g <;> rfl
theorem vRight_true {v : VecT} (h : VR v) : vec_Right v = some true := by
 unfold vec_Right
 simp only [vin_eq, Option.bind_some, gd_bool, decide_eq_true h.1, decide_eq_true h.2.1, decide_eq_true h.2.2.1, decide_eq_true h.2.2.2, cond_true]
theorem Or4 (a b c d : Int) : cmp_Or_int [a, b, c, d] = some (if a ≠ 0 then a else if b ≠ 0 then b else if c ≠ 0 then c else if d ≠ 0 then d else 0) := by
 unfold cmp_Or_int rangeL
 simp only [List.length_cons, List.length_nil]
 rw [if_pos (by decide)]
 have st : ∀ (k : Nat) (x : Int) (t : List Int), forR cmp_Or_int_c0 (x :: t) k () = if x ≠ 0 then some (.ret x) else forR cmp_Or_int_c0 t (k + 1) () := fun k x t => by
  simp only [forR, cmp_Or_int_c0]
  by_cases h : x = 0
  ·simp [h]
  ·simp [h]
 rw [st, st, st, st]
 by_cases h1 : a = 0
 ·by_cases h2 : b = 0
  ·by_cases h3 : c = 0
   ·by_cases h4 : d = 0
    ·simp [h1, h2, h3, h4, forR]
    ·simp [h1, h2, h3, h4]
   ·simp [h1, h2, h3]
  ·simp [h1, h2]
 ·simp [h1]
theorem ahead_eq {a b : VecT} (ha : VR a) (hb : VR b) : vec_ahead_vec_oneT ⟨a⟩ ⟨b⟩ = some (decide (vlt a b)) := by
 obtain ⟨a1, a2, a3, a4⟩ := ha
 obtain ⟨b1, b2, b3, b4⟩ := hb
 have w : ∀ x y : Int, 0 ≤ x → x ≤ 2147483647 → 0 ≤ y → y ≤ 2147483647 → IntKind.i64.wrap (x - y) = x - y := fun x y h1 h2 h3 h4 => w64_in (by omega) (by omega)
 unfold vec_ahead_vec_oneT _vec_one_rank
 dsimp only
 rw [w _ _ a1.1 (by omega) b1.1 (by omega), w _ _ a3.1 (by omega) b3.1 (by omega), w _ _ a2.1 (by omega) b2.1 (by omega), w _ _ a4.1 (by omega) b4.1 (by omega), Or4]
 by_cases h : a.Root = b.Root ∧ a.Cost = b.Cost ∧ a.Bridge = b.Bridge ∧ a.Port = b.Port
 ·obtain ⟨h1, h2, h3, h4⟩ := h
  rw [decide_eq_true h1, decide_eq_true h2, decide_eq_true h3, decide_eq_true h4]
  simp only [Bool.and_true, cond_true, Option.bind_some]
  congr 1
  exact decide_eq_decide.2 (by unfold vlt; omega)
 ·have : (((decide (a.Root = b.Root)) && ((decide (a.Cost = b.Cost)) && ((decide (a.Bridge = b.Bridge)) && ((decide (a.Port = b.Port)) && true)))) && true) = false := by
   rw [Bool.eq_false_iff]
   intro e
   simp only [Bool.and_eq_true, decide_eq_true_eq, and_true] at e
   exact h e
  rw [this, cond_false, Option.bind_some, Option.bind_some]
  congr 1
  refine decide_eq_decide.2 ?_
  unfold vlt
  split
  ·omega
  ·split
   ·omega
   ·split
    ·omega
    ·split <;> omega
theorem vBest_eq {l : List VecT} (hl : l.length ≤ 1000) (hr : ∀ v ∈ l, VR v) (h0 : l ≠ []) : ∃ (i : Nat) (v : VecT), vec_Best l = some ((i : Int), 0) ∧ l[i]? = some v ∧ (∀ w ∈ l, ¬ vlt w v) ∧ ∀ j w, j < i → l[j]? = some w → vlt v w := by
 have hall : vec_allRight l = some true := by
  unfold vec_allRight slices_ContainsFunc_Vec slices_IndexFunc_Vec
  rcases rangeL_find (s0 := ()) (body := slices_IndexFunc_Vec_c0 fun x0_ => vec_allRight_1 x0_) (xs := l) (by omega) (fun _ _ => false) (fun k _ => (k : Int)) (fun k x hx => by
   unfold slices_IndexFunc_Vec_c0 vec_allRight_1
   dsimp only
   rw [vRight_true (hr x (List.mem_of_getElem? hx))]; rfl) with ⟨k, x, _, hp, _⟩ | ⟨_, h⟩
  ·cases hp
  ·rw [h]; rfl
 have hn : 0 < l.length := List.length_pos_iff.2 h0
 obtain ⟨s, h1, h2⟩ := rangeL_inv (s0 := (0 : Int)) (body := vec_Best_c0 l) (xs := l) (by omega)
  (fun k s => ∃ (i : Nat) (v : VecT), s = (i : Int) ∧ l[i]? = some v ∧ (∀ j w, j < k → l[j]? = some w → ¬ vlt w v) ∧ ∀ j w, j < i → l[j]? = some w → vlt v w)
  ⟨0, l[0], rfl, List.getElem?_eq_getElem hn, fun j w hj => absurd hj (Nat.not_lt_zero _), fun j w hj => absurd hj (Nat.not_lt_zero _)⟩ fun k x s hk ⟨i, v, e, hv, q1, q2⟩ => by
  subst e
  unfold vec_Best_c0
  rw [gix_nat, hv, Option.bind_some, ahead_eq (hr x (List.mem_of_getElem? hk)) (hr v (List.mem_of_getElem? hv)), Option.bind_some]
  by_cases hc : vlt x v
  ·rw [decide_eq_true hc]
   refine ⟨_, rfl, k, x, rfl, hk, fun j w hj hw => ?_, fun j w hj hw => ?_⟩
   ·by_cases hjk : j = k
    ·subst hjk; rw [hk] at hw; cases hw; exact vlt.irr
    ·have := q1 j w (by omega) hw
     intro e; exact this (e.trans hc)
   ·have := q1 j w hj hw
    unfold vlt at *; omega
  ·rw [decide_eq_false hc]
   refine ⟨_, rfl, i, v, rfl, hv, fun j w hj hw => ?_, q2⟩
   by_cases hjk : j = k
   ·subst hjk; rw [hk] at hw; cases hw; exact hc
   ·exact q1 j w (by omega) hw
 obtain ⟨i, v, e, hv, q1, q2⟩ := h2
 refine ⟨i, v, ?_, hv, fun w hw => ?_, q2⟩
 ·unfold vec_Best
  rw [hall, Option.bind_some, Bool.not_true, cond_false, decide_eq_false (show ¬ ((l.length : Nat) : Int) = 0 by omega), cond_false, h1, aft_some_nxt, e]
 ·obtain ⟨j, hj⟩ := List.mem_iff_getElem?.1 hw
  exact q1 j w (List.getElem?_eq_some_iff.1 hj).1 hj
theorem vBest_nil : vec_Best [] = some (0, 4) := rfl
def tol (l : LanT) (q : A2_Int) : VecT := ⟨(bw l q.c0.toNat).1, (bw l q.c0.toNat).2, IDn l q.c0.toNat, q.c1⟩
theorem told_eq {l : LanT} (hf : FewL l) (h : LR l) {b : Nat} (hb : b < l.Plans.length) (k : Int) : tree_told l (bst l) ⟨(b : Int), k⟩ = some (tol l ⟨(b : Int), k⟩) := by
 unfold tree_told tol IDn
 dsimp only
 rw [gix_nat, bst_get hf h hb, Option.bind_some, gix_nat, List.getElem?_eq_getElem hb, Option.bind_some, Int.toNat_natCast, List.getElem?_eq_getElem hb]; rfl
theorem IDn_bnd {l : LanT} (h : LR l) {b : Nat} (hb : b < l.Plans.length) : 0 ≤ IDn l b ∧ IDn l b ≤ 65535 := by
 unfold IDn; rw [List.getElem?_eq_getElem hb]; exact (h.planOk (List.getElem?_eq_getElem hb)).1
theorem IDn_inj {l : LanT} (h : LR l) {b c : Nat} (hb : b < l.Plans.length) (hc : c < l.Plans.length) (e : IDn l b = IDn l c) : b = c := by
 unfold IDn at e
 rw [List.getElem?_eq_getElem hb, List.getElem?_eq_getElem hc] at e
 have hb' : b < (l.Plans.map (·.ID)).length := by rw [List.length_map]; exact hb
 have hc' : c < (l.Plans.map (·.ID)).length := by rw [List.length_map]; exact hc
 exact (List.getElem_inj (h₀ := hb') (h₁ := hc') h.ids).1 (by rw [List.getElem_map, List.getElem_map]; exact e)
theorem PWroot {l : LanT} {j b : Nat} {w : Wt} (hw : PW (IDn l) (Ed l) j b w) (hb : b < l.Plans.length) (h : LR l) : ∃ r, r < l.Plans.length ∧ w.1 = IDn l r := by
 induction hw with
 | base j b => exact ⟨b, hb, rfl⟩
 | step hp e ih => exact ih (e.rng h).1.1
theorem bw_rootId {l : LanT} (hf : FewL l) (h : LR l) {b : Nat} (hb : b < l.Plans.length) : ∃ r, r < l.Plans.length ∧ (bw l b).1 = IDn l r := PWroot ((bst_eq hf h).2.2 b hb).1 hb h
theorem tol_VR {l : LanT} (hf : FewL l) (h : LR l) {b k : Nat} (hb : b < l.Plans.length) (hk : k ≤ 7) : VR (tol l ⟨(b : Int), (k : Int)⟩) := by
 obtain ⟨r, hr, e⟩ := bw_rootId hf h hb
 have h1 := IDn_bnd h hr
 have h2 := IDn_bnd h hb
 have h3 := bw_bnd hf h hb
 unfold VR tol; dsimp only; rw [Int.toNat_natCast]; omega
theorem on_ok {l : LanT} (h : LR l) {s : Int} {q : A2_Int} (hq : q ∈ portsOn l s) : ∃ (b k : Nat) (p : PlanT) (x : LinkT), q = ⟨(b : Int), (k : Int)⟩ ∧ b < l.Plans.length ∧ k ≤ 7 ∧ l.Plans[b]? = some p ∧ p.Ports[k]? = some x ∧ x.Up = true ∧ x.Seg = s := by
 obtain ⟨b, k, p, x, rfl, hp, hx, h1, h2⟩ := mem_portsOn.1 hq
 have := (h.planOk hp).2.1
 have hk := (List.getElem?_eq_some_iff.1 hx).1
 exact ⟨b, k, p, x, rfl, (List.getElem?_eq_some_iff.1 hp).1, by omega, hp, hx, h1, h2⟩
def ownS (l : LanT) (s : Int) : Option A2_Int := match tree_own l (bst l) s with
 | some (q, true) => some q
 | _ => none
theorem own_ex {l : LanT} (hf : FewL l) (h : LR l) {s : Int} (hs : 0 ≤ s ∧ s < l.Segs) :
  (portsOn l s = [] ∧ tree_own l (bst l) s = some (⟨0, 0⟩, false)) ∨ ∃ q, q ∈ portsOn l s ∧ tree_own l (bst l) s = some (q, true) ∧ ∀ p ∈ portsOn l s, ¬ vlt (tol l p) (tol l q) := by
 have hn := portsOn_len hf s
 unfold tree_own
 rw [On_eq l hf, if_pos h, if_pos hs, Option.bind_some]
 dsimp only
 rw [rangeL_map (f := tol l) (by omega) (fun k q t hq hk => by
  obtain ⟨b, j, p, x, rfl, hb, _⟩ := on_ok h (List.mem_of_getElem? hq)
  have hlt := (List.getElem?_eq_some_iff.1 hq).1
  unfold tree_own_c0
  rw [told_eq hf h hb, Option.bind_some, grd_true (fits_of (by simp; omega) (by decide))]), aft_some_nxt]
 by_cases h0 : portsOn l s = []
 ·rw [h0]; exact .inl ⟨rfl, rfl⟩
 ·obtain ⟨i, v, e1, e2, e3, _⟩ := vBest_eq (l := (portsOn l s).map (tol l)) (by rw [List.length_map]; omega) (fun v hv => by
   obtain ⟨q, hq, rfl⟩ := List.mem_map.1 hv
   obtain ⟨b, j, p, x, rfl, hb, hj, _⟩ := on_ok h hq
   exact tol_VR hf h hb hj) (by simpa using h0)
  rw [e1, Option.bind_some]
  rw [List.getElem?_map] at e2
  obtain ⟨q, hq, rfl⟩ := Option.map_eq_some_iff.1 e2
  refine .inr ⟨q, List.mem_of_getElem? hq, ?_, fun p hp => e3 _ (List.mem_map_of_mem hp)⟩
  dsimp only
  rw [decide_eq_true rfl, Bool.not_true, cond_false, gix_nat, hq]; rfl
theorem tol_inj {l : LanT} (h : LR l) {s s' : Int} {p q : A2_Int} (hp : p ∈ portsOn l s) (hq : q ∈ portsOn l s') (e : (tol l p).Bridge = (tol l q).Bridge ∧ (tol l p).Port = (tol l q).Port) : p = q := by
 obtain ⟨b, j, _, _, rfl, hb, _⟩ := on_ok h hp
 obtain ⟨c, k, _, _, rfl, hc, _⟩ := on_ok h hq
 have e1 : IDn l b = IDn l c := by have := e.1; unfold tol at this; dsimp only at this; rwa [Int.toNat_natCast, Int.toNat_natCast] at this
 have e2 : (j : Int) = (k : Int) := e.2
 rw [IDn_inj h hb hc e1, e2]
theorem own_eq {l : LanT} (hf : FewL l) (h : LR l) {s : Int} (hs : 0 ≤ s ∧ s < l.Segs) : tree_own l (bst l) s = some ((ownS l s).getD ⟨0, 0⟩, (ownS l s).isSome) := by
 unfold ownS
 rcases own_ex hf h hs with ⟨_, e⟩ | ⟨q, _, e, _⟩ <;> rw [e] <;> rfl
theorem own_none {l : LanT} (hf : FewL l) (h : LR l) {s : Int} (hs : 0 ≤ s ∧ s < l.Segs) : ownS l s = none ↔ portsOn l s = [] := by
 unfold ownS
 rcases own_ex hf h hs with ⟨e0, e⟩ | ⟨q, hq, e, _⟩ <;> rw [e]
 ·exact ⟨fun _ => e0, fun _ => rfl⟩
 ·exact ⟨(fun k => nomatch k), fun k => by rw [k] at hq; cases hq⟩
theorem own_some {l : LanT} (hf : FewL l) (h : LR l) {s : Int} (hs : 0 ≤ s ∧ s < l.Segs) {q : A2_Int} (hq : ownS l s = some q) : q ∈ portsOn l s ∧ ∀ p ∈ portsOn l s, p = q ∨ vlt (tol l q) (tol l p) := by
 unfold ownS at hq
 rcases own_ex hf h hs with ⟨e0, e⟩ | ⟨q', hq', e, e2⟩ <;> rw [e] at hq
 ·cases hq
 ·cases hq
  refine ⟨hq', fun p hp => ?_⟩
  by_cases he : p = q
  ·exact .inl he
  ·exact .inr (vlt.tri (e2 p hp) fun k => he (tol_inj h hp hq' k))
theorem own_up {l : LanT} (hf : FewL l) (h : LR l) {b k : Nat} {p : PlanT} {x : LinkT} (hp : l.Plans[b]? = some p) (hx : p.Ports[k]? = some x) (hu : x.Up = true) : ∃ q, ownS l x.Seg = some q := by
 have hs := ((h.planOk hp).2.2 x (List.mem_of_getElem? hx)).1
 cases hq : ownS l x.Seg with
 | some q => exact ⟨q, rfl⟩
 | none =>
  have := (own_none hf h hs).1 hq
  have hm : (⟨(b : Int), (k : Int)⟩ : A2_Int) ∈ portsOn l x.Seg := mem_portsOn.2 ⟨b, k, p, x, rfl, hp, hx, hu, rfl⟩
  rw [this] at hm; cases hm
def cnd (l : LanT) (b : Nat) (x : LinkT) : Option VecT := match ownS l x.Seg with
 | some q => if x.Up = true ∧ q.c0 ≠ (b : Int) ∧ (tol l q).Root = (bw l b).1 ∧ (tol l q).Cost + x.Cost = (bw l b).2 then some ⟨(tol l q).Root, (tol l q).Cost + x.Cost, (tol l q).Bridge, (tol l q).Port⟩ else none
 | none => none
def cnds (l : LanT) (b : Nat) (xs : List LinkT) : List (Int × VecT) := xs.zipIdx.filterMap fun x => (cnd l b x.1).map fun v => ((x.2 : Int), v)
def rt (l : LanT) (b : Nat) : Int := (tree_root l (bst l) (b : Int)).getD (-1)
theorem cnds_len {l : LanT} {b : Nat} {xs : List LinkT} : (cnds l b xs).length ≤ xs.length := by
 unfold cnds
 refine Nat.le_trans (List.length_filterMap_le _ _) ?_
 rw [List.length_zipIdx]; exact Nat.le_refl _
theorem mem_cnds {l : LanT} {b : Nat} {xs : List LinkT} {k : Int} {v : VecT} : (k, v) ∈ cnds l b xs ↔ ∃ (j : Nat) (x : LinkT), k = (j : Int) ∧ xs[j]? = some x ∧ cnd l b x = some v := by
 unfold cnds
 simp only [List.mem_filterMap, Prod.exists, List.mem_zipIdx_iff_getElem?, Option.map_eq_some_iff, Prod.mk.injEq]
 constructor
 ·rintro ⟨x, j, hx, w, hw, rfl, rfl⟩; exact ⟨j, x, rfl, hx, hw⟩
 ·rintro ⟨j, x, rfl, hx, hw⟩; exact ⟨x, j, hx, v, hw, rfl, rfl⟩
theorem cnd_VR {l : LanT} (hf : FewL l) (h : LR l) {b : Nat} (hb : b < l.Plans.length) {x : LinkT} (hs : 0 ≤ x.Seg ∧ x.Seg < l.Segs) {v : VecT} (hv : cnd l b x = some v) : VR v := by
 unfold cnd at hv
 split at hv
 ·rename_i q hq
  split at hv
  ·rename_i hc
   cases hv
   obtain ⟨c, k, _, _, rfl, hc', hk, _⟩ := on_ok h (own_some hf h hs hq).1
   have h1 := tol_VR hf h hc' hk
   have h2 := bw_bnd hf h hb
   unfold VR at *; dsimp only; omega
  ·cases hv
 ·cases hv
theorem root_ex {l : LanT} (hf : FewL l) (h : LR l) {b : Nat} {p : PlanT} (hp : l.Plans[b]? = some p) :
  ((bw l b).1 = IDn l b ∧ tree_root l (bst l) (b : Int) = some (-1)) ∨ ((bw l b).1 ≠ IDn l b ∧
   ((cnds l b p.Ports = [] ∧ tree_root l (bst l) (b : Int) = some (-1)) ∨ ∃ (i : Nat) (k : Int) (v : VecT), (cnds l b p.Ports)[i]? = some (k, v) ∧ tree_root l (bst l) (b : Int) = some k ∧
    (∀ e ∈ cnds l b p.Ports, ¬ vlt e.2 v) ∧ ∀ j e, j < i → (cnds l b p.Ports)[j]? = some e → vlt v e.2)) := by
 have hb := (List.getElem?_eq_some_iff.1 hp).1
 have hpl := hf.ports p (List.mem_of_getElem? hp)
 unfold tree_root
 rw [gix_nat, bst_get hf h hb, Option.bind_some, gix_nat, hp, Option.bind_some]
 dsimp only
 rw [IDn_of hp]
 by_cases h0 : (bw l b).1 = p.ID
 ·rw [decide_eq_true h0]; exact .inl ⟨h0, rfl⟩
 ·rw [decide_eq_false h0, cond_false]
  refine .inr ⟨h0, ?_⟩
  obtain ⟨s, h1, h2⟩ := rangeL_inv (s0 := (([] : List Int), ([] : List VecT))) (body := tree_root_c0 l (bst l) (b : Int)) (xs := p.Ports) (by omega)
   (fun k s => s = ((cnds l b (p.Ports.take k)).map (·.1), (cnds l b (p.Ports.take k)).map (·.2))) rfl fun k x s hk hs => by
   subst hs
   have hlt := (List.getElem?_eq_some_iff.1 hk).1
   have hx := List.mem_of_getElem? hk
   have hok := (h.planOk hp).2.2 x hx
   have hxc := hok.2
   have hstep : cnds l b (p.Ports.take (k + 1)) = cnds l b (p.Ports.take k) ++ ((cnd l b x).map fun v => ((k : Int), v)).toList := by
    unfold cnds
    rw [List.take_add_one, hk, Option.toList, List.zipIdx_append, List.filterMap_append, List.length_take, Nat.min_eq_left (by omega)]
    congr 1
    simp only [List.zipIdx_cons, List.zipIdx_nil, List.filterMap_cons, List.filterMap_nil, Nat.zero_add]
    cases cnd l b x <;> rfl
   have hcl : (cnds l b (p.Ports.take k)).length ≤ 10 := Nat.le_trans cnds_len (by rw [List.length_take]; omega)
   rw [hstep]
   unfold tree_root_c0
   rw [own_eq hf h hok.1, Option.bind_some]
   dsimp only
   unfold cnd
   cases hq : ownS l x.Seg with
   | none =>
    refine ⟨((cnds l b (p.Ports.take k)).map (·.1), (cnds l b (p.Ports.take k)).map (·.2)), by cases x.Up <;> rfl, ?_⟩
    simp
   | some q =>
    obtain ⟨c, j, _, _, rfl, hc', hj, _⟩ := on_ok h (own_some hf h hok.1 hq).1
    have hv := tol_VR hf h hc' hj
    have hcb := bw_bnd hf h hc'
    simp only [Option.getD_some, Option.isSome_some, Bool.not_true]
    by_cases hu : x.Up = true
    ·by_cases hcb' : (c : Int) = (b : Int)
     ·rw [hu, decide_eq_true hcb']
      refine ⟨_, rfl, ?_⟩
      simp [hcb']
     ·rw [hu, decide_eq_false hcb']
      simp only [Bool.not_true, Bool.cond_false]
      rw [told_eq hf h hc', Option.bind_some]
      have hfar : vec_Far (tol l ⟨(c : Int), (j : Int)⟩) x.Cost = some (⟨(tol l ⟨(c : Int), (j : Int)⟩).Root, (tol l ⟨(c : Int), (j : Int)⟩).Cost + x.Cost, (tol l ⟨(c : Int), (j : Int)⟩).Bridge, (tol l ⟨(c : Int), (j : Int)⟩).Port⟩, 0) := by
       unfold vec_Far
       rw [vRight_true hv, Option.bind_some, vin_eq]
       have hco : (tol l ⟨(c : Int), (j : Int)⟩).Cost = (bw l c).2 := by unfold tol; dsimp only; rw [Int.toNat_natCast]
       rw [decide_eq_true (show 0 ≤ x.Cost ∧ x.Cost ≤ 2147483647 by omega), hco, wr_in (by omega) (by omega)]
       have : mn ((bw l c).2 + x.Cost) 2147483647 = (bw l c).2 + x.Cost := by unfold mn; split <;> omega
       rw [this]; rfl
      rw [hfar, Option.bind_some, gix_nat, bst_get hf h hb, Option.bind_some]
      dsimp only
      by_cases hg : (tol l ⟨(c : Int), (j : Int)⟩).Root = (bw l b).1 ∧ (tol l ⟨(c : Int), (j : Int)⟩).Cost + x.Cost = (bw l b).2
      ·rw [decide_eq_true hg.1, decide_eq_true hg.2, if_pos ⟨trivial, hcb', hg⟩]
       simp only [Bool.and_true, cond_true]
       rw [grd_true (fits_of (by simp; omega) (by decide)), grd_true (fits_of (by simp; omega) (by decide))]
       refine ⟨_, rfl, ?_⟩
       simp
      ·rw [if_neg fun k => hg k.2.2]
       have : (decide ((tol l ⟨(c : Int), (j : Int)⟩).Root = (bw l b).1) && (decide ((tol l ⟨(c : Int), (j : Int)⟩).Cost + x.Cost = (bw l b).2) && true)) = false := by
        rw [Bool.eq_false_iff]; intro e; simp only [Bool.and_eq_true, decide_eq_true_eq, and_true] at e; exact hg e
       rw [this]
       refine ⟨_, rfl, ?_⟩
       simp
    ·have hu' : x.Up = false := Bool.eq_false_iff.2 hu
     rw [hu', if_neg fun k => by cases k.1]
     refine ⟨_, rfl, ?_⟩
     simp
  rw [h1, aft_some_nxt, h2, List.take_length]
  dsimp only
  by_cases hn : cnds l b p.Ports = []
  ·rw [hn]; exact .inl ⟨rfl, rfl⟩
  ·have hcl : (cnds l b p.Ports).length ≤ 10 := Nat.le_trans cnds_len hpl
   obtain ⟨i, v, e1, e2, e3, e4⟩ := vBest_eq (l := (cnds l b p.Ports).map (·.2)) (by rw [List.length_map]; omega) (fun v hv => by
    obtain ⟨⟨k, v⟩, hkv, rfl⟩ := List.mem_map.1 hv
    obtain ⟨j, x, rfl, hx, hc⟩ := mem_cnds.1 hkv
    exact cnd_VR hf h hb ((h.planOk hp).2.2 x (List.mem_of_getElem? hx)).1 hc) (by simpa using hn)
   rw [e1, Option.bind_some]
   rw [List.getElem?_map] at e2
   obtain ⟨⟨k, v'⟩, hkv, rfl⟩ := Option.map_eq_some_iff.1 e2
   have hi := (List.getElem?_eq_some_iff.1 hkv).1
   refine .inr ⟨i, k, v', hkv, ?_, fun e he => e3 _ (List.mem_map_of_mem he), fun j e hj he => e4 j _ hj (by rw [List.getElem?_map, he]; rfl)⟩
   dsimp only
   rw [decide_eq_true rfl, Bool.not_true, cond_false, grd_true ⟨by omega, by rw [List.length_map]; omega⟩, Int.toNat_natCast]
   have : gixN ((cnds l b p.Ports).map (·.1)) i = some k := by show ((cnds l b p.Ports).map (·.1))[i]? = _; rw [List.getElem?_map, hkv]; rfl
   rw [this]; rfl
theorem cnds_ne {l : LanT} (hf : FewL l) (h : LR l) {b : Nat} {p : PlanT} (hp : l.Plans[b]? = some p) (h0 : (bw l b).1 ≠ IDn l b) : cnds l b p.Ports ≠ [] := by
 have hb := (List.getElem?_eq_some_iff.1 hp).1
 rcases bw_src hf h hb with e | ⟨k, c, he, e⟩
 ·rw [e] at h0; exact absurd rfl h0
 ·obtain ⟨d, hd⟩ := he.back
  have hkl := (he.rng h).1.1
  obtain ⟨hne, q, p', y, x, hq, hp', hy, hx, y1, x1, hs, rfl⟩ := he
  rw [hp] at hp'; cases hp'
  obtain ⟨j, hj⟩ := List.mem_iff_getElem?.1 hx
  obtain ⟨i, hi⟩ := List.mem_iff_getElem?.1 hy
  have hok := (h.planOk hp).2.2 x hx
  have hxc := hok.2
  obtain ⟨o, ho⟩ := own_up hf h hp hj x1
  obtain ⟨o1, o2⟩ := own_some hf h hok.1 ho
  obtain ⟨c, m, pc, xc, rfl, hc, hm, hpc, hxc, xc1, xc2⟩ := on_ok h o1
  have hkon : (⟨(k : Int), (i : Int)⟩ : A2_Int) ∈ portsOn l x.Seg := mem_portsOn.2 ⟨k, i, q, y, rfl, hq, hi, y1, hs⟩
  have hle : wle (bw l c) (bw l k) := by
   rcases o2 _ hkon with e' | e'
   ·have : (k : Int) = (c : Int) := congrArg A2_Int.c0 e'
    have : k = c := by omega
    rw [this]; exact wle.refl _
   ·unfold vlt tol at e'; dsimp only at e'; rw [Int.toNat_natCast, Int.toNat_natCast] at e'
    unfold wle; omega
  have hbc : c ≠ b := fun q' => by
   subst q'
   rw [e] at hle; unfold wle wad at hle; dsimp only at hle
   omega
  have hEd : Ed l c b x.Cost := ⟨hbc, pc, p, xc, x, hpc, hp, List.mem_of_getElem? hxc, hx, xc1, x1, xc2, rfl⟩
  have h3 := bw_edge hf h hEd
  have h4 := hle.add x.Cost
  rw [← e] at h4
  have h5 := wle.anti h3 h4
  have hcnd : cnd l b x = some ⟨(tol l ⟨(c : Int), (m : Int)⟩).Root, (tol l ⟨(c : Int), (m : Int)⟩).Cost + x.Cost, (tol l ⟨(c : Int), (m : Int)⟩).Bridge, (tol l ⟨(c : Int), (m : Int)⟩).Port⟩ := by
   unfold cnd
   rw [ho]
   dsimp only
   rw [if_pos]
   refine ⟨x1, by omega, ?_, ?_⟩
   ·unfold tol; dsimp only; rw [Int.toNat_natCast, h5]; rfl
   ·unfold tol; dsimp only; rw [Int.toNat_natCast, h5]; rfl
  intro hnil
  have := (mem_cnds (l := l) (b := b) (xs := p.Ports)).2 ⟨j, x, rfl, hj, hcnd⟩
  rw [hnil] at this; cases this
theorem rt_eq {l : LanT} (hf : FewL l) (h : LR l) {b : Nat} {p : PlanT} (hp : l.Plans[b]? = some p) : tree_root l (bst l) (b : Int) = some (rt l b) ∧
  (((bw l b).1 = IDn l b ∧ rt l b = -1) ∨ ((bw l b).1 ≠ IDn l b ∧ ∃ (j : Nat) (x : LinkT) (q : A2_Int), rt l b = (j : Int) ∧ p.Ports[j]? = some x ∧ x.Up = true ∧ ownS l x.Seg = some q ∧ q.c0 ≠ (b : Int) ∧ (tol l q).Root = (bw l b).1 ∧ (tol l q).Cost + x.Cost = (bw l b).2)) := by
 unfold rt
 rcases root_ex hf h hp with ⟨e0, e⟩ | ⟨e0, ⟨e1, e⟩ | ⟨i, k, v, hk, e, _⟩⟩
 ·rw [e]; exact ⟨rfl, .inl ⟨e0, rfl⟩⟩
 ·exact absurd e1 (cnds_ne hf h hp e0)
 ·rw [e]
  refine ⟨rfl, .inr ⟨e0, ?_⟩⟩
  obtain ⟨j, x, rfl, hx, hc⟩ := mem_cnds.1 (List.mem_of_getElem? hk)
  unfold cnd at hc
  split at hc
  ·rename_i q hq
   split at hc
   ·rename_i hcc
    exact ⟨j, x, q, rfl, hx, hcc.1, hq, hcc.2⟩
   ·cases hc
  ·cases hc
def rol (l : LanT) (b k : Nat) (x : LinkT) : Int := if x.Up = false then 3 else if ownS l x.Seg = some ⟨(b : Int), (k : Int)⟩ then 1 else if (k : Int) = rt l b then 0 else 2
def rols (l : LanT) : List (List Int) := l.Plans.zipIdx.map fun p => p.1.Ports.zipIdx.map fun x => rol l p.2 x.2 x.1
theorem rangeL_mapIdx {α β ρ : Type} {body : Nat → α → List β → Option (Step ρ (List β))} {xs : List α} (hl : xs.length ≤ 1000000) (f : α → Nat → β) (hs : ∀ k x s, xs[k]? = some x → s.length = k → body k x s = some (.nxt (s ++ [f x k]))) :
  rangeL body xs [] = some (.nxt (xs.zipIdx.map fun x => f x.1 x.2)) := by
 obtain ⟨s, h1, h2⟩ := rangeL_inv (s0 := ([] : List β)) (body := body) hl (fun k s => s = (xs.take k).zipIdx.map fun x => f x.1 x.2) rfl fun k x s hx h => by
  have hlt := (List.getElem?_eq_some_iff.1 hx).1
  refine ⟨_, hs k x s hx (by rw [h]; simp; omega), ?_⟩
  rw [h, List.take_add_one, hx, Option.toList, List.zipIdx_append, List.map_append, List.length_take, Nat.min_eq_left (by omega)]
  simp
 rw [h1, h2, List.take_length]
theorem Roles_eq (l : LanT) (hf : FewL l) : tree_Roles l = some (if LR l then (rols l, 0) else ([], 1)) := by
 have hn := hf.plans
 unfold tree_Roles
 rw [LanRight_eq l hf, Option.bind_some]
 by_cases h : LR l
 ·rw [if_pos h, decide_eq_true h, Bool.not_true, cond_false, (bst_eq hf h).1, Option.bind_some]
  rw [rangeL_mapIdx (by omega) (fun p b => p.Ports.zipIdx.map fun x => rol l b x.2 x.1) (fun b p s hp hs => by
   have hb := (List.getElem?_eq_some_iff.1 hp).1
   have hpl := hf.ports p (List.mem_of_getElem? hp)
   unfold tree_Roles_c0
   rw [(rt_eq hf h hp).1, Option.bind_some, rangeL_mapIdx (by omega) (fun x k => rol l b k x) (fun k x t hx ht => by
    have hok := (h.planOk hp).2.2 x (List.mem_of_getElem? hx)
    have hkl := (List.getElem?_eq_some_iff.1 hx).1
    unfold tree_Roles_c1 rol
    rw [own_eq hf h hok.1, Option.bind_some]
    have F : ∀ v : Int, fits (t ++ [v]).length 8 := fun v => fits_of (by simp; omega) (by decide)
    cases hu : x.Up with
    | false => rw [if_pos rfl, Bool.not_false, cond_true, grd_true (F _)]
    | true =>
     obtain ⟨q, hq⟩ := own_up hf h hp hx hu
     rw [if_neg (by simp), Bool.not_true, cond_false, hq]
     simp only [Option.getD_some, Option.some.injEq]
     by_cases hc : q = ⟨(b : Int), (k : Int)⟩
     ·subst hc
      rw [if_pos rfl]
      simp only [decide_true, Bool.and_true, Bool.and_self, cond_true]
      rw [grd_true (F _)]
     ·have : (decide (q.c0 = (b : Int)) && (decide (q.c1 = (k : Int)) && true)) = false := by
       rw [Bool.eq_false_iff]; intro e; simp only [Bool.and_eq_true, decide_eq_true_eq, and_true] at e
       exact hc (by cases q; dsimp only at e; rw [e.1, e.2])
      rw [this, if_neg hc, cond_false]
      by_cases hr : (k : Int) = rt l b
      ·rw [decide_eq_true hr, if_pos hr, cond_true, grd_true (F _)]
      ·rw [decide_eq_false hr, if_neg hr, cond_false, grd_true (F _)]), aft_some_nxt, grd_true (fits_of (by simp; omega) (by decide))]), aft_some_nxt]
  rfl
 ·rw [if_neg h, decide_eq_false h]; rfl
theorem Own_eq (l : LanT) (hf : FewL l) (s : Int) : tree_Own l s = some (if LR l then (if 0 ≤ s ∧ s < l.Segs then ((ownS l s).getD ⟨0, 0⟩, (ownS l s).isSome, 0) else (⟨0, 0⟩, false, 3)) else (⟨0, 0⟩, false, 1)) := by
 unfold tree_Own
 rw [LanRight_eq l hf, Option.bind_some]
 by_cases h : LR l
 ·rw [if_pos h, decide_eq_true h, Bool.not_true, cond_false]
  by_cases hs : 0 ≤ s ∧ s < l.Segs
  ·rw [if_pos hs, decide_eq_false (show ¬ s < 0 by omega), cond_false, decide_eq_false (show ¬ l.Segs ≤ s by omega), cond_false, (bst_eq hf h).1, Option.bind_some, own_eq hf h hs]; rfl
  ·rw [if_neg hs]
   by_cases h0 : s < 0
   ·rw [decide_eq_true h0]; rfl
   ·rw [decide_eq_false h0, cond_false, decide_eq_true (show l.Segs ≤ s by omega)]; rfl
 ·rw [if_neg h, decide_eq_false h]; rfl
end
section
set_option maxHeartbeats 1000000
theorem shaped_eq {l : LanT} (hf : FewL l) : law16_shaped l (rols l) = some true := by
 have hn := hf.plans
 unfold law16_shaped
 have hl : (rols l).length = l.Plans.length := by unfold rols; simp
 rw [hl, decide_eq_true rfl, Bool.not_true, cond_false, rangeL_all (by omega) (fun _ => true) false (fun k p hp => by
  have hk := (List.getElem?_eq_some_iff.1 hp).1
  have : (rols l)[k]? = some (p.Ports.zipIdx.map fun x => rol l k x.2 x.1) := by
   unfold rols; rw [List.getElem?_map, List.getElem?_zipIdx, hp]; simp
  unfold law16_shaped_c0
  rw [gix_nat, this, Option.bind_some, List.length_map, List.length_zipIdx, decide_eq_true rfl]; rfl), all_tt]
 rfl
theorem rols_get {l : LanT} {b k : Nat} {p : PlanT} {x : LinkT} (hp : l.Plans[b]? = some p) (hx : p.Ports[k]? = some x) : ∃ r, (rols l)[b]? = some r ∧ r.length = p.Ports.length ∧ r[k]? = some (rol l b k x) := by
 refine ⟨p.Ports.zipIdx.map fun x => rol l b x.2 x.1, ?_, by simp, ?_⟩
 ·unfold rols; rw [List.getElem?_map, List.getElem?_zipIdx, hp]; simp
 ·rw [List.getElem?_map, List.getElem?_zipIdx, hx]; simp
theorem rol0 {l : LanT} (hf : FewL l) (h : LR l) {b k : Nat} {p : PlanT} {x : LinkT} (hp : l.Plans[b]? = some p) (hx : p.Ports[k]? = some x) (h0 : rol l b k x = 0) :
  (bw l b).1 ≠ IDn l b ∧ rt l b = (k : Int) ∧ x.Up = true ∧ ∃ c j : Nat, ownS l x.Seg = some ⟨(c : Int), (j : Int)⟩ ∧ c < l.Plans.length ∧ c ≠ b ∧ (bw l c).1 = (bw l b).1 ∧ (bw l c).2 + x.Cost = (bw l b).2 := by
 have hr : (k : Int) = rt l b := by
  unfold rol at h0
  split at h0
  ·omega
  ·split at h0
   ·omega
   ·split at h0
    ·assumption
    ·omega
 have hok := (h.planOk hp).2.2 x (List.mem_of_getElem? hx)
 rcases (rt_eq hf h hp).2 with ⟨_, e⟩ | ⟨e0, j, y, q, e, hy, hu, hq, h1, h2, h3⟩
 ·omega
 ·have : j = k := by omega
  subst this
  rw [hx] at hy; cases hy
  obtain ⟨c, m, _, _, rfl, hc, hm, _⟩ := on_ok h (own_some hf h hok.1 hq).1
  refine ⟨e0, e, hu, c, m, hq, hc, fun e => h1 (by rw [e]), ?_, ?_⟩
  ·unfold tol at h2; dsimp only at h2; rwa [Int.toNat_natCast] at h2
  ·unfold tol at h3; dsimp only at h3; rwa [Int.toNat_natCast] at h3
theorem rol_rt {l : LanT} (hf : FewL l) (h : LR l) {b : Nat} {p : PlanT} (hp : l.Plans[b]? = some p) (h0 : (bw l b).1 ≠ IDn l b) : ∃ (j : Nat) (x : LinkT), p.Ports[j]? = some x ∧ rt l b = (j : Int) ∧ rol l b j x = 0 := by
 rcases (rt_eq hf h hp).2 with ⟨e, _⟩ | ⟨e0, j, y, q, e, hy, hu, hq, h1, h2, h3⟩
 ·exact absurd e h0
 ·refine ⟨j, y, hy, e, ?_⟩
  unfold rol
  rw [if_neg (by rw [hu]; simp), if_neg (by rw [hq]; intro k; cases k; exact h1 rfl), if_pos e.symm]
theorem no_ups {l : LanT} (hf : FewL l) (h : LR l) {b : Nat} {p : PlanT} (hp : l.Plans[b]? = some p) (hu : ∀ x ∈ p.Ports, x.Up = false) : (bw l b).1 = IDn l b := by
 rcases bw_src hf h (List.getElem?_eq_some_iff.1 hp).1 with e | ⟨k, c, he, e⟩
 ·rw [e]
 ·obtain ⟨hne, q, p', y, x, hq, hp', hy, hx, y1, x1, hs, rfl⟩ := he
  rw [hp] at hp'; cases hp'
  rw [hu x hx] at x1; cases x1
theorem TreeRoots_true (a0 : LanT) : law16_TreeRoots a0 = some true := by
 unfold law16_TreeRoots
 rw [few16_eq, Option.bind_some]
 have hf := fewL_few a0
 generalize fewL a0 = l at hf
 have hn := hf.plans
 rw [Roles_eq l hf, Option.bind_some]
 by_cases h : LR l
 ·rw [if_pos h]
  have hsg := h.segs
  simp only [decide_true, Bool.not_true, Bool.cond_false]
  rw [shaped_eq hf, Option.bind_some]
  simp only [Bool.not_true, Bool.not_false, gd_true, alive16, Option.bind_some, Bool.cond_false]
  have hrl : (rols l).length = l.Plans.length := by unfold rols; simp
  obtain ⟨_, h1, _⟩ := rangeN_rec (n := l.Segs) (s0 := ()) (body := law16_TreeRoots_c0 l (rols l, 0)) (by omega) (fun _ _ => True) (fun _ => False) (fun _ => False) trivial fun s _ hs _ => by
   have hs' : 0 ≤ (s : Int) ∧ (s : Int) < l.Segs := ⟨by omega, hs⟩
   unfold law16_TreeRoots_c0
   rw [Own_eq l hf, if_pos h, if_pos hs', Option.bind_some, On_eq l hf, if_pos h, if_pos hs', Option.bind_some]
   dsimp only
   have e1 : (ownS l (s : Int)).isSome = decide ((0 : Int) < (((portsOn l (s : Int)).length : Nat) : Int)) := by
    cases hq : ownS l (s : Int) with
    | none => rw [(own_none hf h hs').1 hq]; rfl
    | some q =>
     have := List.length_pos_of_mem (own_some hf h hs' hq).1
     rw [decide_eq_true (by omega)]; rfl
   rw [e1]
   simp only [decide_true, Bool.not_true, Bool.cond_false, beq_self_eq_true]
   have hnp := portsOn_len hf (s : Int)
   rw [rangeL_all (by omega) (fun _ => true) (Step.ret false) (fun k q hq => by
    obtain ⟨b, j, p, x, rfl, hb, hj, hp, hx, hu, hseg⟩ := on_ok h (List.mem_of_getElem? hq)
    obtain ⟨r, hr, hrl', hrk⟩ := rols_get hp hx
    have hjl := (List.getElem?_eq_some_iff.1 hx).1
    obtain ⟨o, ho⟩ := own_up hf h hp hx hu
    rw [hseg] at ho
    unfold law16_TreeRoots_c1
    dsimp only
    rw [decide_eq_false (show ¬ (b : Int) < 0 by omega), decide_eq_false (show ¬ (((rols l).length : Nat) : Int) ≤ (b : Int) by omega), decide_eq_false (show ¬ (j : Int) < 0 by omega)]
    simp only [Bool.cond_false, Bool.not_false, gd_true]
    rw [gix_nat, hr, Option.bind_some, decide_eq_false (show ¬ ((r.length : Nat) : Int) ≤ (j : Int) by omega)]
    simp only [Bool.cond_false, Bool.not_false, gd_true]
    rw [Option.bind_some, gix_nat, hrk, Option.bind_some, ho]
    have e2 : decide (rol l b j x = 1) = (decide ((b : Int) = (Option.getD (some o) ⟨0, 0⟩).c0) && (decide ((j : Int) = (Option.getD (some o) ⟨0, 0⟩).c1) && true)) := by
     unfold rol
     rw [if_neg (by rw [hu]; simp), hseg, ho, Option.getD_some, Bool.and_true]
     by_cases hc : o = ⟨(b : Int), (j : Int)⟩
     ·subst hc; simp
     ·rw [if_neg (by intro e; exact hc (Option.some.inj e))]
      have : (decide ((b : Int) = o.c0) && decide ((j : Int) = o.c1)) = false := by
       rw [Bool.eq_false_iff]; intro e; simp only [Bool.and_eq_true, decide_eq_true_eq] at e
       exact hc (by cases o; dsimp only at e; rw [← e.1, ← e.2])
      rw [this]
      refine decide_eq_false ?_
      split <;> omega
    rw [e2]
    simp only [beq_self_eq_true, Bool.not_true, Bool.cond_false, cond_true]), all_tt]
   exact ⟨_, rfl, trivial⟩
  rename_i o hmo
  have ho : o = .nxt () := by cases o with
   | nxt s => rfl
   | ret r => exact hmo.elim
   | brk s => exact hmo.elim
  rw [h1, ho, aft_some_nxt]
  rw [rangeL_all (by rw [hrl]; omega) (fun _ => true) false (fun b row hrow => by
   have hb : b < l.Plans.length := by rw [← hrl]; exact (List.getElem?_eq_some_iff.1 hrow).1
   obtain ⟨p, hp⟩ : ∃ p, l.Plans[b]? = some p := ⟨_, List.getElem?_eq_getElem hb⟩
   have hpl := hf.ports p (List.mem_of_getElem? hp)
   have erow : row = p.Ports.zipIdx.map fun x => rol l b x.2 x.1 := by
    unfold rols at hrow; rw [List.getElem?_map, List.getElem?_zipIdx, hp] at hrow
    simpa using hrow.symm
   have hbb := bw_bnd hf h hb
   unfold law16_TreeRoots_c2
   rw [Best_eq l hf, if_pos h, if_pos ⟨by omega, by omega⟩, Int.toNat_natCast, Option.bind_some]
   simp only [decide_true, Bool.not_true, Bool.cond_false]
   obtain ⟨s, k1, k2, k3⟩ := rangeL_inv (s0 := ((0 : Int), (0 : Int))) (body := law16_TreeRoots_c3 l b ((bw l b).1, (bw l b).2, 0)) (xs := row) (by rw [erow]; simp; omega)
    (fun k s => s.1 = (if (bw l b).1 ≠ IDn l b ∧ rt l b < (k : Int) then 1 else 0) ∧ 0 ≤ s.2 ∧ s.2 ≤ (k : Int) ∧ (s.2 = 0 → ∀ (j : Nat) (x : LinkT), j < k → p.Ports[j]? = some x → x.Up = false))
    ⟨by
     dsimp only
     split
     ·rename_i hc
      rcases (rt_eq hf h hp).2 with ⟨e, _⟩ | ⟨_, j, _, _, e, _⟩
      ·exact absurd e hc.1
      ·omega
     ·rfl, Int.le_refl _, by omega, fun _ j x hj => absurd hj (Nat.not_lt_zero _)⟩ fun k x s hk ⟨i1, i2, i3, i4⟩ => by
    rw [erow, List.getElem?_map, List.getElem?_zipIdx] at hk
    obtain ⟨⟨y, k'⟩, hy, rfl⟩ := Option.map_eq_some_iff.1 hk
    obtain ⟨z, hz, e⟩ := Option.map_eq_some_iff.1 hy
    simp only [Prod.mk.injEq, Nat.zero_add] at e
    obtain ⟨rfl, rfl⟩ := e
    have hkl := (List.getElem?_eq_some_iff.1 hz).1
    have hok := (h.planOk hp).2.2 z (List.mem_of_getElem? hz)
    have hxc := hok.2
    dsimp only
    unfold law16_TreeRoots_c3
    rw [gix_nat, hp, Option.bind_some, gix_nat, hz, Option.bind_some]
    have nxtU : ∀ s2 : Int, (s2 = IntKind.i64.wrap (s.2 + 1) → z.Up = true → 0 ≤ s2 ∧ s2 ≤ ((k + 1 : Nat) : Int) ∧ (s2 = 0 → ∀ (j : Nat) (x : LinkT), j < k + 1 → p.Ports[j]? = some x → x.Up = false)) := fun s2 e _ => by
     rw [wr_in (by omega) (by omega)] at e
     exact ⟨by omega, by omega, fun e0 => by omega⟩
    have nxtD : z.Up = false → 0 ≤ s.2 ∧ s.2 ≤ ((k + 1 : Nat) : Int) ∧ (s.2 = 0 → ∀ (j : Nat) (x : LinkT), j < k + 1 → p.Ports[j]? = some x → x.Up = false) := fun hu =>
     ⟨i2, by omega, fun e0 j x hj hx => by
      by_cases hjk : j = k
      ·subst hjk; rw [hz] at hx; cases hx; exact hu
      ·exact i4 e0 j x (by omega) hx⟩
    by_cases hr : rol l b k z = 0
    ·obtain ⟨r1, r2, r3, c, m, r4, r5, r6, r7, r8⟩ := rol0 hf h hp hz hr
     have hcb := bw_bnd hf h r5
     rw [r3, hr]
     simp only [decide_true, Bool.not_true, Bool.cond_false, cond_true]
     rw [Own_eq l hf, if_pos h, if_pos hok.1, Option.bind_some, r4]
     simp only [Option.getD_some, Option.isSome_some, decide_true, Bool.not_true, Bool.cond_false]
     rw [Best_eq l hf, if_pos h, if_pos ⟨by omega, by omega⟩, Int.toNat_natCast, Option.bind_some]
     dsimp only
     rw [r7, wr_in (a := (bw l c).2 + z.Cost) (by omega) (by omega), r8, decide_eq_false (show ¬ (c : Int) = (b : Int) by omega)]
     simp only [decide_true, Bool.not_true, Bool.cond_false]
     refine ⟨_, rfl, ?_, nxtU _ rfl r3⟩
     dsimp only
     rw [i1, if_neg (by omega), if_pos ⟨r1, by omega⟩]
     exact wr_in (by omega) (by omega)
    ·have same : (if (bw l b).1 ≠ IDn l b ∧ rt l b < ((k + 1 : Nat) : Int) then 1 else 0 : Int) = (if (bw l b).1 ≠ IDn l b ∧ rt l b < (k : Int) then 1 else 0) := by
      by_cases h0 : (bw l b).1 ≠ IDn l b
      ·obtain ⟨j, x, hj, e, e0⟩ := rol_rt hf h hp h0
       have : j ≠ k := fun q => by subst q; rw [hz] at hj; cases hj; exact hr e0
       by_cases hlt : rt l b < (k : Int)
       ·rw [if_pos (show (bw l b).1 ≠ IDn l b ∧ rt l b < ((k + 1 : Nat) : Int) from ⟨h0, by omega⟩), if_pos ⟨h0, hlt⟩]
       ·rw [if_neg (show ¬ ((bw l b).1 ≠ IDn l b ∧ rt l b < ((k + 1 : Nat) : Int)) from fun q => by omega), if_neg (fun q => hlt q.2)]
      ·rw [if_neg (fun q => h0 q.1), if_neg (fun q => h0 q.1)]
     rw [decide_eq_false hr]
     cases hu : z.Up with
     | true =>
      simp only [Bool.not_false, cond_true]
      exact ⟨_, rfl, by dsimp only; rw [same]; exact i1, nxtU _ rfl hu⟩
     | false =>
      simp only [Bool.not_false, cond_true, cond_false]
      exact ⟨_, rfl, by dsimp only; rw [same]; exact i1, nxtD hu⟩
   rw [k1, aft_some_nxt, gix_nat, hp, Option.bind_some]
   have erl : row.length = p.Ports.length := by rw [erow]; simp
   rw [erl] at k2 k3
   have hz := bw_zero hf h hb
   have hid := bw_id hf h hb
   rw [IDn_of hp] at hz hid k2
   have hle : (bw l b).1 ≤ p.ID := by unfold wle at hid; dsimp only at hid; omega
   have hups : s.2 = 0 → (bw l b).1 = p.ID := fun e0 => by
    rw [← IDn_of hp]
    refine no_ups hf h hp fun x hx => ?_
    obtain ⟨j, hj⟩ := List.mem_iff_getElem?.1 hx
    exact k3.2.2 e0 j x (List.getElem?_eq_some_iff.1 hj).1 hj
   have hcond : (bif (bif (bif (bif (decide ((bw l b).1 = p.ID)) then (bif (!decide (s.1 = 0)) then true else (!decide ((bw l b).2 = 0))) else false) then true else (bif (!(decide ((bw l b).1 = p.ID))) then (!decide (s.1 = 1)) else false)) then true else (decide (p.ID < (bw l b).1))) then true else (bif (decide (s.2 = 0)) then (!(decide ((bw l b).1 = p.ID))) else false)) = false := by
    rw [decide_eq_false (show ¬ p.ID < (bw l b).1 by omega)]
    by_cases h0 : (bw l b).1 = p.ID
    ·rw [if_neg (fun q => q.1 h0)] at k2
     rw [decide_eq_true h0, decide_eq_true k2, decide_eq_true (hz.2 h0)]
     cases decide (s.2 = 0) <;> rfl
    ·obtain ⟨j, x, hj, e, _⟩ := rol_rt hf h hp (by rw [IDn_of hp]; exact h0)
     have hjl := (List.getElem?_eq_some_iff.1 hj).1
     rw [if_pos ⟨h0, by omega⟩] at k2
     rw [decide_eq_false h0, decide_eq_true k2, decide_eq_false (fun e => h0 (hups e))]
     rfl
   rw [hcond]; rfl), all_tt]
  rfl
 ·rw [if_neg h]
  simp only [alive16, Option.bind_some]; rfl
end
section
set_option maxHeartbeats 1000000
theorem rjoins_eq (p : PlanT) (s : Int) (hp : p.Ports.length ≤ 1000) : ref16_joins p s = some (p.Ports.any fun y => y.Up && decide (y.Seg = s)) := by
 unfold ref16_joins
 rcases rangeL_find (s0 := ()) (body := ref16_joins_c0 s) (xs := p.Ports) (by omega) (fun _ y => y.Up && decide (y.Seg = s)) (fun _ _ => true) (fun k x hx => by
  unfold ref16_joins_c0
  cases x.Up <;> cases decide (x.Seg = s) <;> rfl) with ⟨k, x, hx, hp2, _, h⟩ | ⟨h0, h⟩
 ·rw [h, aft_some_ret, List.any_eq_true.2 ⟨x, List.mem_of_getElem? hx, hp2⟩]
 ·rw [h, aft_some_nxt, List.any_eq_false.2 fun x hx => by
   obtain ⟨k, hk⟩ := List.mem_iff_getElem?.1 hx
   rw [h0 k x hk]; exact Bool.false_ne_true]
abbrev BT := footwayref16_BT
def bk2 (a : BT) : Wt := (a.Root, a.Cost)
theorem rbetter_eq (a b : BT) : ref16_better a b = some (decide (¬ wle (bk2 b) (bk2 a))) := by
 unfold ref16_better wle bk2
 congr 1
 simp only [cond_eq_ite, decide_eq_true_eq, Bool.if_true_left, Bool.if_false_right, Bool.decide_or, Bool.decide_and]
 rw [Bool.eq_iff_iff]
 simp only [Bool.or_eq_true, Bool.and_eq_true, decide_eq_true_eq, Bool.decide_eq_true]
 omega
def con (p : PlanT) (k b : Nat) (x : LinkT) : Prop := k ≠ b ∧ x.Up = true ∧ ∃ y ∈ p.Ports, y.Up = true ∧ y.Seg = x.Seg
theorem near_eq {l : LanT} (hf : FewL l) (h : LR l) {all : List BT} (ha : all.length = l.Plans.length) {b : Nat} {q : PlanT} (hq : l.Plans[b]? = some q) (hc : ∀ (k : Nat) (v : BT), all[k]? = some v → 0 ≤ v.Cost ∧ v.Cost ≤ 100000) {v0 : BT} (hv0 : all[b]? = some v0) :
  ∃ w, ref16_near l all b = some w ∧ (w = v0 ∨ ∃ k v c, Ed l k b c ∧ all[k]? = some v ∧ bk2 w = wad (bk2 v) c) ∧ wle (bk2 w) (bk2 v0) ∧ ∀ k v c, Ed l k b c → all[k]? = some v → wle (bk2 w) (wad (bk2 v) c) := by
 have hn := hf.plans
 have hql := hf.ports q (List.mem_of_getElem? hq)
 unfold ref16_near
 rw [gix_nat, hv0, Option.bind_some, gix_nat, hq, Option.bind_some]
 obtain ⟨w, h1, h2, h3, h4⟩ := rangeL_inv (s0 := v0) (body := ref16_near_c0 l all b) (xs := q.Ports) (by omega)
  (fun i w => (w = v0 ∨ ∃ k v c, Ed l k b c ∧ all[k]? = some v ∧ bk2 w = wad (bk2 v) c) ∧ wle (bk2 w) (bk2 v0) ∧ ∀ j x k p v, j < i → q.Ports[j]? = some x → l.Plans[k]? = some p → all[k]? = some v → con p k b x → wle (bk2 w) (wad (bk2 v) x.Cost))
  ⟨.inl rfl, wle.refl _, fun j x k p v hj => absurd hj (Nat.not_lt_zero _)⟩ fun i x w0 hx ⟨i1, i2, i3⟩ => by
  have hxm := List.mem_of_getElem? hx
  have hok := ((h.planOk hq).2.2 x hxm).2
  obtain ⟨w, e1, e2, e3, e4, e5⟩ := rangeL_inv (s0 := w0) (body := ref16_near_c1 all b x) (xs := l.Plans) (by omega)
   (fun m w => (w = v0 ∨ ∃ k v c, Ed l k b c ∧ all[k]? = some v ∧ bk2 w = wad (bk2 v) c) ∧ wle (bk2 w) (bk2 w0) ∧ wle (bk2 w) (bk2 v0) ∧ ∀ k p v, k < m → l.Plans[k]? = some p → all[k]? = some v → con p k b x → wle (bk2 w) (wad (bk2 v) x.Cost))
   ⟨i1, wle.refl _, i2, fun k p v hk => absurd hk (Nat.not_lt_zero _)⟩ fun k p w hp ⟨j1, j2, j3, j4⟩ => by
   have hkl := (List.getElem?_eq_some_iff.1 hp).1
   have hpl := hf.ports p (List.mem_of_getElem? hp)
   obtain ⟨v, hv⟩ : ∃ v, all[k]? = some v := ⟨_, List.getElem?_eq_getElem (by omega)⟩
   have hcv := hc k v hv
   have keep : ∀ (P : ¬ con p k b x ∨ wle (bk2 w) (wad (bk2 v) x.Cost)), ∀ k' p' v', k' < k + 1 → l.Plans[k']? = some p' → all[k']? = some v' → con p' k' b x → wle (bk2 w) (wad (bk2 v') x.Cost) := fun P k' p' v' hk' hp' hv' hcn => by
    by_cases e : k' = k
    ·subst e
     rw [hp] at hp'; cases hp'
     rw [hv] at hv'; cases hv'
     exact P.resolve_left fun q => q hcn
    ·exact j4 k' p' v' (by omega) hp' hv' hcn
   unfold ref16_near_c1
   rw [gix_nat, hv, Option.bind_some, rjoins_eq p x.Seg (by omega), wr_in (by omega) (by omega), rbetter_eq]
   by_cases c1 : (k : Int) = (b : Int)
   ·rw [decide_eq_true c1]
    exact ⟨w, rfl, j1, j2, j3, keep (.inl fun q => q.1 (by omega))⟩
   ·rw [decide_eq_false c1]
    cases c2 : x.Up with
    | false => exact ⟨w, rfl, j1, j2, j3, keep (.inl fun q => by rw [q.2.1] at c2; cases c2)⟩
    | true =>
     simp only [Bool.not_false, cond_true, gd_true, Option.bind_some]
     cases c3 : (p.Ports.any fun y => y.Up && decide (y.Seg = x.Seg)) with
     | false =>
      refine ⟨w, rfl, j1, j2, j3, keep (.inl fun q => ?_)⟩
      obtain ⟨y, hy, y1, y2⟩ := q.2.2
      have := List.any_eq_false.1 c3 y hy
      simp [y1, y2] at this
     | true =>
      obtain ⟨y, hy, hy2⟩ := List.any_eq_true.1 c3
      simp only [Bool.and_eq_true, decide_eq_true_eq] at hy2
      simp only [cond_true, gd_true, Option.bind_some]
      have hEd : Ed l k b x.Cost := ⟨by omega, p, q, y, x, hp, hq, hy, hxm, hy2.1, c2, hy2.2, rfl⟩
      by_cases c4 : wle (bk2 w) (bk2 ⟨v.Root, v.Cost + x.Cost⟩)
      ·refine ⟨w, by simp [c4], j1, j2, j3, keep (.inr c4)⟩
      ·have c5 : wle (wad (bk2 v) x.Cost) (bk2 w) := wle.not c4
       refine ⟨⟨v.Root, v.Cost + x.Cost⟩, by simp [c4], .inr ⟨k, v, x.Cost, hEd, hv, rfl⟩, c5.trans j2, c5.trans j3, fun k' p' v' hk' hp' hv' hcn => ?_⟩
       by_cases e : k' = k
       ·subst e
        rw [hv] at hv'; cases hv'
        exact wle.refl _
       ·exact c5.trans (j4 k' p' v' (by omega) hp' hv' hcn)
  unfold ref16_near_c0
  rw [e1]
  refine ⟨w, rfl, e2, e4, fun j y k p v hj hy hp hv hcn => ?_⟩
  by_cases e : j = i
  ·subst e
   rw [hx] at hy; cases hy
   exact e5 k p v (List.getElem?_eq_some_iff.1 hp).1 hp hv hcn
  ·exact e3.trans (i3 j y k p v (by omega) hy hp hv hcn)
 rw [h1]
 refine ⟨w, rfl, h2, h3, fun k v c he hv => ?_⟩
 obtain ⟨hne, p, q', y, x, hp, hq', hy, hx, y1, x1, hs, rfl⟩ := he
 rw [hq] at hq'; cases hq'
 obtain ⟨j, hj⟩ := List.mem_iff_getElem?.1 hx
 exact h4 j x k p v (List.getElem?_eq_some_iff.1 hj).1 hj hp hv ⟨hne, x1, y, hy, y1, hs⟩
def Rnd (l : LanT) (j : Nat) (all : List BT) : Prop := all.length = l.Plans.length ∧ ∀ b v, all[b]? = some v → PW (IDn l) (Ed l) j b (bk2 v) ∧ ∀ u, PW (IDn l) (Ed l) j b u → wle (bk2 v) u
theorem Rnd.next {l : LanT} (hf : FewL l) (h : LR l) {j : Nat} {all : List BT} (hj : j ≤ 50) (hr : Rnd l j all) : ∃ s, rangeL (ρ := Step (List BT) (List BT)) (ref16_Bests_c2 l all) l.Plans [] = some (.nxt s) ∧ Rnd l (j + 1) s := by
 have hn := hf.plans
 obtain ⟨s, h1, h2, h3⟩ := rangeL_inv (s0 := ([] : List BT)) (body := ref16_Bests_c2 l all) (xs := l.Plans) (by omega)
  (fun i s => s.length = i ∧ ∀ b v, s[b]? = some v → PW (IDn l) (Ed l) (j + 1) b (bk2 v) ∧ ∀ u, PW (IDn l) (Ed l) (j + 1) b u → wle (bk2 v) u) ⟨rfl, fun b v hv => by simp at hv⟩ fun i q s hq ⟨i1, i2⟩ => by
  have hil := (List.getElem?_eq_some_iff.1 hq).1
  obtain ⟨v0, hv0⟩ : ∃ v, all[i]? = some v := ⟨_, List.getElem?_eq_getElem (by rw [hr.1]; exact hil)⟩
  obtain ⟨w, e1, e2, e3, e4⟩ := near_eq hf h hr.1 hq (fun k v hv => by
   have := ((hr.2 k v hv).1).bnd h
   unfold bk2 at this; dsimp only at this; omega) hv0
  unfold ref16_Bests_c2
  rw [e1, Option.bind_some, grd_true (fits_of (by simp; omega) (by decide))]
  refine ⟨_, rfl, by simp; omega, fun b v hv => ?_⟩
  by_cases hb : b < s.length
  ·rw [List.getElem?_append_left hb] at hv; exact i2 b v hv
  ·have hbi : b = i := by
    have := (List.getElem?_eq_some_iff.1 hv).1
    simp at this; omega
   subst hbi
   rw [List.getElem?_append_right (by omega)] at hv
   have hvw : v = w := by rw [i1, Nat.sub_self] at hv; exact (Option.some.inj hv).symm
   subst hvw
   refine ⟨?_, fun u hu => ?_⟩
   ·rcases e2 with e | ⟨k, v', c, he, hv', e⟩
    ·rw [e]; exact (hr.2 _ _ hv0).1.mono (by omega)
    ·rw [e]; exact .step (hr.2 k v' hv').1 he
   ·cases hu with
    | base => exact e3.trans ((hr.2 _ _ hv0).2 _ (.base _ _))
    | step p e =>
     rename_i k w' c
     obtain ⟨v', hv'⟩ : ∃ v, all[k]? = some v := ⟨_, List.getElem?_eq_getElem (by rw [hr.1]; exact (e.rng h).1.1)⟩
     exact (e4 k v' c e hv').trans (wle.add _ ((hr.2 k v' hv').2 _ p))
 exact ⟨s, h1, h2, h3⟩
def bstR (l : LanT) : List BT := (List.range l.Plans.length).map fun b => ⟨(bw l b).1, (bw l b).2⟩
theorem bstR_get {l : LanT} {b : Nat} (hb : b < l.Plans.length) : (bstR l)[b]? = some ⟨(bw l b).1, (bw l b).2⟩ := by
 unfold bstR; rw [List.getElem?_map, List.getElem?_range hb]; rfl
theorem refBests_eq {l : LanT} (hf : FewL l) (h : LR l) : ref16_Bests l = some (bstR l) := by
 have hn := hf.plans
 unfold ref16_Bests
 rw [rangeL_map (f := fun p : PlanT => (⟨p.ID, 0⟩ : BT)) (by omega) (fun k p s hp hs => by
  have hk := (List.getElem?_eq_some_iff.1 hp).1
  unfold ref16_Bests_c0
  rw [grd_true (fits_of (by simp; omega) (by decide))]), aft_some_nxt]
 have r0 : Rnd l 0 (l.Plans.map fun p : PlanT => (⟨p.ID, 0⟩ : BT)) := ⟨by simp, fun b v hv => by
  rw [List.getElem?_map] at hv
  obtain ⟨p, hp, rfl⟩ := Option.map_eq_some_iff.1 hv
  have e : bk2 ⟨p.ID, 0⟩ = (IDn l b, 0) := by unfold bk2; rw [IDn_of hp]
  rw [e]
  exact ⟨.base _ _, fun u hu => by cases hu; exact wle.refl _⟩⟩
 obtain ⟨s, h1, h2⟩ := rangeL_inv (s0 := l.Plans.map fun p : PlanT => (⟨p.ID, 0⟩ : BT)) (body := ref16_Bests_c1 l) (xs := l.Plans) (by omega) (fun j s => Rnd l j s) r0 fun j x s hj hr => by
  have hjl := (List.getElem?_eq_some_iff.1 hj).1
  obtain ⟨s', e1, e2⟩ := hr.next hf h (by omega)
  unfold ref16_Bests_c1
  rw [e1]
  exact ⟨s', rfl, e2⟩
 rw [h1, aft_some_nxt]
 congr 1
 refine List.ext_getElem? fun b => ?_
 by_cases hb : b < l.Plans.length
 ·obtain ⟨v, hv⟩ : ∃ v, s[b]? = some v := ⟨_, List.getElem?_eq_getElem (by rw [h2.1]; exact hb)⟩
  rw [bstR_get hb, hv]
  congr 1
  obtain ⟨p1, p2⟩ := h2.2 b _ hv
  obtain ⟨q1, q2⟩ := (bst_eq hf h).2.2 b hb
  have := wle.anti (p2 _ (q1.mono (by omega))) (q2 _ _ p1)
  unfold bk2 at this
  have e1 := congrArg Prod.fst this
  have e2 := congrArg Prod.snd this
  dsimp only at e1 e2
  cases v
  dsimp only at e1 e2
  rw [e1, e2]
 ·rw [List.getElem?_eq_none (by rw [h2.1]; omega), List.getElem?_eq_none (by unfold bstR; simp; omega)]
theorem rtold_eq {l : LanT} {b : Nat} (hb : b < l.Plans.length) (k : Int) : ref16_told l (bstR l) (b : Int) k = some (tol l ⟨(b : Int), k⟩) := by
 unfold ref16_told tol IDn
 rw [gix_nat, bstR_get hb, Option.bind_some, gix_nat, List.getElem?_eq_getElem hb, Option.bind_some]
 dsimp only
 rw [Int.toNat_natCast, List.getElem?_eq_getElem hb]; rfl
theorem rPorts_eq {l : LanT} (hf : FewL l) (s : Int) : ref15_Ports l s = some (portsOn l s) := by
 unfold ref15_Ports
 rw [portsLoop (s := s) hf.plans hf.ports (fun k p t hp ht => by
  unfold ref15_Ports_c0
  rw [portLoop (s := s) (k := k) (hf.ports p hp) ht (fun j x u hu => by
   unfold ref15_Ports_c1
   rw [grd_true (fits_of (by simp; omega) (by decide))]
   cases (bif x.Up then decide (x.Seg = s) else false) <;> rfl), aft_some_nxt]), aft_some_nxt]
 rfl
theorem rBetter_eq (a b : VecT) : ref04_Better a b = some (decide (vlt a b)) := by
 unfold ref04_Better vlt
 by_cases h1 : a.Root = b.Root
 ·by_cases h2 : a.Cost = b.Cost
  ·by_cases h3 : a.Bridge = b.Bridge
   ·simp [h1, h2, h3]
   ·simp [h1, h2, h3]
  ·simp [h1, h2]
 ·simp [h1]
theorem rown_eq {l : LanT} (hf : FewL l) (h : LR l) {s : Int} (hs : 0 ≤ s ∧ s < l.Segs) : ref16_own l (bstR l) s = some ((ownS l s).getD ⟨0, 0⟩, (ownS l s).isSome) := by
 have hn := portsOn_len hf s
 unfold ref16_own
 rw [rPorts_eq hf, Option.bind_some]
 generalize hP : portsOn l s = P at *
 have told : ∀ q ∈ P, ref16_told l (bstR l) q.c0 q.c1 = some (tol l q) := fun q hq => by
  rw [← hP] at hq
  obtain ⟨b, j, _, _, rfl, hb, _⟩ := on_ok h hq
  exact rtold_eq hb _
 obtain ⟨o, h1, h2⟩ := rangeN_rec (n := ((P.length : Nat) : Int)) (s0 := (false, (⟨0, 0⟩ : A2_Int))) (body := ref16_own_c0 l (bstR l) P) (by omega)
  (fun k st => (k = 0 ∧ st = (false, ⟨0, 0⟩)) ∨ (0 < k ∧ ∃ q ∈ P, st = (true, q) ∧ ∀ j p, j < k → P[j]? = some p → ¬ vlt (tol l p) (tol l q))) (fun _ => False) (fun _ => False) (.inl ⟨rfl, rfl⟩) fun k st hk hI => by
  have hkl : k < P.length := by omega
  obtain ⟨p, hp⟩ : ∃ p, P[k]? = some p := ⟨_, List.getElem?_eq_getElem hkl⟩
  have hpm := List.mem_of_getElem? hp
  have hg : gixN P k = some p := hp
  unfold ref16_own_c0
  rw [grd_true ⟨by omega, by omega⟩, Int.toNat_natCast, hg, Option.bind_some]
  rcases hI with ⟨rfl, rfl⟩ | ⟨hk0, q, hq, rfl, hmin⟩
  ·refine ⟨_, rfl, .inr ⟨by omega, p, hpm, rfl, fun j p' hj hp' => ?_⟩⟩
   have : j = 0 := by omega
   subst this
   rw [hp] at hp'; cases hp'; exact vlt.irr
  ·rw [told p hpm]
   simp only [Bool.not_true, Bool.not_false, gd_true, Option.bind_some, cond_false]
   rw [told q hq, Option.bind_some, rBetter_eq, Option.bind_some]
   by_cases hv : vlt (tol l p) (tol l q)
   ·rw [decide_eq_true hv]
    refine ⟨_, rfl, .inr ⟨by omega, p, hpm, rfl, fun j p' hj hp' => ?_⟩⟩
    by_cases e : j = k
    ·subst e; rw [hp] at hp'; cases hp'; exact vlt.irr
    ·intro e2; exact hmin j p' (by omega) hp' (e2.trans hv)
   ·rw [decide_eq_false hv]
    refine ⟨_, rfl, .inr ⟨by omega, q, hq, rfl, fun j p' hj hp' => ?_⟩⟩
    by_cases e : j = k
    ·subst e; rw [hp] at hp'; cases hp'; exact hv
    ·exact hmin j p' (by omega) hp'
 rw [h1]
 cases o with
 | ret r => exact h2.elim
 | brk s => exact h2.elim
 | nxt st =>
  have h2 := h2.resolve_right id
  rw [aft_some_nxt]
  rw [Int.toNat_natCast] at h2
  rcases h2 with ⟨h0, rfl⟩ | ⟨h0, q, hq, rfl, hmin⟩
  ·have : ownS l s = none := (own_none hf h hs).2 (by rw [hP]; exact List.eq_nil_of_length_eq_zero h0)
   rw [this]; rfl
  ·cases ho : ownS l s with
   | none =>
    have := (own_none hf h hs).1 ho
    rw [hP] at this; rw [this] at hq; cases hq
   | some o =>
    obtain ⟨o1, o2⟩ := own_some hf h hs ho
    rw [hP] at o1 o2
    rcases o2 q hq with e | e
    ·rw [e]; rfl
    ·obtain ⟨j, hj⟩ := List.mem_iff_getElem?.1 o1
     exact absurd e (hmin j o (List.getElem?_eq_some_iff.1 hj).1 hj)
end
section
set_option maxHeartbeats 1000000
def Fst (C : List (Int × VecT)) (k : Int) (v : VecT) : Prop := ∃ i : Nat, C[i]? = some (k, v) ∧ (∀ e ∈ C, ¬ vlt e.2 v) ∧ ∀ (j : Nat) e, j < i → C[j]? = some e → vlt v e.2
theorem Fst.uniq {C : List (Int × VecT)} {k k' : Int} {v v' : VecT} (h : Fst C k v) (g : Fst C k' v') : k = k' := by
 obtain ⟨i, h1, h2, h3⟩ := h
 obtain ⟨i', g1, g2, g3⟩ := g
 have : i = i' := by
  rcases Nat.lt_trichotomy i i' with e | e | e
  ·exact absurd (g3 i _ e h1) (h2 _ (List.mem_of_getElem? g1))
  ·exact e
  ·exact absurd (h3 i' _ e g1) (g2 _ (List.mem_of_getElem? h1))
 subst this
 rw [h1] at g1; exact congrArg Prod.fst (Option.some.inj g1)
theorem Fst.app {C : List (Int × VecT)} {k k' : Int} {v v' : VecT} (h : Fst C k v) : Fst (C ++ [(k', v')]) (if vlt v' v then k' else k) (if vlt v' v then v' else v) := by
 obtain ⟨i, h1, h2, h3⟩ := h
 have hi := (List.getElem?_eq_some_iff.1 h1).1
 by_cases hv : vlt v' v
 ·rw [if_pos hv, if_pos hv]
  refine ⟨C.length, by simp, fun e he => ?_, fun j e hj he => ?_⟩
  ·rcases List.mem_append.1 he with he | he
   ·intro q; exact h2 e he (q.trans hv)
   ·rw [List.mem_singleton.1 he]; exact vlt.irr
  ·rw [List.getElem?_append_left hj] at he
   have := h2 e (List.mem_of_getElem? he)
   unfold vlt at *; omega
 ·rw [if_neg hv, if_neg hv]
  refine ⟨i, by rw [List.getElem?_append_left hi]; exact h1, fun e he => ?_, fun j e hj he => ?_⟩
  ·rcases List.mem_append.1 he with he | he
   ·exact h2 e he
   ·rw [List.mem_singleton.1 he]; exact hv
  ·rw [List.getElem?_append_left (by omega)] at he; exact h3 j e hj he
theorem rFar_eq {v : VecT} {c : Int} (h1 : 0 ≤ v.Cost ∧ v.Cost ≤ 100000) (h2 : 0 ≤ c ∧ c ≤ 100000) : ref04_Far v c = some ⟨v.Root, v.Cost + c, v.Bridge, v.Port⟩ := by
 unfold ref04_Far
 rw [wr_in (by omega) (by omega)]
 have : mn (v.Cost + c) 2147483647 = v.Cost + c := by unfold mn; split <;> omega
 rw [this]
theorem rroot_eq {l : LanT} (hf : FewL l) (h : LR l) {b : Nat} {p : PlanT} (hp : l.Plans[b]? = some p) : ref16_root l (bstR l) (b : Int) = some (rt l b) := by
 have hb := (List.getElem?_eq_some_iff.1 hp).1
 have hpl := hf.ports p (List.mem_of_getElem? hp)
 unfold ref16_root
 rw [gix_nat, hp, Option.bind_some]
 obtain ⟨s, h1, h2⟩ := rangeL_inv (s0 := ((-1 : Int), (⟨0, 0, 0, 0⟩ : VecT))) (body := ref16_root_c0 l (bstR l) (b : Int)) (xs := p.Ports) (by omega)
  (fun k s => (cnds l b (p.Ports.take k) = [] ∧ s.1 = -1) ∨ (0 ≤ s.1 ∧ Fst (cnds l b (p.Ports.take k)) s.1 s.2)) (.inl ⟨rfl, rfl⟩) fun k x s hk hI => by
  have hlt := (List.getElem?_eq_some_iff.1 hk).1
  have hx := List.mem_of_getElem? hk
  have hok := (h.planOk hp).2.2 x hx
  have hxc := hok.2
  have hstep : cnds l b (p.Ports.take (k + 1)) = cnds l b (p.Ports.take k) ++ ((cnd l b x).map fun v => ((k : Int), v)).toList := by
   unfold cnds
   rw [List.take_add_one, hk, Option.toList, List.zipIdx_append, List.filterMap_append, List.length_take, Nat.min_eq_left (by omega)]
   congr 1
   simp only [List.zipIdx_cons, List.zipIdx_nil, List.filterMap_cons, List.filterMap_nil, Nat.zero_add]
   cases cnd l b x <;> rfl
  rw [hstep]
  unfold ref16_root_c0
  rw [rown_eq hf h hok.1, Option.bind_some]
  have stay : cnd l b x = none → ((cnds l b (p.Ports.take k) ++ ((cnd l b x).map fun v => ((k : Int), v)).toList = [] ∧ s.1 = -1) ∨ (0 ≤ s.1 ∧ Fst (cnds l b (p.Ports.take k) ++ ((cnd l b x).map fun v => ((k : Int), v)).toList) s.1 s.2)) := fun e => by
   rw [e]; simpa using hI
  cases hu : x.Up with
  | false =>
   refine ⟨_, rfl, stay ?_⟩
   unfold cnd
   split
   ·rw [if_neg fun q => by rw [hu] at q; cases q.1]
   ·rfl
  | true =>
   obtain ⟨q, hq⟩ := own_up hf h hp hk hu
   obtain ⟨c, j, _, _, rfl, hc', hj, _⟩ := on_ok h (own_some hf h hok.1 hq).1
   have hcb := bw_bnd hf h hc'
   rw [hq]
   simp only [Option.getD_some, Bool.not_true, cond_false]
   by_cases hcb' : (c : Int) = (b : Int)
   ·rw [decide_eq_true hcb']
    refine ⟨_, rfl, stay ?_⟩
    unfold cnd; rw [hq]; dsimp only; rw [if_neg fun q => q.2.1 hcb']
   ·rw [decide_eq_false hcb', cond_false, rtold_eq hc', Option.bind_some]
    have hco : (tol l ⟨(c : Int), (j : Int)⟩).Cost = (bw l c).2 := by unfold tol; dsimp only; rw [Int.toNat_natCast]
    rw [rFar_eq (by omega) (by omega), Option.bind_some, gix_nat, bstR_get hb, Option.bind_some]
    dsimp only
    by_cases hg : (tol l ⟨(c : Int), (j : Int)⟩).Root = (bw l b).1 ∧ (tol l ⟨(c : Int), (j : Int)⟩).Cost + x.Cost = (bw l b).2
    ·rw [decide_eq_true hg.1, decide_eq_true hg.2]
     have hcnd : cnd l b x = some ⟨(tol l ⟨(c : Int), (j : Int)⟩).Root, (tol l ⟨(c : Int), (j : Int)⟩).Cost + x.Cost, (tol l ⟨(c : Int), (j : Int)⟩).Bridge, (tol l ⟨(c : Int), (j : Int)⟩).Port⟩ := by
      unfold cnd; rw [hq]; dsimp only; rw [if_pos ⟨hu, hcb', hg⟩]
     rw [hcnd]
     generalize (⟨(tol l ⟨(c : Int), (j : Int)⟩).Root, (tol l ⟨(c : Int), (j : Int)⟩).Cost + x.Cost, (tol l ⟨(c : Int), (j : Int)⟩).Bridge, (tol l ⟨(c : Int), (j : Int)⟩).Port⟩ : VecT) = v
     simp only [cond_true, Option.map_some, Option.toList_some]
     rw [rBetter_eq]
     rcases hI with ⟨e0, e1⟩ | ⟨e0, e1⟩
     ·rw [e1, decide_eq_true (show (-1 : Int) < 0 by decide)]
      refine ⟨_, rfl, .inr ⟨by dsimp only; omega, ?_⟩⟩
      rw [e0]
      refine ⟨0, rfl, fun e he => ?_, fun j e hj => absurd hj (Nat.not_lt_zero _)⟩
      rw [List.mem_singleton.1 he]; exact vlt.irr
     ·rw [decide_eq_false (show ¬ s.1 < 0 by omega)]
      simp only [Bool.not_false, gd_true, Option.bind_some, cond_false]
      have ha := e1.app (k' := (k : Int)) (v' := v)
      by_cases hv : vlt v s.2
      ·rw [if_pos hv, if_pos hv] at ha
       rw [decide_eq_true hv]
       exact ⟨_, rfl, .inr ⟨by dsimp only; omega, ha⟩⟩
      ·rw [if_neg hv, if_neg hv] at ha
       rw [decide_eq_false hv]
       exact ⟨_, rfl, .inr ⟨e0, ha⟩⟩
    ·have hcnd : cnd l b x = none := by
      unfold cnd; rw [hq]; dsimp only; rw [if_neg fun q => hg q.2.2]
     have hfl : (bif decide ((tol l ⟨(c : Int), (j : Int)⟩).Root = (bw l b).1) then decide ((tol l ⟨(c : Int), (j : Int)⟩).Cost + x.Cost = (bw l b).2) else false) = false := by
      rw [Bool.eq_false_iff]; intro e
      by_cases e1 : (tol l ⟨(c : Int), (j : Int)⟩).Root = (bw l b).1
      ·rw [decide_eq_true e1, cond_true] at e; exact hg ⟨e1, of_decide_eq_true e⟩
      ·rw [decide_eq_false e1] at e; cases e
     rw [hfl]
     exact ⟨_, rfl, stay hcnd⟩
 rw [h1, aft_some_nxt, gix_nat, bstR_get hb, Option.bind_some, Option.bind_some]
 rw [List.take_length] at h2
 dsimp only
 rw [← IDn_of hp]
 have hrt := (rt_eq hf h hp).1
 rcases root_ex hf h hp with ⟨e0, e⟩ | ⟨e0, ⟨e1, e⟩ | ⟨i, k, v, hk, e, e2, e3⟩⟩
 ·rw [e] at hrt
  rw [decide_eq_true e0, cond_true]; exact hrt
 ·exact absurd e1 (cnds_ne hf h hp e0)
 ·rw [e] at hrt
  rw [decide_eq_false e0, cond_false]
  rcases h2 with ⟨q0, _⟩ | ⟨_, q⟩
  ·rw [q0] at hk; simp at hk
  ·have : s.1 = k := q.uniq ⟨i, hk, e2, e3⟩
   rw [this, Option.some.inj hrt]
theorem rrole_eq {l : LanT} (hf : FewL l) (h : LR l) {b k : Nat} {p : PlanT} {x : LinkT} (hp : l.Plans[b]? = some p) (hx : p.Ports[k]? = some x) : ref16_role l (bstR l) (b : Int) (k : Int) = some (rol l b k x) := by
 have hok := (h.planOk hp).2.2 x (List.mem_of_getElem? hx)
 unfold ref16_role rol
 rw [gix_nat, hp, Option.bind_some, gix_nat, hx, Option.bind_some]
 cases hu : x.Up with
 | false => rfl
 | true =>
  obtain ⟨q, hq⟩ := own_up hf h hp hx hu
  rw [if_neg (by simp), Bool.not_true, cond_false, rown_eq hf h hok.1, Option.bind_some, hq]
  simp only [Option.getD_some, Option.some.injEq]
  by_cases hc : q = ⟨(b : Int), (k : Int)⟩
  ·subst hc
   rw [if_pos rfl]; simp
  ·have : (bif decide (q.c0 = (b : Int)) then decide (q.c1 = (k : Int)) else false) = false := by
    rw [Bool.eq_false_iff]; intro e
    by_cases e1 : q.c0 = (b : Int)
    ·rw [decide_eq_true e1, cond_true] at e
     exact hc (by cases q; dsimp only at e1 e; rw [e1, of_decide_eq_true e])
    ·rw [decide_eq_false e1] at e; cases e
   rw [this, if_neg hc, cond_false, rroot_eq hf h hp, Option.bind_some]
   by_cases hr : (k : Int) = rt l b
   ·rw [decide_eq_true hr, if_pos hr]; rfl
   ·rw [decide_eq_false hr, if_neg hr]; rfl
theorem rRoles_eq {l : LanT} (hf : FewL l) (h : LR l) : ref16_Roles l = some (rols l) := by
 have hn := hf.plans
 unfold ref16_Roles
 rw [refBests_eq hf h, Option.bind_some]
 rw [rangeL_mapIdx (by omega) (fun p b => p.Ports.zipIdx.map fun x => rol l b x.2 x.1) (fun b p s hp hs => by
  have hb := (List.getElem?_eq_some_iff.1 hp).1
  have hpl := hf.ports p (List.mem_of_getElem? hp)
  unfold ref16_Roles_c0
  rw [rangeL_mapIdx (by omega) (fun x k => rol l b k x) (fun k x t hx ht => by
   have hkl := (List.getElem?_eq_some_iff.1 hx).1
   unfold ref16_Roles_c1
   rw [rrole_eq hf h hp hx, Option.bind_some, grd_true (fits_of (by simp; omega) (by decide))]), aft_some_nxt, grd_true (fits_of (by simp; omega) (by decide))]), aft_some_nxt]
 rfl
theorem rSame_self (r : List (List Int)) (h1 : r.length ≤ 1000) (h2 : ∀ x ∈ r, x.length ≤ 1000) : ref16_Same r r = some true := by
 unfold ref16_Same
 rw [decide_eq_true rfl, Bool.not_true, cond_false, rangeL_all (by omega) (fun _ => true) false (fun k x hx => by
  have hxl := h2 x (List.mem_of_getElem? hx)
  unfold ref16_Same_c0
  rw [gix_nat, hx, Option.bind_some, decide_eq_true rfl, Bool.not_true, cond_false, rangeL_all (by omega) (fun _ => true) (Step.ret false) (fun j y hy => by
   unfold ref16_Same_c1
   rw [gix_nat, hx, Option.bind_some, gix_nat, hy, Option.bind_some, decide_eq_true rfl]; rfl), all_tt]
  rfl), all_tt]
 rfl
theorem Open_eq (l : LanT) (hf : FewL l) : tree_Open l = some (if LR l then ((rols l).map fun row => row.map opB, 0) else ([], 1)) := by
 unfold tree_Open
 rw [Roles_eq l hf, Option.bind_some]
 by_cases h : LR l
 ·rw [if_pos h, if_pos h]
  dsimp only
  rw [decide_eq_true rfl, Bool.not_true, cond_false, grd_true]
  have hn := hf.plans
  refine ⟨by unfold rols; simp; omega, fun row hrow => ?_⟩
  obtain ⟨⟨p, b⟩, hpb, rfl⟩ := List.mem_map.1 hrow
  have hp := List.mem_of_getElem? (List.mem_zipIdx_iff_getElem?.1 hpb)
  have := (h.plan p hp).2.1
  constructor
  ·intro e
   have e2 : (p.Ports.zipIdx.map fun x => rol l b x.2 x.1).length = 0 := congrArg List.length e
   rw [List.length_map, List.length_zipIdx] at e2
   omega
  ·have e2 : (p.Ports.zipIdx.map fun x => rol l b x.2 x.1).length ≤ 1000 := by
    rw [List.length_map, List.length_zipIdx]
    have := hf.ports p hp
    omega
   exact e2
 ·rw [if_neg h, if_neg h]; rfl
theorem rOwn_eq {l : LanT} (hf : FewL l) (h : LR l) {s : Int} (hs : 0 ≤ s ∧ s < l.Segs) : ref16_Own l s = some ((ownS l s).getD ⟨0, 0⟩, (ownS l s).isSome) := by
 unfold ref16_Own
 rw [refBests_eq hf h, Option.bind_some, rown_eq hf h hs]; rfl
theorem rols_short {l : LanT} (hf : FewL l) : (rols l).length ≤ 1000 ∧ ∀ x ∈ rols l, x.length ≤ 1000 := by
 have hn := hf.plans
 refine ⟨by unfold rols; simp; omega, fun row hrow => ?_⟩
 obtain ⟨⟨p, b⟩, hpb, rfl⟩ := List.mem_map.1 hrow
 have hp := List.mem_of_getElem? (List.mem_zipIdx_iff_getElem?.1 hpb)
 have e2 : (p.Ports.zipIdx.map fun x => rol l b x.2 x.1).length ≤ 1000 := by
  rw [List.length_map, List.length_zipIdx]
  have := hf.ports p hp
  omega
 exact e2
theorem tells_loop {l : LanT} (hf : FewL l) : rangeL (law16_TreeTells_c0 ((rols l).map fun row => row.map opB, 0)) (rols l) () = some (.nxt ()) := by
 obtain ⟨h1, h2⟩ := rols_short hf
 rw [rangeL_all (by omega) (fun _ => true) false (fun k row hr => by
  have hrl := h2 row (List.mem_of_getElem? hr)
  have hg : ((rols l).map fun row => row.map opB)[k]? = some (row.map opB) := by rw [List.getElem?_map, hr]; rfl
  unfold law16_TreeTells_c0
  dsimp only
  rw [gix_nat, hg, Option.bind_some, List.length_map, decide_eq_true rfl, Bool.not_true, cond_false, rangeL_all (by omega) (fun _ => true) (Step.ret false) (fun j y hy => by
   unfold law16_TreeTells_c1
   dsimp only
   have hy2 : (row.map opB)[j]? = some (opB y) := by rw [List.getElem?_map, hy]; rfl
   rw [gix_nat, hg, Option.bind_some, gix_nat, hy2, Option.bind_some]
   have : (opB y == (bif (decide (y = 0)) then true else (decide (y = 1)))) = true := beq_self_eq_true _
   rw [this]; rfl), all_tt]
  rfl), all_tt]
 rfl
theorem TreeTells_true (a0 : LanT) (a1 a2 : Int) : law16_TreeTells a0 a1 a2 = some true := by
 unfold law16_TreeTells
 rw [few16_eq, Option.bind_some]
 have hf := fewL_few a0
 generalize fewL a0 = l at hf
 rw [Best_eq l hf, Option.bind_some, Roles_eq l hf, Option.bind_some, Own_eq l hf, Option.bind_some, Open_eq l hf, Option.bind_some, refRight_eq l hf, Option.bind_some]
 by_cases h : LR l
 ·rw [if_pos h, if_pos h, if_pos h, if_pos h, decide_eq_true h, Bool.not_true, cond_false, rRoles_eq hf h, Option.bind_some]
  obtain ⟨s1, s2⟩ := rols_short hf
  simp only [decide_true, Bool.not_true, Bool.cond_false, Bool.not_false, cond_true]
  rw [rSame_self _ s1 s2]
  simp only [Option.bind_some, List.length_map, decide_true, Bool.not_true, Bool.cond_false, Bool.not_false, gd_true, alive16]
  rw [tells_loop hf, aft_some_nxt]
  have hown : ∀ c : Bool, c = true → True := fun _ _ => trivial
  by_cases hs : 0 ≤ a2 ∧ a2 < l.Segs
  ·rw [if_pos hs, decide_eq_false (show ¬ a2 < 0 by omega), decide_eq_false (show ¬ l.Segs ≤ a2 by omega), rOwn_eq hf h hs]
   by_cases hb : 0 ≤ a1 ∧ a1 < (l.Plans.length : Int)
   ·rw [if_pos hb, decide_eq_false (show ¬ a1 < 0 by omega), decide_eq_false (show ¬ ((l.Plans.length : Nat) : Int) ≤ a1 by omega), refBests_eq hf h]
    have hg : gixN (bstR l) a1.toNat = some ⟨(bw l a1.toNat).1, (bw l a1.toNat).2⟩ := bstR_get (by omega)
    simp only [Bool.cond_false, Option.bind_some]
    rw [grd_true ⟨hb.1, by unfold bstR; simp; omega⟩, hg]
    simp
   ·rw [if_neg hb]
    have : (bif decide (a1 < 0) then true else decide (((l.Plans.length : Nat) : Int) ≤ a1)) = true := by
     by_cases h0 : a1 < 0
     ·rw [decide_eq_true h0]; rfl
     ·rw [decide_eq_false h0, cond_false]; exact decide_eq_true (by omega)
    rw [this]
    simp
  ·rw [if_neg hs]
   have hsx : (bif decide (a2 < 0) then true else decide (l.Segs ≤ a2)) = true := by
    by_cases h0 : a2 < 0
    ·rw [decide_eq_true h0]; rfl
    ·rw [decide_eq_false h0, cond_false]; exact decide_eq_true (by omega)
   rw [hsx]
   by_cases hb : 0 ≤ a1 ∧ a1 < (l.Plans.length : Int)
   ·rw [if_pos hb, decide_eq_false (show ¬ a1 < 0 by omega), decide_eq_false (show ¬ ((l.Plans.length : Nat) : Int) ≤ a1 by omega), refBests_eq hf h]
    have hg : gixN (bstR l) a1.toNat = some ⟨(bw l a1.toNat).1, (bw l a1.toNat).2⟩ := bstR_get (by omega)
    simp only [Bool.cond_false, Option.bind_some]
    rw [grd_true ⟨hb.1, by unfold bstR; simp; omega⟩, hg]
    simp
   ·rw [if_neg hb]
    have : (bif decide (a1 < 0) then true else decide (((l.Plans.length : Nat) : Int) ≤ a1)) = true := by
     by_cases h0 : a1 < 0
     ·rw [decide_eq_true h0]; rfl
     ·rw [decide_eq_false h0, cond_false]; exact decide_eq_true (by omega)
    rw [this]
    simp
 ·rw [if_neg h, if_neg h, if_neg h, if_neg h, decide_eq_false h]
  simp [alive16]
end
end Go.RX
