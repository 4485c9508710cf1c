/- A segment's own port, a bridge's root port, and all roles, plainly. -/
import Derived.Test.YtljecfgfbebjiaaOX
set_option linter.unusedVariables false
set_option linter.unusedSimpArgs false
open Go Go.RX
namespace Go.RX
set_option maxHeartbeats 1000000
def VR (v : VecT) : Prop := (0 ≤ v.Root ∧ v.Root ≤ 65535) ∧ (0 ≤ v.Bridge ∧ v.Bridge ≤ 65535) ∧ (0 ≤ v.Cost ∧ v.Cost ≤ 2147483647) ∧ 0 ≤ v.Port ∧ v.Port ≤ 7
def vlt (a b : VecT) : Prop := a.Root < b.Root ∨ (a.Root = b.Root ∧ (a.Cost < b.Cost ∨ (a.Cost = b.Cost ∧ (a.Bridge < b.Bridge ∨ (a.Bridge = b.Bridge ∧ a.Port < b.Port)))))
instance (a b : VecT) : Decidable (vlt a b) := by unfold vlt; infer_instance
theorem vlt.trans {a b c : VecT} (h : vlt a b) (k : vlt b c) : vlt a c := by unfold vlt at *; omega
theorem vlt.irr {a : VecT} : ¬ vlt a a := by unfold vlt; omega
theorem vlt.le_trans {a b c : VecT} (h : ¬ vlt b a) (k : vlt b c ∨ ¬ vlt c b) : ¬ vlt c a := by unfold vlt at *; omega
theorem vlt.tri {a b : VecT} (h : ¬ vlt a b) (k : ¬ (a.Bridge = b.Bridge ∧ a.Port = b.Port)) : vlt b a := by unfold vlt at *; omega
theorem vin_eq (a n : Int) : vec_in a n = some (decide (0 ≤ a ∧ a ≤ n)) := by
  unfold vec_in
  by_cases h : 0 ≤ a <;> simp [h]
theorem gd_bool (g : Bool) (b : Bool) : gd g (some b) = some (bif g then b else false) := by cases g <;> rfl
theorem vRight_true {v : VecT} (h : VR v) : vec_Right v = some true := by
  unfold vec_Right
  simp only [vin_eq, Option.bind_some, gd_bool, decide_eq_true h.1, decide_eq_true h.2.1, decide_eq_true h.2.2.1, decide_eq_true h.2.2.2, cond_true]
theorem Or4 (a b c d : Int) : cmp_Or_int [a, b, c, d] = some (if a ≠ 0 then a else if b ≠ 0 then b else if c ≠ 0 then c else if d ≠ 0 then d else 0) := by
  unfold cmp_Or_int rangeL
  simp only [List.length_cons, List.length_nil]
  rw [if_pos (by decide)]
  have st : ∀ (k : Nat) (x : Int) (t : List Int), forR cmp_Or_int_c0 (x :: t) k () = if x ≠ 0 then some (.ret x) else forR cmp_Or_int_c0 t (k + 1) () := fun k x t => by
    simp only [forR, cmp_Or_int_c0]
    by_cases h : x = 0
    · simp [h]
    · simp [h]
  rw [st, st, st, st]
  by_cases h1 : a = 0
  · by_cases h2 : b = 0
    · by_cases h3 : c = 0
      · by_cases h4 : d = 0
        · simp [h1, h2, h3, h4, forR]
        · simp [h1, h2, h3, h4]
      · simp [h1, h2, h3]
    · simp [h1, h2]
  · simp [h1]
theorem ahead_eq {a b : VecT} (ha : VR a) (hb : VR b) : vec_ahead_vec_oneT ⟨a⟩ ⟨b⟩ = some (decide (vlt a b)) := by
  obtain ⟨a1, a2, a3, a4⟩ := ha
  obtain ⟨b1, b2, b3, b4⟩ := hb
  have w : ∀ x y : Int, 0 ≤ x → x ≤ 2147483647 → 0 ≤ y → y ≤ 2147483647 → IntKind.i64.wrap (x - y) = x - y := fun x y h1 h2 h3 h4 => w64_in (by omega) (by omega)
  unfold vec_ahead_vec_oneT _vec_one_rank
  dsimp only
  rw [w _ _ a1.1 (by omega) b1.1 (by omega), w _ _ a3.1 (by omega) b3.1 (by omega), w _ _ a2.1 (by omega) b2.1 (by omega), w _ _ a4.1 (by omega) b4.1 (by omega), Or4]
  by_cases h : a.Root = b.Root ∧ a.Cost = b.Cost ∧ a.Bridge = b.Bridge ∧ a.Port = b.Port
  · obtain ⟨h1, h2, h3, h4⟩ := h
    rw [decide_eq_true h1, decide_eq_true h2, decide_eq_true h3, decide_eq_true h4]
    simp only [Bool.and_true, cond_true, Option.bind_some]
    congr 1
    exact decide_eq_decide.2 (by unfold vlt; omega)
  · have : (((decide (a.Root = b.Root)) && ((decide (a.Cost = b.Cost)) && ((decide (a.Bridge = b.Bridge)) && ((decide (a.Port = b.Port)) && true)))) && true) = false := by
      rw [Bool.eq_false_iff]
      intro e
      simp only [Bool.and_eq_true, decide_eq_true_eq, and_true] at e
      exact h e
    rw [this, cond_false, Option.bind_some, Option.bind_some]
    congr 1
    refine decide_eq_decide.2 ?_
    unfold vlt
    split
    · omega
    · split
      · omega
      · split
        · omega
        · split <;> omega
/-- the first best one -/
theorem vBest_eq {l : List VecT} (hl : l.length ≤ 1000) (hr : ∀ v ∈ l, VR v) (h0 : l ≠ []) : ∃ (i : Nat) (v : VecT), vec_Best l = some ((i : Int), 0) ∧ l[i]? = some v ∧ (∀ w ∈ l, ¬ vlt w v) ∧ ∀ j w, j < i → l[j]? = some w → vlt v w := by
  have hall : vec_allRight l = some true := by
    unfold vec_allRight slices_ContainsFunc_Vec slices_IndexFunc_Vec
    rcases rangeL_find (s0 := ()) (body := slices_IndexFunc_Vec_c0 fun x0_ => vec_allRight_1 x0_) (xs := l) (by omega) (fun _ _ => false) (fun k _ => (k : Int)) (fun k x hx => by
      unfold slices_IndexFunc_Vec_c0 vec_allRight_1
      dsimp only
      rw [vRight_true (hr x (List.mem_of_getElem? hx))]; rfl) with ⟨k, x, _, hp, _⟩ | ⟨_, h⟩
    · cases hp
    · rw [h]; rfl
  have hn : 0 < l.length := List.length_pos_iff.2 h0
  obtain ⟨s, h1, h2⟩ := rangeL_inv (s0 := (0 : Int)) (body := vec_Best_c0 l) (xs := l) (by omega)
    (fun k s => ∃ (i : Nat) (v : VecT), s = (i : Int) ∧ l[i]? = some v ∧ (∀ j w, j < k → l[j]? = some w → ¬ vlt w v) ∧ ∀ j w, j < i → l[j]? = some w → vlt v w)
    ⟨0, l[0], rfl, List.getElem?_eq_getElem hn, fun j w hj => absurd hj (Nat.not_lt_zero _), fun j w hj => absurd hj (Nat.not_lt_zero _)⟩ fun k x s hk ⟨i, v, e, hv, q1, q2⟩ => by
    subst e
    unfold vec_Best_c0
    rw [gix_nat, hv, Option.bind_some, ahead_eq (hr x (List.mem_of_getElem? hk)) (hr v (List.mem_of_getElem? hv)), Option.bind_some]
    by_cases hc : vlt x v
    · rw [decide_eq_true hc]
      refine ⟨_, rfl, k, x, rfl, hk, fun j w hj hw => ?_, fun j w hj hw => ?_⟩
      · by_cases hjk : j = k
        · subst hjk; rw [hk] at hw; cases hw; exact vlt.irr
        · have := q1 j w (by omega) hw
          intro e; exact this (e.trans hc)
      · have := q1 j w hj hw
        unfold vlt at *; omega
    · rw [decide_eq_false hc]
      refine ⟨_, rfl, i, v, rfl, hv, fun j w hj hw => ?_, q2⟩
      by_cases hjk : j = k
      · subst hjk; rw [hk] at hw; cases hw; exact hc
      · exact q1 j w (by omega) hw
  obtain ⟨i, v, e, hv, q1, q2⟩ := h2
  refine ⟨i, v, ?_, hv, fun w hw => ?_, q2⟩
  · unfold vec_Best
    rw [hall, Option.bind_some, Bool.not_true, cond_false, decide_eq_false (show ¬ ((l.length : Nat) : Int) = 0 by omega), cond_false, h1, aft_some_nxt, e]
  · obtain ⟨j, hj⟩ := List.mem_iff_getElem?.1 hw
    exact q1 j w (List.getElem?_eq_some_iff.1 hj).1 hj
theorem vBest_nil : vec_Best [] = some (0, 4) := rfl
/-- what is told by a port -/
def tol (l : LanT) (q : A2_Int) : VecT := ⟨(bw l q.c0.toNat).1, (bw l q.c0.toNat).2, IDn l q.c0.toNat, q.c1⟩
theorem told_eq {l : LanT} (hf : FewL l) (h : LR l) {b : Nat} (hb : b < l.Plans.length) (k : Int) : tree_told l (bst l) ⟨(b : Int), k⟩ = some (tol l ⟨(b : Int), k⟩) := by
  unfold tree_told tol IDn
  dsimp only
  rw [gix_nat, bst_get hf h hb, Option.bind_some, gix_nat, List.getElem?_eq_getElem hb, Option.bind_some, Int.toNat_natCast, List.getElem?_eq_getElem hb]; rfl
theorem IDn_bnd {l : LanT} (h : LR l) {b : Nat} (hb : b < l.Plans.length) : 0 ≤ IDn l b ∧ IDn l b ≤ 65535 := by
  unfold IDn; rw [List.getElem?_eq_getElem hb]; exact (h.planOk (List.getElem?_eq_getElem hb)).1
theorem IDn_inj {l : LanT} (h : LR l) {b c : Nat} (hb : b < l.Plans.length) (hc : c < l.Plans.length) (e : IDn l b = IDn l c) : b = c := by
  unfold IDn at e
  rw [List.getElem?_eq_getElem hb, List.getElem?_eq_getElem hc] at e
  have hb' : b < (l.Plans.map (·.ID)).length := by rw [List.length_map]; exact hb
  have hc' : c < (l.Plans.map (·.ID)).length := by rw [List.length_map]; exact hc
  exact (List.getElem_inj (h₀ := hb') (h₁ := hc') h.ids).1 (by rw [List.getElem_map, List.getElem_map]; exact e)
theorem PWroot {l : LanT} {j b : Nat} {w : Wt} (hw : PW (IDn l) (Ed l) j b w) (hb : b < l.Plans.length) (h : LR l) : ∃ r, r < l.Plans.length ∧ w.1 = IDn l r := by
  induction hw with
  | base j b => exact ⟨b, hb, rfl⟩
  | step hp e ih => exact ih (e.rng h).1.1
theorem bw_rootId {l : LanT} (hf : FewL l) (h : LR l) {b : Nat} (hb : b < l.Plans.length) : ∃ r, r < l.Plans.length ∧ (bw l b).1 = IDn l r := PWroot ((bst_eq hf h).2.2 b hb).1 hb h
theorem tol_VR {l : LanT} (hf : FewL l) (h : LR l) {b k : Nat} (hb : b < l.Plans.length) (hk : k ≤ 7) : VR (tol l ⟨(b : Int), (k : Int)⟩) := by
  obtain ⟨r, hr, e⟩ := bw_rootId hf h hb
  have h1 := IDn_bnd h hr
  have h2 := IDn_bnd h hb
  have h3 := bw_bnd hf h hb
  unfold VR tol; dsimp only; rw [Int.toNat_natCast]; omega
theorem on_ok {l : LanT} (h : LR l) {s : Int} {q : A2_Int} (hq : q ∈ portsOn l s) : ∃ (b k : Nat) (p : PlanT) (x : LinkT), q = ⟨(b : Int), (k : Int)⟩ ∧ b < l.Plans.length ∧ k ≤ 7 ∧ l.Plans[b]? = some p ∧ p.Ports[k]? = some x ∧ x.Up = true ∧ x.Seg = s := by
  obtain ⟨b, k, p, x, rfl, hp, hx, h1, h2⟩ := mem_portsOn.1 hq
  have := (h.planOk hp).2.1
  have hk := (List.getElem?_eq_some_iff.1 hx).1
  exact ⟨b, k, p, x, rfl, (List.getElem?_eq_some_iff.1 hp).1, by omega, hp, hx, h1, h2⟩
def ownS (l : LanT) (s : Int) : Option A2_Int := match tree_own l (bst l) s with
  | some (q, true) => some q
  | _ => none
theorem own_ex {l : LanT} (hf : FewL l) (h : LR l) {s : Int} (hs : 0 ≤ s ∧ s < l.Segs) :
    (portsOn l s = [] ∧ tree_own l (bst l) s = some (⟨0, 0⟩, false)) ∨ ∃ q, q ∈ portsOn l s ∧ tree_own l (bst l) s = some (q, true) ∧ ∀ p ∈ portsOn l s, ¬ vlt (tol l p) (tol l q) := by
  have hn := portsOn_len hf s
  unfold tree_own
  rw [On_eq l hf, if_pos h, if_pos hs, Option.bind_some]
  dsimp only
  rw [rangeL_map (f := tol l) (by omega) (fun k q t hq hk => by
    obtain ⟨b, j, p, x, rfl, hb, _⟩ := on_ok h (List.mem_of_getElem? hq)
    have hlt := (List.getElem?_eq_some_iff.1 hq).1
    unfold tree_own_c0
    rw [told_eq hf h hb, Option.bind_some, grd_true (fits_of (by simp; omega) (by decide))]), aft_some_nxt]
  by_cases h0 : portsOn l s = []
  · rw [h0]; exact .inl ⟨rfl, rfl⟩
  · obtain ⟨i, v, e1, e2, e3, _⟩ := vBest_eq (l := (portsOn l s).map (tol l)) (by rw [List.length_map]; omega) (fun v hv => by
      obtain ⟨q, hq, rfl⟩ := List.mem_map.1 hv
      obtain ⟨b, j, p, x, rfl, hb, hj, _⟩ := on_ok h hq
      exact tol_VR hf h hb hj) (by simpa using h0)
    rw [e1, Option.bind_some]
    rw [List.getElem?_map] at e2
    obtain ⟨q, hq, rfl⟩ := Option.map_eq_some_iff.1 e2
    refine .inr ⟨q, List.mem_of_getElem? hq, ?_, fun p hp => e3 _ (List.mem_map_of_mem hp)⟩
    dsimp only
    rw [decide_eq_true rfl, Bool.not_true, cond_false, gix_nat, hq]; rfl
theorem tol_inj {l : LanT} (h : LR l) {s s' : Int} {p q : A2_Int} (hp : p ∈ portsOn l s) (hq : q ∈ portsOn l s') (e : (tol l p).Bridge = (tol l q).Bridge ∧ (tol l p).Port = (tol l q).Port) : p = q := by
  obtain ⟨b, j, _, _, rfl, hb, _⟩ := on_ok h hp
  obtain ⟨c, k, _, _, rfl, hc, _⟩ := on_ok h hq
  have e1 : IDn l b = IDn l c := by have := e.1; unfold tol at this; dsimp only at this; rwa [Int.toNat_natCast, Int.toNat_natCast] at this
  have e2 : (j : Int) = (k : Int) := e.2
  rw [IDn_inj h hb hc e1, e2]
theorem own_eq {l : LanT} (hf : FewL l) (h : LR l) {s : Int} (hs : 0 ≤ s ∧ s < l.Segs) : tree_own l (bst l) s = some ((ownS l s).getD ⟨0, 0⟩, (ownS l s).isSome) := by
  unfold ownS
  rcases own_ex hf h hs with ⟨_, e⟩ | ⟨q, _, e, _⟩ <;> rw [e] <;> rfl
theorem own_none {l : LanT} (hf : FewL l) (h : LR l) {s : Int} (hs : 0 ≤ s ∧ s < l.Segs) : ownS l s = none ↔ portsOn l s = [] := by
  unfold ownS
  rcases own_ex hf h hs with ⟨e0, e⟩ | ⟨q, hq, e, _⟩ <;> rw [e]
  · exact ⟨fun _ => e0, fun _ => rfl⟩
  · exact ⟨(fun k => nomatch k), fun k => by rw [k] at hq; cases hq⟩
theorem own_some {l : LanT} (hf : FewL l) (h : LR l) {s : Int} (hs : 0 ≤ s ∧ s < l.Segs) {q : A2_Int} (hq : ownS l s = some q) : q ∈ portsOn l s ∧ ∀ p ∈ portsOn l s, p = q ∨ vlt (tol l q) (tol l p) := by
  unfold ownS at hq
  rcases own_ex hf h hs with ⟨e0, e⟩ | ⟨q', hq', e, e2⟩ <;> rw [e] at hq
  · cases hq
  · cases hq
    refine ⟨hq', fun p hp => ?_⟩
    by_cases he : p = q
    · exact .inl he
    · exact .inr (vlt.tri (e2 p hp) fun k => he (tol_inj h hp hq' k))
/-- of a port that is up there is one that is its segment's own -/
theorem own_up {l : LanT} (hf : FewL l) (h : LR l) {b k : Nat} {p : PlanT} {x : LinkT} (hp : l.Plans[b]? = some p) (hx : p.Ports[k]? = some x) (hu : x.Up = true) : ∃ q, ownS l x.Seg = some q := by
  have hs := ((h.planOk hp).2.2 x (List.mem_of_getElem? hx)).1
  cases hq : ownS l x.Seg with
  | some q => exact ⟨q, rfl⟩
  | none =>
    have := (own_none hf h hs).1 hq
    have hm : (⟨(b : Int), (k : Int)⟩ : A2_Int) ∈ portsOn l x.Seg := mem_portsOn.2 ⟨b, k, p, x, rfl, hp, hx, hu, rfl⟩
    rw [this] at hm; cases hm
/-- a way by a port: who may be the root port, and what it is told by it -/
def cnd (l : LanT) (b : Nat) (x : LinkT) : Option VecT := match ownS l x.Seg with
  | some q => if x.Up = true ∧ q.c0 ≠ (b : Int) ∧ (tol l q).Root = (bw l b).1 ∧ (tol l q).Cost + x.Cost = (bw l b).2 then some ⟨(tol l q).Root, (tol l q).Cost + x.Cost, (tol l q).Bridge, (tol l q).Port⟩ else none
  | none => none
def cnds (l : LanT) (b : Nat) (xs : List LinkT) : List (Int × VecT) := xs.zipIdx.filterMap fun x => (cnd l b x.1).map fun v => ((x.2 : Int), v)
def rt (l : LanT) (b : Nat) : Int := (tree_root l (bst l) (b : Int)).getD (-1)
theorem cnds_len {l : LanT} {b : Nat} {xs : List LinkT} : (cnds l b xs).length ≤ xs.length := by
  unfold cnds
  refine Nat.le_trans (List.length_filterMap_le _ _) ?_
  rw [List.length_zipIdx]; exact Nat.le_refl _
theorem mem_cnds {l : LanT} {b : Nat} {xs : List LinkT} {k : Int} {v : VecT} : (k, v) ∈ cnds l b xs ↔ ∃ (j : Nat) (x : LinkT), k = (j : Int) ∧ xs[j]? = some x ∧ cnd l b x = some v := by
  unfold cnds
  simp only [List.mem_filterMap, Prod.exists, List.mem_zipIdx_iff_getElem?, Option.map_eq_some_iff, Prod.mk.injEq]
  constructor
  · rintro ⟨x, j, hx, w, hw, rfl, rfl⟩; exact ⟨j, x, rfl, hx, hw⟩
  · rintro ⟨j, x, rfl, hx, hw⟩; exact ⟨x, j, hx, v, hw, rfl, rfl⟩
theorem cnd_VR {l : LanT} (hf : FewL l) (h : LR l) {b : Nat} (hb : b < l.Plans.length) {x : LinkT} (hs : 0 ≤ x.Seg ∧ x.Seg < l.Segs) {v : VecT} (hv : cnd l b x = some v) : VR v := by
  unfold cnd at hv
  split at hv
  · rename_i q hq
    split at hv
    · rename_i hc
      cases hv
      obtain ⟨c, k, _, _, rfl, hc', hk, _⟩ := on_ok h (own_some hf h hs hq).1
      have h1 := tol_VR hf h hc' hk
      have h2 := bw_bnd hf h hb
      unfold VR at *; dsimp only; omega
    · cases hv
  · cases hv
theorem root_ex {l : LanT} (hf : FewL l) (h : LR l) {b : Nat} {p : PlanT} (hp : l.Plans[b]? = some p) :
    ((bw l b).1 = IDn l b ∧ tree_root l (bst l) (b : Int) = some (-1)) ∨ ((bw l b).1 ≠ IDn l b ∧
      ((cnds l b p.Ports = [] ∧ tree_root l (bst l) (b : Int) = some (-1)) ∨ ∃ (i : Nat) (k : Int) (v : VecT), (cnds l b p.Ports)[i]? = some (k, v) ∧ tree_root l (bst l) (b : Int) = some k ∧
        (∀ e ∈ cnds l b p.Ports, ¬ vlt e.2 v) ∧ ∀ j e, j < i → (cnds l b p.Ports)[j]? = some e → vlt v e.2)) := by
  have hb := (List.getElem?_eq_some_iff.1 hp).1
  have hpl := hf.ports p (List.mem_of_getElem? hp)
  unfold tree_root
  rw [gix_nat, bst_get hf h hb, Option.bind_some, gix_nat, hp, Option.bind_some]
  dsimp only
  rw [IDn_of hp]
  by_cases h0 : (bw l b).1 = p.ID
  · rw [decide_eq_true h0]; exact .inl ⟨h0, rfl⟩
  · rw [decide_eq_false h0, cond_false]
    refine .inr ⟨h0, ?_⟩
    obtain ⟨s, h1, h2⟩ := rangeL_inv (s0 := (([] : List Int), ([] : List VecT))) (body := tree_root_c0 l (bst l) (b : Int)) (xs := p.Ports) (by omega)
      (fun k s => s = ((cnds l b (p.Ports.take k)).map (·.1), (cnds l b (p.Ports.take k)).map (·.2))) rfl fun k x s hk hs => by
      subst hs
      have hlt := (List.getElem?_eq_some_iff.1 hk).1
      have hx := List.mem_of_getElem? hk
      have hok := (h.planOk hp).2.2 x hx
      have hxc := hok.2
      have hstep : cnds l b (p.Ports.take (k + 1)) = cnds l b (p.Ports.take k) ++ ((cnd l b x).map fun v => ((k : Int), v)).toList := by
        unfold cnds
        rw [List.take_add_one, hk, Option.toList, List.zipIdx_append, List.filterMap_append, List.length_take, Nat.min_eq_left (by omega)]
        congr 1
        simp only [List.zipIdx_cons, List.zipIdx_nil, List.filterMap_cons, List.filterMap_nil, Nat.zero_add]
        cases cnd l b x <;> rfl
      have hcl : (cnds l b (p.Ports.take k)).length ≤ 10 := Nat.le_trans cnds_len (by rw [List.length_take]; omega)
      rw [hstep]
      unfold tree_root_c0
      rw [own_eq hf h hok.1, Option.bind_some]
      dsimp only
      unfold cnd
      cases hq : ownS l x.Seg with
      | none =>
        refine ⟨((cnds l b (p.Ports.take k)).map (·.1), (cnds l b (p.Ports.take k)).map (·.2)), by cases x.Up <;> rfl, ?_⟩
        simp
      | some q =>
        obtain ⟨c, j, _, _, rfl, hc', hj, _⟩ := on_ok h (own_some hf h hok.1 hq).1
        have hv := tol_VR hf h hc' hj
        have hcb := bw_bnd hf h hc'
        simp only [Option.getD_some, Option.isSome_some, Bool.not_true]
        by_cases hu : x.Up = true
        · by_cases hcb' : (c : Int) = (b : Int)
          · rw [hu, decide_eq_true hcb']
            refine ⟨_, rfl, ?_⟩
            simp [hcb']
          · rw [hu, decide_eq_false hcb']
            simp only [Bool.not_true, Bool.cond_false]
            rw [told_eq hf h hc', Option.bind_some]
            have hfar : vec_Far (tol l ⟨(c : Int), (j : Int)⟩) x.Cost = some (⟨(tol l ⟨(c : Int), (j : Int)⟩).Root, (tol l ⟨(c : Int), (j : Int)⟩).Cost + x.Cost, (tol l ⟨(c : Int), (j : Int)⟩).Bridge, (tol l ⟨(c : Int), (j : Int)⟩).Port⟩, 0) := by
              unfold vec_Far
              rw [vRight_true hv, Option.bind_some, vin_eq]
              have hco : (tol l ⟨(c : Int), (j : Int)⟩).Cost = (bw l c).2 := by unfold tol; dsimp only; rw [Int.toNat_natCast]
              rw [decide_eq_true (show 0 ≤ x.Cost ∧ x.Cost ≤ 2147483647 by omega), hco, wr_in (by omega) (by omega)]
              have : mn ((bw l c).2 + x.Cost) 2147483647 = (bw l c).2 + x.Cost := by unfold mn; split <;> omega
              rw [this]; rfl
            rw [hfar, Option.bind_some, gix_nat, bst_get hf h hb, Option.bind_some]
            dsimp only
            by_cases hg : (tol l ⟨(c : Int), (j : Int)⟩).Root = (bw l b).1 ∧ (tol l ⟨(c : Int), (j : Int)⟩).Cost + x.Cost = (bw l b).2
            · rw [decide_eq_true hg.1, decide_eq_true hg.2, if_pos ⟨trivial, hcb', hg⟩]
              simp only [Bool.and_true, cond_true]
              rw [grd_true (fits_of (by simp; omega) (by decide)), grd_true (fits_of (by simp; omega) (by decide))]
              refine ⟨_, rfl, ?_⟩
              simp
            · rw [if_neg fun k => hg k.2.2]
              have : (decide ((tol l ⟨(c : Int), (j : Int)⟩).Root = (bw l b).1) && (decide ((tol l ⟨(c : Int), (j : Int)⟩).Cost + x.Cost = (bw l b).2) && true)) = false := by
                rw [Bool.eq_false_iff]; intro e; simp only [Bool.and_eq_true, decide_eq_true_eq, and_true] at e; exact hg e
              rw [this]
              refine ⟨_, rfl, ?_⟩
              simp
        · have hu' : x.Up = false := Bool.eq_false_iff.2 hu
          rw [hu', if_neg fun k => by cases k.1]
          refine ⟨_, rfl, ?_⟩
          simp
    rw [h1, aft_some_nxt, h2, List.take_length]
    dsimp only
    by_cases hn : cnds l b p.Ports = []
    · rw [hn]; exact .inl ⟨rfl, rfl⟩
    · have hcl : (cnds l b p.Ports).length ≤ 10 := Nat.le_trans cnds_len hpl
      obtain ⟨i, v, e1, e2, e3, e4⟩ := vBest_eq (l := (cnds l b p.Ports).map (·.2)) (by rw [List.length_map]; omega) (fun v hv => by
        obtain ⟨⟨k, v⟩, hkv, rfl⟩ := List.mem_map.1 hv
        obtain ⟨j, x, rfl, hx, hc⟩ := mem_cnds.1 hkv
        exact cnd_VR hf h hb ((h.planOk hp).2.2 x (List.mem_of_getElem? hx)).1 hc) (by simpa using hn)
      rw [e1, Option.bind_some]
      rw [List.getElem?_map] at e2
      obtain ⟨⟨k, v'⟩, hkv, rfl⟩ := Option.map_eq_some_iff.1 e2
      have hi := (List.getElem?_eq_some_iff.1 hkv).1
      refine .inr ⟨i, k, v', hkv, ?_, fun e he => e3 _ (List.mem_map_of_mem he), fun j e hj he => e4 j _ hj (by rw [List.getElem?_map, he]; rfl)⟩
      dsimp only
      rw [decide_eq_true rfl, Bool.not_true, cond_false, grd_true ⟨by omega, by rw [List.length_map]; omega⟩, Int.toNat_natCast]
      have : gixN ((cnds l b p.Ports).map (·.1)) i = some k := by show ((cnds l b p.Ports).map (·.1))[i]? = _; rw [List.getElem?_map, hkv]; rfl
      rw [this]; rfl
/-- a bridge that is not its own root has a way -/
theorem cnds_ne {l : LanT} (hf : FewL l) (h : LR l) {b : Nat} {p : PlanT} (hp : l.Plans[b]? = some p) (h0 : (bw l b).1 ≠ IDn l b) : cnds l b p.Ports ≠ [] := by
  have hb := (List.getElem?_eq_some_iff.1 hp).1
  rcases bw_src hf h hb with e | ⟨k, c, he, e⟩
  · rw [e] at h0; exact absurd rfl h0
  · obtain ⟨d, hd⟩ := he.back
    have hkl := (he.rng h).1.1
    obtain ⟨hne, q, p', y, x, hq, hp', hy, hx, y1, x1, hs, rfl⟩ := he
    rw [hp] at hp'; cases hp'
    obtain ⟨j, hj⟩ := List.mem_iff_getElem?.1 hx
    obtain ⟨i, hi⟩ := List.mem_iff_getElem?.1 hy
    have hok := (h.planOk hp).2.2 x hx
    have hxc := hok.2
    obtain ⟨o, ho⟩ := own_up hf h hp hj x1
    obtain ⟨o1, o2⟩ := own_some hf h hok.1 ho
    obtain ⟨c, m, pc, xc, rfl, hc, hm, hpc, hxc, xc1, xc2⟩ := on_ok h o1
    have hkon : (⟨(k : Int), (i : Int)⟩ : A2_Int) ∈ portsOn l x.Seg := mem_portsOn.2 ⟨k, i, q, y, rfl, hq, hi, y1, hs⟩
    have hle : wle (bw l c) (bw l k) := by
      rcases o2 _ hkon with e' | e'
      · have : (k : Int) = (c : Int) := congrArg A2_Int.c0 e'
        have : k = c := by omega
        rw [this]; exact wle.refl _
      · unfold vlt tol at e'; dsimp only at e'; rw [Int.toNat_natCast, Int.toNat_natCast] at e'
        unfold wle; omega
    have hbc : c ≠ b := fun q' => by
      subst q'
      rw [e] at hle; unfold wle wad at hle; dsimp only at hle
      omega
    have hEd : Ed l c b x.Cost := ⟨hbc, pc, p, xc, x, hpc, hp, List.mem_of_getElem? hxc, hx, xc1, x1, xc2, rfl⟩
    have h3 := bw_edge hf h hEd
    have h4 := hle.add x.Cost
    rw [← e] at h4
    have h5 := wle.anti h3 h4
    have hcnd : cnd l b x = some ⟨(tol l ⟨(c : Int), (m : Int)⟩).Root, (tol l ⟨(c : Int), (m : Int)⟩).Cost + x.Cost, (tol l ⟨(c : Int), (m : Int)⟩).Bridge, (tol l ⟨(c : Int), (m : Int)⟩).Port⟩ := by
      unfold cnd
      rw [ho]
      dsimp only
      rw [if_pos]
      refine ⟨x1, by omega, ?_, ?_⟩
      · unfold tol; dsimp only; rw [Int.toNat_natCast, h5]; rfl
      · unfold tol; dsimp only; rw [Int.toNat_natCast, h5]; rfl
    intro hnil
    have := (mem_cnds (l := l) (b := b) (xs := p.Ports)).2 ⟨j, x, rfl, hj, hcnd⟩
    rw [hnil] at this; cases this
/-- a bridge's root port -/
theorem rt_eq {l : LanT} (hf : FewL l) (h : LR l) {b : Nat} {p : PlanT} (hp : l.Plans[b]? = some p) : tree_root l (bst l) (b : Int) = some (rt l b) ∧
    (((bw l b).1 = IDn l b ∧ rt l b = -1) ∨ ((bw l b).1 ≠ IDn l b ∧ ∃ (j : Nat) (x : LinkT) (q : A2_Int), rt l b = (j : Int) ∧ p.Ports[j]? = some x ∧ x.Up = true ∧ ownS l x.Seg = some q ∧ q.c0 ≠ (b : Int) ∧ (tol l q).Root = (bw l b).1 ∧ (tol l q).Cost + x.Cost = (bw l b).2)) := by
  unfold rt
  rcases root_ex hf h hp with ⟨e0, e⟩ | ⟨e0, ⟨e1, e⟩ | ⟨i, k, v, hk, e, _⟩⟩
  · rw [e]; exact ⟨rfl, .inl ⟨e0, rfl⟩⟩
  · exact absurd e1 (cnds_ne hf h hp e0)
  · rw [e]
    refine ⟨rfl, .inr ⟨e0, ?_⟩⟩
    obtain ⟨j, x, rfl, hx, hc⟩ := mem_cnds.1 (List.mem_of_getElem? hk)
    unfold cnd at hc
    split at hc
    · rename_i q hq
      split at hc
      · rename_i hcc
        exact ⟨j, x, q, rfl, hx, hcc.1, hq, hcc.2⟩
      · cases hc
    · cases hc
def rol (l : LanT) (b k : Nat) (x : LinkT) : Int := if x.Up = false then 3 else if ownS l x.Seg = some ⟨(b : Int), (k : Int)⟩ then 1 else if (k : Int) = rt l b then 0 else 2
def rols (l : LanT) : List (List Int) := l.Plans.zipIdx.map fun p => p.1.Ports.zipIdx.map fun x => rol l p.2 x.2 x.1
theorem rangeL_mapIdx {α β ρ : Type} {body : Nat → α → List β → Option (Step ρ (List β))} {xs : List α} (hl : xs.length ≤ 1000000) (f : α → Nat → β) (hs : ∀ k x s, xs[k]? = some x → s.length = k → body k x s = some (.nxt (s ++ [f x k]))) :
    rangeL body xs [] = some (.nxt (xs.zipIdx.map fun x => f x.1 x.2)) := by
  obtain ⟨s, h1, h2⟩ := rangeL_inv (s0 := ([] : List β)) (body := body) hl (fun k s => s = (xs.take k).zipIdx.map fun x => f x.1 x.2) rfl fun k x s hx h => by
    have hlt := (List.getElem?_eq_some_iff.1 hx).1
    refine ⟨_, hs k x s hx (by rw [h]; simp; omega), ?_⟩
    rw [h, List.take_add_one, hx, Option.toList, List.zipIdx_append, List.map_append, List.length_take, Nat.min_eq_left (by omega)]
    simp
  rw [h1, h2, List.take_length]
theorem Roles_eq (l : LanT) (hf : FewL l) : tree_Roles l = some (if LR l then (rols l, 0) else ([], 1)) := by
  have hn := hf.plans
  unfold tree_Roles
  rw [LanRight_eq l hf, Option.bind_some]
  by_cases h : LR l
  · rw [if_pos h, decide_eq_true h, Bool.not_true, cond_false, (bst_eq hf h).1, Option.bind_some]
    rw [rangeL_mapIdx (by omega) (fun p b => p.Ports.zipIdx.map fun x => rol l b x.2 x.1) (fun b p s hp hs => by
      have hb := (List.getElem?_eq_some_iff.1 hp).1
      have hpl := hf.ports p (List.mem_of_getElem? hp)
      unfold tree_Roles_c0
      rw [(rt_eq hf h hp).1, Option.bind_some, rangeL_mapIdx (by omega) (fun x k => rol l b k x) (fun k x t hx ht => by
        have hok := (h.planOk hp).2.2 x (List.mem_of_getElem? hx)
        have hkl := (List.getElem?_eq_some_iff.1 hx).1
        unfold tree_Roles_c1 rol
        rw [own_eq hf h hok.1, Option.bind_some]
        have F : ∀ v : Int, fits (t ++ [v]).length 8 := fun v => fits_of (by simp; omega) (by decide)
        cases hu : x.Up with
        | false => rw [if_pos rfl, Bool.not_false, cond_true, grd_true (F _)]
        | true =>
          obtain ⟨q, hq⟩ := own_up hf h hp hx hu
          rw [if_neg (by simp), Bool.not_true, cond_false, hq]
          simp only [Option.getD_some, Option.some.injEq]
          by_cases hc : q = ⟨(b : Int), (k : Int)⟩
          · subst hc
            rw [if_pos rfl]
            simp only [decide_true, Bool.and_true, Bool.and_self, cond_true]
            rw [grd_true (F _)]
          · have : (decide (q.c0 = (b : Int)) && (decide (q.c1 = (k : Int)) && true)) = false := by
              rw [Bool.eq_false_iff]; intro e; simp only [Bool.and_eq_true, decide_eq_true_eq, and_true] at e
              exact hc (by cases q; dsimp only at e; rw [e.1, e.2])
            rw [this, if_neg hc, cond_false]
            by_cases hr : (k : Int) = rt l b
            · rw [decide_eq_true hr, if_pos hr, cond_true, grd_true (F _)]
            · rw [decide_eq_false hr, if_neg hr, cond_false, grd_true (F _)]), aft_some_nxt, grd_true (fits_of (by simp; omega) (by decide))]), aft_some_nxt]
    rfl
  · rw [if_neg h, decide_eq_false h]; rfl
theorem Own_eq (l : LanT) (hf : FewL l) (s : Int) : tree_Own l s = some (if LR l then (if 0 ≤ s ∧ s < l.Segs then ((ownS l s).getD ⟨0, 0⟩, (ownS l s).isSome, 0) else (⟨0, 0⟩, false, 3)) else (⟨0, 0⟩, false, 1)) := by
  unfold tree_Own
  rw [LanRight_eq l hf, Option.bind_some]
  by_cases h : LR l
  · rw [if_pos h, decide_eq_true h, Bool.not_true, cond_false]
    by_cases hs : 0 ≤ s ∧ s < l.Segs
    · rw [if_pos hs, decide_eq_false (show ¬ s < 0 by omega), cond_false, decide_eq_false (show ¬ l.Segs ≤ s by omega), cond_false, (bst_eq hf h).1, Option.bind_some, own_eq hf h hs]; rfl
    · rw [if_neg hs]
      by_cases h0 : s < 0
      · rw [decide_eq_true h0]; rfl
      · rw [decide_eq_false h0, cond_false, decide_eq_true (show l.Segs ≤ s by omega)]; rfl
  · rw [if_neg h, decide_eq_false h]; rfl
end Go.RX
