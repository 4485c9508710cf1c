/- What is learned; the law of learning. -/
import Derived.Test.YtoahcombdhgmhaaVb
import Derived.KernelRfl
set_option linter.unusedVariables false
set_option linter.unusedSimpArgs false
namespace Go.RX
set_option maxHeartbeats 1000000

theorem fitsS {n b : Nat} (h : n ≤ 1000000) (hb : b ≤ 100) : fits n b := ⟨by omega, by
  have : n * b ≤ 1000000 * 100 := Nat.mul_le_mul h hb
  omega⟩
/-! The order of places. -/
def ord (n : Nat) : List Int := (List.range n).map fun k => ((k : Nat) : Int)
theorem ord_len (n : Nat) : (ord n).length = n := by simp [ord]
theorem ord_mem {n : Nat} {z : Int} : z ∈ ord n ↔ 0 ≤ z ∧ z < (n : Int) := by
  unfold ord
  simp only [List.mem_map, List.mem_range]
  constructor
  · rintro ⟨k, hk, rfl⟩; omega
  · intro ⟨h1, h2⟩; exact ⟨z.toNat, by omega, by omega⟩
theorem ord_succ (n : Nat) : ord (n + 1) = ord n ++ [((n : Nat) : Int)] := by simp [ord, List.range_succ]
theorem ord_nodup (n : Nat) : (ord n).Nodup := by
  unfold ord
  exact List.Pairwise.map _ (fun a b h => by omega) List.nodup_range
theorem ord_get {n k : Nat} (h : k < n) : (ord n)[k]? = some ((k : Nat) : Int) := by
  unfold ord; rw [List.getElem?_map, List.getElem?_range h]; rfl
theorem ord_take {n k : Nat} (h : k ≤ n) : (ord n).take k = ord k := by
  unfold ord
  rw [← List.map_take, List.take_range, Nat.min_eq_left h]

theorem lruRight_eq {o : List Int} (hl : o.length ≤ 64) (hn : o.Nodup) (h0 : ∀ z ∈ o, 0 ≤ z) : lru_Right o = some true := by
  unfold lru_Right
  rcases cnt_loopR (r0 := false) (body := lru_Right_b7) (xs := o) (by omega) (fun z => z) (fun z => 0 ≤ z) (fun k x m hx m1 m2 => by
    unfold lru_Right_b7
    simp only [w64i (x := mget m x 0 + 1) (by omega) (by omega)]
    by_cases hx0 : 0 ≤ x
    · have h1 : ¬ x < 0 := by omega
      by_cases hm : 0 < mget m x 0
      · have h2 : 1 < mget m x 0 + 1 := by omega
        simp [h1, hm, h2]
      · have h2 : ¬ 1 < mget m x 0 + 1 := by omega
        simp [h1, hm, h2, hx0]
    · have h1 : x < 0 := by omega
      simp [h1, hx0]) with ⟨h1, s, h2⟩ | ⟨h1, h2⟩
  · rw [h2, aft_some_nxt, decide_eq_true (by omega)]
  · exact absurd ⟨by simpa using hn, h0⟩ h1
theorem without_eq {o : List Int} (hl : o.length ≤ 100) (w : Int) : _lru_order_without o w = some (o.filter fun z => !decide (z = w)) := by
  unfold _lru_order_without slices_Clone_order
  rw [grd_true (fitsS (by omega) (by omega)), Option.bind_some]
  have : slices_DeleteFunc_order o (fun x0_ => _lru_order_without_1 x0_ w) = some (o.filter fun z => !decide (z = w)) :=
    (show slices_DeleteFunc_order o (fun x0_ => _lru_order_without_1 x0_ w) = delG (fun x0_ => _lru_order_without_1 x0_ w) o from rfl).trans (delG_eq (p := fun z => decide (z = w)) (by omega) (fun x _ => rfl))
  rw [this]; rfl
theorem Use_eq {o : List Int} (hl : o.length ≤ 50) (hn : o.Nodup) (h0 : ∀ z ∈ o, 0 ≤ z) {w : Int} (hw : 0 ≤ w) : lru_Use o w = some (w :: o.filter (fun z => !decide (z = w)), 0) := by
  have hf := List.length_filter_le (fun z => !decide (z = w)) o
  unfold lru_Use _lru_order_use
  rw [lruRight_eq (by omega) hn h0, without_eq (by omega)]
  simp only [Option.bind_some, Bool.not_true, cond_false, decide_eq_false (show ¬ w < 0 by omega)]
  rw [grd_true (fitsS (by rw [List.length_append]; simp; omega) (by omega))]
  simp only [Option.bind_some, List.cons_append, List.nil_append]
  rw [decide_eq_false (show ¬ 64 < (((w :: o.filter (fun z => !decide (z = w))).length : Nat) : Int) by simp; omega)]
  rfl
theorem Drop_eq {o : List Int} (hl : o.length ≤ 50) (hn : o.Nodup) (h0 : ∀ z ∈ o, 0 ≤ z) {w : Int} (hw : w ∈ o) : lru_Drop o w = some (o.filter (fun z => !decide (z = w)), 0) := by
  have hlt : (o.filter (fun z => !decide (z = w))).length < o.length := by
    rw [List.length_filter_lt_length_iff_exists]
    exact ⟨w, hw, by simp⟩
  have hw0 := h0 w hw
  unfold lru_Drop
  rw [lruRight_eq (by omega) hn h0, without_eq (by omega)]
  simp only [Option.bind_some, Bool.not_true, cond_false, decide_eq_false (show ¬ w < 0 by omega)]
  rw [decide_eq_false (show ¬ (((o.filter (fun z => !decide (z = w))).length : Nat) : Int) = ((o.length : Nat) : Int) by omega)]
  rfl

/-! Buckets by places. -/
def zE : EntryT := ⟨0, 0, 0, false⟩
def atP (l : List EntryT) (z : Int) : EntryT := l.getD z.toNat zE
theorem gd_get {α : Type} {l : List α} {k : Nat} {d : α} (h : k < l.length) : l[k]? = some (l.getD k d) := by simp [List.getD_eq_getElem?_getD, h]
theorem all_places (l : List EntryT) : (ord l.length).map (atP l) = l := by
  apply List.ext_getElem?
  intro i
  rw [List.getElem?_map]
  by_cases h : i < l.length
  · rw [ord_get h, Option.map_some, gd_get (d := zE) h]; rfl
  · rw [List.getElem?_eq_none (by rw [ord_len]; omega), List.getElem?_eq_none (by omega)]; rfl
/-- Entries but one, by places and by addresses. -/
theorem but_one {l : List EntryT} (hn : (l.map (·.Mac)).Nodup) {i : Nat} {x : EntryT} (hx : l[i]? = some x) : l.filter (fun y => !decide (y.Mac = x.Mac)) = ((ord l.length).filter fun z => !decide (z = (i : Int))).map (atP l) := by
  have hi := (List.getElem?_eq_some_iff.1 hx).1
  have h1 : l.filter (fun y => !decide (y.Mac = x.Mac)) = ((ord l.length).map (atP l)).filter (fun y => !decide (y.Mac = x.Mac)) := by rw [all_places]
  rw [h1, List.filter_map]
  congr 1
  apply List.filter_congr
  intro z hz
  obtain ⟨z0, z1⟩ := ord_mem.1 hz
  have hg : l[z.toNat]? = some (atP l z) := gd_get (by omega)
  show (!decide ((atP l z).Mac = x.Mac)) = _
  congr 1
  rw [decide_eq_decide]
  constructor
  · intro h
    have e1 : (l.map (·.Mac))[z.toNat]? = some x.Mac := by rw [List.getElem?_map, hg, Option.map_some, h]
    have e2 : (l.map (·.Mac))[i]? = some x.Mac := by rw [List.getElem?_map, hx, Option.map_some]
    have hz' : z.toNat < (l.map (·.Mac)).length := (List.getElem?_eq_some_iff.1 e1).1
    have hi' : i < (l.map (·.Mac)).length := (List.getElem?_eq_some_iff.1 e2).1
    have e3 : (l.map (·.Mac))[z.toNat] = (l.map (·.Mac))[i] := by
      rw [(List.getElem?_eq_some_iff.1 e1).2, (List.getElem?_eq_some_iff.1 e2).2]
    have hp := List.pairwise_iff_getElem.1 hn
    rcases Nat.lt_trichotomy z.toNat i with hlt | heq | hlt
    · exact absurd e3 (hp _ _ hz' hi' hlt)
    · omega
    · exact absurd e3.symm (hp _ _ hi' hz' hlt)
  · intro h
    have : z.toNat = i := by omega
    rw [this, hx] at hg
    rw [← Option.some.inj hg]
theorem pick_loop {ρ : Type} {body : Nat → Int → List EntryT → Option (Step ρ (List EntryT))} (L : List EntryT) {xs : List Int} (hl : xs.length ≤ 100) (hx : ∀ z ∈ xs, 0 ≤ z ∧ z < ((L.length : Nat) : Int))
    (hb : ∀ k x s, body k x s = grd ((0 : Int) ≤ x ∧ x < ((L.length : Nat) : Int)) ((gixN L (x : Int).toNat).bind fun v => grd (fits ((s ++ ([v] : (List EntryT))) : List EntryT).length 32) <| some (.nxt (s ++ ([v] : (List EntryT)))))) : rangeL body xs [] = some (.nxt (xs.map (atP L))) :=
  rangeL_map (by omega) (atP L) fun k x s hk hs => by
    obtain ⟨h1, h2⟩ := hx x (List.mem_of_getElem? hk)
    have hkl := (List.getElem?_eq_some_iff.1 hk).1
    rw [hb, grd_true ⟨h1, h2⟩, show gixN L (x : Int).toNat = some (atP L x) from gd_get (by omega), Option.bind_some, grd_true (fitsS (by rw [List.length_append]; simp; omega) (by omega))]
theorem order_loop {ρ : Type} {body : Nat → List Int → Option (Step ρ (List Int))} (n : Nat) (hn : n ≤ 100) (hb : ∀ k s, body k s = grd (fits ((s ++ ([((k : Nat) : Int)] : (List Int))) : List Int).length 8) (some (.nxt (s ++ ([((k : Nat) : Int)] : (List Int)))))) : rangeN body ((n : Nat) : Int) [] = some (.nxt (ord n)) := by
  have := rangeN_up (body := body) (n := ((n : Nat) : Int)) (s0 := []) (by omega) (fun k => ord k) rfl (fun k hk => by
    rw [hb, grd_true (fitsS (by rw [List.length_append, ord_len]; simp; omega) (by omega)), ord_succ])
  rw [this, Int.toNat_natCast]
theorem own_eq {t : TableT} (h : t.Buckets.length ≤ 1000) : fdb_own_x t = some t := by
  unfold fdb_own_x
  rw [grd_true ⟨by omega, Int.le_refl _, fitsS (by rw [Int.toNat_natCast]; omega) (by omega)⟩]
  simp
/-- The last that is not static: how many there are up to it. -/
def Lst (l : List EntryT) (j : Nat) : Prop := j ≤ l.length ∧ (∀ (k : Nat) (e : EntryT), j ≤ k → l[k]? = some e → e.Static = true) ∧ (j = 0 ∨ ∃ e, l[j - 1]? = some e ∧ e.Static = false)
theorem strip_loop {ρ : Type} {body : List Int → Option (Step ρ (List Int))} (L : List EntryT) (l : List EntryT) (hL : ∀ (k : Nat) (e : EntryT), l[k]? = some e → L[k]? = some e) (hl : l.length ≤ 100) (hLl : l.length ≤ L.length)
    (hb : ∀ s, body s = grd (((decide (0 < ((s.length : Nat) : Int))) = true → (0 : Int) ≤ (IntKind.i64.wrap (((s.length : Nat) : Int) - 1)) ∧ (IntKind.i64.wrap (((s.length : Nat) : Int) - 1)) < ((s.length : Nat) : Int))) (
  (bif (decide (0 < ((s.length : Nat) : Int))) then
    (gixN s ((IntKind.i64.wrap (((s.length : Nat) : Int) - 1)) : Int).toNat).bind fun v62 =>
    grd (((decide (0 < ((s.length : Nat) : Int))) = true → (0 : Int) ≤ v62 ∧ v62 < ((L.length : Nat) : Int))) <|
    (gixN L (v62 : Int).toNat).bind fun v65 =>
    (bif (bif (decide (0 < ((s.length : Nat) : Int))) then v65.Static else false) then
      grd ((0 : Int) ≤ (IntKind.i64.wrap (((s.length : Nat) : Int) - 1)) ∧ (IntKind.i64.wrap (((s.length : Nat) : Int) - 1)) ≤ ((s.length : Nat) : Int)) <|
      some (.nxt (s.take ((IntKind.i64.wrap (((s.length : Nat) : Int) - 1)) : Int).toNat))
    else
      some (.brk s))
  else
    some (.brk s)))) : ∃ j, loopF 1000000 body (ord l.length) = some (.nxt (ord j)) ∧ Lst l j := by
  obtain ⟨o, h1, h2⟩ := loopF_rec (body := body) (fun s => s.length) (fun s => ∃ j : Nat, s = ord j ∧ j ≤ l.length ∧ ∀ (k : Nat) (e : EntryT), j ≤ k → l[k]? = some e → e.Static = true) (fun _ => False) (fun s => ∃ j, s = ord j ∧ Lst l j) (fun s ⟨j, hs, hj, hst⟩ => by
    subst hs
    rw [hb, ord_len]
    by_cases h0 : j = 0
    · subst h0
      rw [grd_true (by intro h; simp at h)]
      exact ⟨_, rfl, 0, rfl, by omega, hst, .inl rfl⟩
    have hw : IntKind.i64.wrap (((j : Nat) : Int) - 1) = ((j - 1 : Nat) : Int) := by rw [w64i (by omega) (by omega)]; omega
    have hd : decide (0 < ((j : Nat) : Int)) = true := decide_eq_true (by omega)
    have hlj : l[j - 1]? = some (l.getD (j - 1) zE) := gd_get (by omega)
    have hLj := hL _ _ hlj
    rw [hw, hd, grd_true (fun _ => ⟨by omega, by omega⟩)]
    simp only [cond_true, Int.toNat_natCast]
    rw [show gixN (ord j) (j - 1) = some ((j - 1 : Nat) : Int) from ord_get (by omega)]
    simp only [Option.bind_some, Int.toNat_natCast]
    rw [grd_true (fun _ => ⟨by omega, by omega⟩), show gixN L (j - 1) = some (l.getD (j - 1) zE) from hLj]
    simp only [Option.bind_some]
    cases hs : (l.getD (j - 1) zE).Static
    · exact ⟨_, rfl, j, rfl, hj, hst, .inr ⟨_, hlj, hs⟩⟩
    · simp only [cond_true]
      rw [grd_true ⟨by omega, by omega⟩, ord_take (by omega)]
      refine ⟨_, rfl, ⟨j - 1, rfl, by omega, fun k e hk he => ?_⟩, by simp only [ord_len]; omega⟩
      by_cases hk' : k = j - 1
      · subst hk'
        rw [hlj] at he
        cases he; exact hs
      · exact hst k e (by omega) he) 1000000 (ord l.length) ⟨l.length, rfl, Nat.le_refl _, fun k e hk he => by
        have := (List.getElem?_eq_some_iff.1 he).1; omega⟩ (by rw [ord_len]; omega)
  cases o with
  | ret r => exact h2.elim
  | brk s => exact h2.elim
  | nxt s => obtain ⟨j, rfl, hj⟩ := h2; exact ⟨j, h1, hj⟩
theorem last_eq {l : List EntryT} (hl : l.length ≤ 1000) {j : Nat} (hj : Lst l j) : ref08_last l = some (((j : Nat) : Int) - 1) := by
  obtain ⟨s, h1, i, h2, h3, h4⟩ := rangeL_inv (s0 := (-1 : Int)) (body := ref08_last_b26) (xs := l) (by omega) (fun k s => ∃ i : Nat, s = ((i : Nat) : Int) - 1 ∧ i ≤ k ∧ (∀ (m : Nat) (e : EntryT), i ≤ m → m < k → l[m]? = some e → e.Static = true) ∧ (i = 0 ∨ ∃ e, l[i - 1]? = some e ∧ e.Static = false)) ⟨0, rfl, Nat.le_refl _, fun m e h1 h2 => by omega, .inl rfl⟩ (fun k x s hx ⟨i, hs, hi, ha, hb⟩ => by
    unfold ref08_last_b26
    cases hst : x.Static
    · exact ⟨_, rfl, k + 1, by omega, Nat.le_refl _, fun m e h1 h2 => by omega, .inr ⟨x, by simpa using hx, hst⟩⟩
    · refine ⟨_, rfl, i, hs, by omega, fun m e h1 h2 he => ?_, hb⟩
      by_cases hm : m = k
      · subst hm; rw [hx] at he; cases he; exact hst
      · exact ha m e h1 (by omega) he)
  unfold ref08_last
  rw [h1, aft_some_nxt, h2]
  have : i = j := by
    obtain ⟨g1, g2, g3⟩ := hj
    obtain ⟨h4, h5⟩ := h4
    rcases Nat.lt_trichotomy i j with h | h | h
    · rcases g3 with g3 | ⟨e, g3, g4⟩
      · omega
      · have := h4 (j - 1) e (by omega) (by omega) g3
        rw [g4] at this; cases this
    · exact h
    · rcases h5 with h5 | ⟨e, h5, h6⟩
      · omega
      · have := g2 (i - 1) e (by omega) h5
        rw [h6] at this; cases this
  rw [this]
theorem refwithout_eq {l : List EntryT} (hl : l.length ≤ 1000) (a : Int) : ref08_without l a = some (l.filter fun y => !decide (y.Mac = a)) := by
  obtain ⟨s, h1, h2⟩ := rangeL_inv (s0 := ([] : List EntryT)) (body := ref08_without_b25 a) (xs := l) (by omega) (fun k s => s = (l.take k).filter fun y => !decide (y.Mac = a)) (by simp) (fun k x s hx hs => by
    have hk := (List.getElem?_eq_some_iff.1 hx).1
    have hlen : s.length ≤ k := by
      rw [hs]
      have := List.length_filter_le (fun y => !decide (y.Mac = a)) (l.take k)
      rw [List.length_take] at this
      omega
    have ht : l.take (k + 1) = l.take k ++ [x] := by rw [List.take_add_one, hx]; rfl
    unfold ref08_without_b25
    rw [ht, List.filter_append, ← hs]
    by_cases hm : x.Mac = a
    · exact ⟨s, by simp [hm], by simp [hm]⟩
    · refine ⟨s ++ [x], ?_, by simp [hm]⟩
      simp only [decide_eq_false hm, Bool.not_false, cond_true]
      rw [grd_true (fitsS (by rw [List.length_append]; simp; omega) (by omega))])
  unfold ref08_without
  rw [h1, aft_some_nxt, h2, List.take_length]
theorem refwith_eq {t : TableT} (h : TbOk t) {a : Int} (ha : Uni a) (L : List EntryT) : ref08_with t a L = some ⟨t.Buckets.set (bkt a.toNat t.Buckets.length) L, t.Slots, t.Age⟩ := by
  obtain ⟨h1, h2⟩ := ha.nat
  have hb := ref07_Bucket_eq (a := a.toNat) (n := t.Buckets.length) h2 h.1.1
  rw [← h1] at hb
  have hn : t.Buckets.length ≤ 16 := by have := h.1.1; unfold Num at this; omega
  obtain ⟨st, e1, e2⟩ := rangeL_inv (s0 := ([] : List (List EntryT))) (body := ref08_with_b27 t a L) (xs := t.Buckets) (by omega) (fun k st => st = (t.Buckets.set (bkt a.toNat t.Buckets.length) L).take k) (by simp) (fun k y st hy hst => by
    have hk := (List.getElem?_eq_some_iff.1 hy).1
    subst hst
    have ht : ((t.Buckets.set (bkt a.toNat t.Buckets.length) L).take k).length ≤ k := by rw [List.length_take]; omega
    refine ⟨(t.Buckets.set (bkt a.toNat t.Buckets.length) L).take (k + 1), ?_, rfl⟩
    rw [List.take_add_one]
    unfold ref08_with_b27
    rw [hb, Option.bind_some]
    by_cases hkp : k = bkt a.toNat t.Buckets.length
    · rw [← hkp, List.getElem?_set_self hk]
      simp only [decide_true, cond_true, Option.toList_some]
      rw [grd_true (fitsS (by rw [List.length_append]; simp; omega) (by omega))]
    · have : decide (((k : Nat) : Int) = ((bkt a.toNat t.Buckets.length : Nat) : Int)) = false := decide_eq_false (by omega)
      rw [List.getElem?_set_ne (fun h => hkp h.symm), hy]
      simp only [this, cond_false, Option.toList_some]
      rw [grd_true (fitsS (by rw [List.length_append]; simp; omega) (by omega))])
  unfold ref08_with
  rw [e1, aft_some_nxt, e2, List.take_of_length_le (by simp)]
end Go.RX
