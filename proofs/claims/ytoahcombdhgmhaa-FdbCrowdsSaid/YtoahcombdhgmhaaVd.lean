/- What is learned, by the program and by the document; the law of learning. -/
import Derived.Test.YtoahcombdhgmhaaVc
set_option linter.unusedVariables false
set_option linter.unusedSimpArgs false
namespace Go.RX
set_option maxHeartbeats 1000000

theorem clone_eq {l : List EntryT} (h : l.length ≤ 1000) : slices_Clone_Entry l = some l := by
  unfold slices_Clone_Entry; rw [grd_true (fitsS (by omega) (by omega))]
theorem cloneI_eq {l : List Int} (h : l.length ≤ 1000) : slices_Clone_int l = some l := by
  unfold slices_Clone_int; rw [grd_true (fitsS (by omega) (by omega))]
/-- A table with another bucket. -/
noncomputable def wth (t : TableT) (a : Int) (L : List EntryT) : TableT := ⟨t.Buckets.set (bkt a.toNat t.Buckets.length) L, t.Slots, t.Age⟩
theorem bucket_len {t : TableT} (h : TbOk t) (a : Int) : bkt a.toNat t.Buckets.length < t.Buckets.length := bkt_lt a.toNat h.1.1
theorem n16 {t : TableT} (h : TbOk t) : t.Buckets.length ≤ 16 := by have := h.1.1; unfold Num at this; omega
/-- How a table is left: with one bucket more. -/
theorem wth_tail {t : TableT} (h : TbOk t) (a : Int) (L : List EntryT) : ((fdb_own_x t).bind fun y =>
    grd ((0 : Int) ≤ ((bkt a.toNat t.Buckets.length : Nat) : Int) ∧ ((bkt a.toNat t.Buckets.length : Nat) : Int) < ((y.Buckets.length : Nat) : Int)) <|
    (gixN y.Buckets (((bkt a.toNat t.Buckets.length : Nat) : Int) : Int).toNat).bind fun v =>
    some ((⟨(y.Buckets.set (((bkt a.toNat t.Buckets.length : Nat) : Int) : Int).toNat L), y.Slots, y.Age⟩ : TableT), true)) = some (wth t a L, true) := by
  have hb := bucket_len h a
  have := n16 h
  rw [own_eq (by omega)]
  simp only [Option.bind_some, Int.toNat_natCast]
  rw [grd_true ⟨by omega, by omega⟩, show gixN t.Buckets (bkt a.toNat t.Buckets.length) = _ from h.bucket a]
  rfl
theorem small_of {t : TableT} (h : TbOk t) : Small t := ⟨by have := n16 h; omega, fun l hl => by
  obtain ⟨k, hk⟩ := List.getElem?_of_mem hl
  have h1 := (h.2 k l hk).2
  have h2 := h.1.2.1.2
  omega⟩
theorem small_wth {t : TableT} (h : TbOk t) (a : Int) {L : List EntryT} (hL : L.length ≤ 100) : Small (wth t a L) := ⟨by simp only [wth, List.length_set]; have := n16 h; omega, fun l hl => by
  rcases List.mem_or_eq_of_mem_set hl with h1 | h1
  · exact (small_of h).2 l h1
  · rw [h1]; exact hL⟩
theorem Put_both {t : TableT} (h : TbOk t) {e : EntryT} (he : Uni e.Mac) : ∃ r, fdb_put t e = some r ∧ ref08_put t e = some r ∧ Small r.1 := by
  have hl4 := h.len4 e.Mac
  have hbo := h.bok e.Mac
  have hbk := h.bucket e.Mac
  have hslots := h.1.2.1
  have htail := wth_tail h e.Mac
  have hrw := fun L => refwith_eq h he L
  have hrb := refbucket_eq h he
  have hsm := fun L => small_wth h e.Mac (L := L)
  unfold fdb_put ref08_put
  rw [place_eq h he, hrb]
  simp only [Option.bind_some]
  rw [gix_nat, hbk]
  generalize bk t e.Mac = l at *
  obtain ⟨⟨hn, hent⟩, hsl⟩ := hbo
  rw [refwithout_eq (by omega)]
  simp only [Option.bind_some]
  rw [clone_eq (by omega)]
  simp only [Option.bind_some]
  rw [order_loop (body := fdb_put_b6) l.length (by omega) (fun k s => rfl), aft_some_nxt]
  have hon := ord_nodup l.length
  have ho0 : ∀ z ∈ ord l.length, 0 ≤ z := fun z hz => (ord_mem.1 hz).1
  by_cases hp : plc l e.Mac < 0
  · have hno : ∀ y ∈ l, y.Mac ≠ e.Mac := fun y hy hm => by
      have := plc_mem.2 (List.mem_map.2 ⟨y, hy, hm⟩)
      omega
    have hfl : (l.filter fun y => !decide (y.Mac = e.Mac)) = l := List.filter_eq_self.2 fun y hy => by simp [hno y hy]
    have hfo : ((ord l.length).filter fun z => !decide (z = ((l.length : Nat) : Int))) = ord l.length := List.filter_eq_self.2 fun z hz => by
      have := (ord_mem.1 hz).2
      simp; omega
    have hset : (l ++ [e]).set (((l.length : Nat) : Int)).toNat e = l ++ [e] := by
      rw [Int.toNat_natCast, List.set_append_right _ _ (Nat.le_refl _)]; simp
    have hat : ∀ z ∈ ord l.length, atP (l ++ [e]) z = atP l z := fun z hz => by
      obtain ⟨z0, z1⟩ := ord_mem.1 hz
      unfold atP
      rw [List.getD_eq_getElem?_getD, List.getD_eq_getElem?_getD, List.getElem?_append_left (by omega)]
    have hae : atP (l ++ [e]) ((l.length : Nat) : Int) = e := by
      unfold atP
      rw [Int.toNat_natCast, List.getD_eq_getElem?_getD]; simp
    simp only [decide_eq_true hp, cond_true]
    rw [grd_true (fitsS (by rw [List.length_append]; simp; omega) (by omega)), grd_true ⟨by omega, by rw [List.length_append]; simp; omega⟩, show gixN (l ++ [e]) (((l.length : Nat) : Int)).toNat = some e by unfold gixN; rw [Int.toNat_natCast]; simp]
    simp only [Option.bind_some]
    rw [Use_eq (by rw [ord_len]; omega) hon ho0 (by omega), hfo, hfl]
    simp only [Option.bind_some, List.length_cons, ord_len]
    by_cases hfull : t.Slots < (((l.length + 1 : Nat)) : Int)
    · have heq : ((l.length : Nat) : Int) = t.Slots := by omega
      simp only [decide_eq_true hfull, decide_eq_true heq, cond_true]
      rw [grd_true ⟨by omega, by omega⟩, show List.drop (Int.toNat 1) (((l.length : Nat) : Int) :: ord l.length) = ord l.length from rfl, cloneI_eq (by rw [ord_len]; omega)]
      simp only [Option.bind_some]
      obtain ⟨j, hj1, hj2⟩ := strip_loop (body := fdb_put_b8 e l) ((l ++ [e]).set (((l.length : Nat) : Int)).toNat e) l (fun k x hk => by
        have := (List.getElem?_eq_some_iff.1 hk).1
        rw [hset, List.getElem?_append_left this]; exact hk) (by omega) (by rw [hset]; simp) (fun s => rfl)
      rw [hj1, aft_some_nxt, last_eq (by omega) hj2]
      simp only [Option.bind_some, ord_len]
      by_cases hj0 : j = 0
      · subst hj0
        refine ⟨(t, false), ?_, ?_, small_of h⟩
        · simp
        · simp
      · have hjl := hj2.1
        have hw : IntKind.i64.wrap (((j : Nat) : Int) - 1) = ((j - 1 : Nat) : Int) := by rw [w64i (by omega) (by omega)]; omega
        have hx : l[j - 1]? = some (l.getD (j - 1) zE) := gd_get (by omega)
        have hbut := but_one hn hx
        simp only [decide_eq_false (show ¬ ((j : Nat) : Int) = 0 by omega), decide_eq_false (show ¬ ((j : Nat) : Int) - 1 < 0 by omega), cond_false, hw]
        rw [grd_true ⟨by omega, by omega⟩, Int.toNat_natCast, show gixN (ord j) (j - 1) = some ((j - 1 : Nat) : Int) from ord_get (by omega), show ((j : Nat) : Int) - 1 = ((j - 1 : Nat) : Int) by omega, gix_nat, hx]
        simp only [Option.bind_some]
        rw [Drop_eq (o := ((l.length : Nat) : Int) :: ord l.length) (by simp [ord_len]; omega) (by
          rw [List.nodup_cons]; exact ⟨fun hm => by have := (ord_mem.1 hm).2; omega, hon⟩) (by
          intro z hz
          rcases List.mem_cons.1 hz with rfl | hz
          · omega
          · exact ho0 z hz) (List.mem_cons_of_mem _ (ord_mem.2 ⟨by omega, by omega⟩)), refwithout_eq (by omega), hbut]
        have hfc : ((((l.length : Nat) : Int) :: ord l.length).filter fun z => !decide (z = ((j - 1 : Nat) : Int))) = ((l.length : Nat) : Int) :: ((ord l.length).filter fun z => !decide (z = ((j - 1 : Nat) : Int))) := by
          rw [List.filter_cons, if_pos (by simp; omega)]
        have hle := List.length_filter_le (fun z => !decide (z = ((j - 1 : Nat) : Int))) (ord l.length)
        rw [ord_len] at hle
        have hmap : ((((l.length : Nat) : Int) :: ((ord l.length).filter fun z => !decide (z = ((j - 1 : Nat) : Int))))).map (atP (l ++ [e])) = [e] ++ ((ord l.length).filter fun z => !decide (z = ((j - 1 : Nat) : Int))).map (atP l) := by
          rw [List.map_cons, hae]
          exact congrArg (e :: ·) (List.map_congr_left fun z hz => hat z (List.mem_filter.1 hz).1)
        simp only [Option.bind_some]
        rw [hfc, pick_loop (body := fdb_put_b9 e l) ((l ++ [e]).set (((l.length : Nat) : Int)).toNat e) (by simp; omega) (fun z hz => by
          rw [hset]
          rcases List.mem_cons.1 hz with rfl | hz
          · exact ⟨by omega, by simp; omega⟩
          · have := ord_mem.1 (List.mem_filter.1 hz).1
            exact ⟨this.1, by simp; omega⟩) (fun k x s => rfl), aft_some_nxt, hset, hmap, htail, grd_true (fitsS (by simp; omega) (by omega)), hrw]
        exact ⟨_, rfl, rfl, hsm _ (by simp; omega)⟩
    · have hne : ¬ ((l.length : Nat) : Int) = t.Slots := by omega
      simp only [decide_eq_false hfull, decide_eq_false hne, cond_false]
      have hmap : (((l.length : Nat) : Int) :: ord l.length).map (atP (l ++ [e])) = [e] ++ l := by
        rw [List.map_cons, hae]
        refine congrArg (e :: ·) ((List.map_congr_left fun z hz => hat z hz).trans (all_places l))
      rw [pick_loop (body := fdb_put_b10 e l) ((l ++ [e]).set (((l.length : Nat) : Int)).toNat e) (by simp [ord_len]; omega) (fun z hz => by
          rw [hset]
          rcases List.mem_cons.1 hz with rfl | hz
          · exact ⟨by omega, by simp; omega⟩
          · have := ord_mem.1 hz
            exact ⟨this.1, by simp; omega⟩) (fun k x s => rfl), aft_some_nxt, hset, hmap, htail, grd_true (fitsS (by simp; omega) (by omega)), hrw]
      exact ⟨_, rfl, rfl, hsm _ (by simp; omega)⟩
  · obtain ⟨x, hx, hxm⟩ := plc_get (l := l) (a := e.Mac) (by omega)
    obtain ⟨i, hi⟩ : ∃ i : Nat, plc l e.Mac = (i : Int) := ⟨(plc l e.Mac).toNat, by omega⟩
    rw [hi, Int.toNat_natCast] at hx
    have hil := (List.getElem?_eq_some_iff.1 hx).1
    have hbut := but_one hn hx
    rw [hxm] at hbut
    have hiord : (i : Int) ∈ ord l.length := ord_mem.2 ⟨by omega, by omega⟩
    have hlt : ((ord l.length).filter (fun z => !decide (z = (i : Int)))).length < l.length := by
      have : ((ord l.length).filter (fun z => !decide (z = (i : Int)))).length < (ord l.length).length := by
        rw [List.length_filter_lt_length_iff_exists]
        exact ⟨(i : Int), hiord, by simp⟩
      rwa [ord_len] at this
    have hat : ∀ z ∈ (ord l.length).filter (fun z => !decide (z = (i : Int))), atP (l.set ((i : Int)).toNat e) z = atP l z := fun z hz => by
      obtain ⟨z1, z2⟩ := List.mem_filter.1 hz
      obtain ⟨z3, z4⟩ := ord_mem.1 z1
      have : z ≠ (i : Int) := by simpa using z2
      unfold atP
      rw [List.getD_eq_getElem?_getD, List.getD_eq_getElem?_getD, Int.toNat_natCast, List.getElem?_set_ne (by omega)]
    have hae : atP (l.set ((i : Int)).toNat e) (i : Int) = e := by
      unfold atP
      rw [List.getD_eq_getElem?_getD, Int.toNat_natCast, List.getElem?_set_self hil]; rfl
    simp only [hi, decide_eq_false (show ¬ (i : Int) < 0 by omega), cond_false]
    rw [grd_true ⟨by omega, by omega⟩, show gixN l ((i : Int)).toNat = some x from hx]
    simp only [Option.bind_some]
    rw [Use_eq (by rw [ord_len]; omega) hon ho0 (by omega)]
    simp only [Option.bind_some, List.length_cons]
    rw [hbut, List.length_map, decide_eq_false (show ¬ t.Slots < ((((ord l.length).filter (fun z => !decide (z = (i : Int)))).length + 1 : Nat) : Int) by omega), decide_eq_false (show ¬ ((((ord l.length).filter (fun z => !decide (z = (i : Int)))).length : Nat) : Int) = t.Slots by omega)]
    simp only [cond_false]
    have hmap : ((i : Int) :: ((ord l.length).filter fun z => !decide (z = (i : Int)))).map (atP (l.set ((i : Int)).toNat e)) = [e] ++ ((ord l.length).filter fun z => !decide (z = (i : Int))).map (atP l) := by
      rw [List.map_cons, hae]
      exact congrArg (e :: ·) (List.map_congr_left hat)
    rw [pick_loop (body := fdb_put_b15 e (((bkt e.Mac.toNat t.Buckets.length : Nat) : Int), (i : Int)) l) (l.set ((i : Int)).toNat e) (by simp; omega) (fun z hz => by
      rw [List.length_set]
      rcases List.mem_cons.1 hz with rfl | hz
      · exact ⟨by omega, by omega⟩
      · have := ord_mem.1 (List.mem_filter.1 hz).1
        exact ⟨this.1, by omega⟩) (fun k x s => rfl), aft_some_nxt, hmap, htail, grd_true (fitsS (by simp; omega) (by omega)), hrw]
    exact ⟨_, rfl, rfl, hsm _ (by simp; omega)⟩

/-! Learning. -/
theorem Learn_bad {t : TableT} (hs : Small t) {a port now : Int} (h : ¬ (TbOk t ∧ Uni a ∧ (0 ≤ port ∧ port ≤ 7) ∧ (0 ≤ now ∧ now ≤ 1099511627776))) : fdb_Learn t a port now = some (⟨[], 0, 0⟩, 1) := by
  obtain ⟨b, h1, _, h3⟩ := Right_both hs
  unfold fdb_Learn
  rw [h1, isMac_eq, isPort_eq, isTime_eq]
  simp only [Option.bind_some, gd_some]
  cases b
  · rfl
  · have ht := h3.1 rfl
    by_cases hu : Uni a
    · by_cases hp : 0 ≤ port ∧ port ≤ 7
      · have hn : ¬ (0 ≤ now ∧ now ≤ 1099511627776) := fun hh => h ⟨ht, hu, hp, hh⟩
        simp [hu, hp, hn]
      · simp [hu, hp]
    · simp [hu]
theorem Learn_both {t : TableT} (hs : Small t) {a port now : Int} (h : TbOk t) (ha : Uni a) (hp : 0 ≤ port ∧ port ≤ 7) (hn : 0 ≤ now ∧ now ≤ 1099511627776) : ∃ r, fdb_Learn t a port now = some (r, 0) ∧ ref08_Learn t a port now = some r ∧ Small r := by
  obtain ⟨b, h1, _, h3⟩ := Right_both hs
  have hb : b = true := h3.2 h
  subst hb
  have hl := h.len4 a
  have hbk : gix t.Buckets ((bkt a.toNat t.Buckets.length : Nat) : Int) = some (bk t a) := by rw [gix_nat]; exact h.bucket a
  obtain ⟨r, p1, p2, p3⟩ := Put_both h (e := ⟨a, port, now, false⟩) ha
  unfold fdb_Learn ref08_Learn fdb_pinned
  rw [h1, isMac_eq, isPort_eq, isTime_eq, refbucket_eq h ha, place_eq h ha]
  simp only [Option.bind_some, gd_some, decide_eq_true ha, decide_eq_true hp, decide_eq_true hn, Bool.not_true, cond_false, Bool.not_false, cond_true, hbk]
  rw [Place_eq (by omega), p1, p2]
  simp only [Option.bind_some]
  by_cases hq : 0 ≤ plc (bk t a) a
  · obtain ⟨e, h4, h5⟩ := plc_get hq
    have hg : gix (bk t a) (plc (bk t a) a) = some e := gix_of hq h4
    simp only [decide_eq_true hq, cond_true, gd, hg, Option.bind_some]
    cases e.Static
    · exact ⟨_, rfl, rfl, p3⟩
    · exact ⟨_, rfl, rfl, hs⟩
  · simp only [decide_eq_false hq, cond_false, gd, Option.bind_some, Bool.not_false, cond_true]
    exact ⟨_, rfl, rfl, p3⟩

/-! New ones; the same ones. -/
theorem New_both (n slots age : Int) : fdb_New n slots age = some (if Szs n slots age then (⟨List.replicate n.toNat [], slots, age⟩, 0) else (⟨[], 0, 0⟩, 2)) ∧ (Szs n slots age → ref08_New n slots age = some ⟨List.replicate n.toNat [], slots, age⟩) := by
  constructor
  · unfold fdb_New
    rw [sizes_eq]
    by_cases h : Szs n slots age
    · have hn : 1 ≤ n ∧ n ≤ 16 := by have := h.1; unfold Num at this; omega
      rw [if_pos h, decide_eq_true h]
      simp only [Option.bind_some, Bool.not_true, cond_false]
      rw [grd_true ⟨by omega, Int.le_refl _, fitsS (by omega) (by omega)⟩]
    · rw [if_neg h, decide_eq_false h]; rfl
  · intro h
    have hn : 1 ≤ n ∧ n ≤ 16 := by have := h.1; unfold Num at this; omega
    obtain ⟨m, rfl⟩ : ∃ m : Nat, n = (m : Int) := ⟨n.toNat, by omega⟩
    have e := loopF_count (body := ref08_New_b24 (m : Int)) (fun k => (((k : Nat) : Int), (⟨List.replicate k [], slots, age⟩ : TableT))) m (((m : Nat) : Int), (⟨List.replicate m [], slots, age⟩ : TableT)) (s0 := (0, (⟨[], slots, age⟩ : TableT))) rfl (by omega) (fun k hk => by
      unfold ref08_New_b24
      simp only [decide_eq_true (show ((k : Nat) : Int) < (m : Int) by omega), cond_true]
      rw [grd_true (fitsS (by simp; omega) (by omega)), w64i (by omega) (by omega), List.replicate_succ']
      rfl) (by
      unfold ref08_New_b24
      simp only [decide_eq_false (show ¬ ((m : Nat) : Int) < (m : Int) by omega), cond_false])
    unfold ref08_New
    rw [e, aft_some_nxt, Int.toNat_natCast]
theorem row_ok {α ρ : Type} {body : Nat → α → Unit → Option (Step ρ Unit)} {l : List α} (hl : l.length ≤ 1000000) (hb : ∀ k x, l[k]? = some x → body k x () = some (.nxt ())) : rangeL body l () = some (.nxt ()) := by
  obtain ⟨s, h1, _⟩ := rangeL_inv (s0 := ()) (body := body) hl (fun _ _ => True) trivial (fun k x s hx _ => ⟨(), hb k x hx, trivial⟩)
  exact h1
theorem rows_self (l : List EntryT) (h : l.length ≤ 100000) : ref08_rows l l = some true := by
  unfold ref08_rows
  rw [row_ok (ρ := Bool) (by omega) (fun k x hx => by simp [ref08_rows_b23, gix_nat, hx])]
  simp
theorem Same_self {t : TableT} (hs : Small t) : ref08_Same t t = some true := by
  unfold ref08_Same
  rw [row_ok (ρ := Bool) (by have := hs.1; omega) (fun k x hx => by
    have := hs.2 x (List.mem_of_getElem? hx)
    simp [ref08_Same_b22, gix_nat, hx, rows_self x (by omega)])]
  simp
theorem small_rep (n : Nat) (hn : n ≤ 100) (slots age : Int) : Small ⟨List.replicate n [], slots, age⟩ := ⟨by simp; omega, fun l hl => by
  have := (List.mem_replicate.1 hl).2
  subst this; simp⟩
def fewT (t : TableT) : TableT := ⟨(t.Buckets.take 20).map (·.take 8), t.Slots, t.Age⟩
theorem few_eq (t : TableT) : law08_few t = some (fewT t) := by
  unfold law08_few
  have e20 : t.Buckets.take (mn ((t.Buckets.length : Nat) : Int) 20).toNat = t.Buckets.take 20 := take_mn t.Buckets 20
  rw [grd_true (mn_ok t.Buckets 20 (by omega)), e20]
  have := rangeL_map (body := law08_few_b29) (xs := t.Buckets.take 20) (by rw [List.length_take]; omega) (fun l => l.take 8) (fun k x s hk hs => by
    have hkl := (List.getElem?_eq_some_iff.1 hk).1
    rw [List.length_take] at hkl
    unfold law08_few_b29
    have e8 : x.take (mn ((x.length : Nat) : Int) 8).toNat = x.take 8 := take_mn x 8
    rw [grd_true (mn_ok x 8 (by omega)), e8, grd_true (fitsS (by rw [List.length_append]; simp; omega) (by omega))])
  rw [this]; rfl
theorem few_small (t : TableT) : Small (fewT t) := ⟨by simp [fewT]; omega, fun l hl => by
  obtain ⟨x, hx, rfl⟩ := List.mem_map.1 hl
  rw [List.length_take]; omega⟩
theorem alive08 : law08_alive = some true := by kernel_rfl
theorem FdbLearns_true (a0 a1 a2 : Int) (a3 : TableT) (a4 a5 a6 : Int) : law08_FdbLearns a0 a1 a2 a3 a4 a5 a6 = some true := by
  unfold law08_FdbLearns
  rw [few_eq]
  simp only [Option.bind_some]
  have hs := few_small a3
  generalize fewT a3 = t at hs
  obtain ⟨n1, n2⟩ := New_both a0 a1 a2
  obtain ⟨b, r1, r2, r3⟩ := Right_both hs
  have hz : ref08_Same ⟨[], 0, 0⟩ ⟨[], 0, 0⟩ = some true := Same_self (small_rep 0 (by omega) 0 0)
  have hl : ∃ y, fdb_Learn t a4 a5 a6 = some y ∧ (¬ (TbOk t ∧ Uni a4 ∧ (0 ≤ a5 ∧ a5 ≤ 7) ∧ (0 ≤ a6 ∧ a6 ≤ 1099511627776)) → y = (⟨[], 0, 0⟩, 1)) ∧ ((TbOk t ∧ Uni a4 ∧ (0 ≤ a5 ∧ a5 ≤ 7) ∧ (0 ≤ a6 ∧ a6 ≤ 1099511627776)) → y.2 = 0 ∧ ref08_Learn t a4 a5 a6 = some y.1 ∧ Small y.1) := by
    by_cases h : TbOk t ∧ Uni a4 ∧ (0 ≤ a5 ∧ a5 ≤ 7) ∧ (0 ≤ a6 ∧ a6 ≤ 1099511627776)
    · obtain ⟨r, h1, h2, h3⟩ := Learn_both hs h.1 h.2.1 h.2.2.1 h.2.2.2
      exact ⟨_, h1, fun hn => absurd h hn, fun _ => ⟨rfl, h2, h3⟩⟩
    · exact ⟨_, Learn_bad hs h, fun _ => rfl, fun hh => absurd hh h⟩
  have hf : ∃ y, fdb_Find t a4 a6 = some y ∧ (¬ (TbOk t ∧ Uni a4 ∧ (0 ≤ a6 ∧ a6 ≤ 1099511627776)) → y = (0, 1)) ∧ ((TbOk t ∧ Uni a4 ∧ (0 ≤ a6 ∧ a6 ≤ 1099511627776)) → y.2 = 0 ∧ ref08_Find t a4 a6 = some y.1) := by
    by_cases h : TbOk t ∧ Uni a4 ∧ (0 ≤ a6 ∧ a6 ≤ 1099511627776)
    · obtain ⟨h1, h2⟩ := Find_eq hs h.1 h.2.1 h.2.2
      exact ⟨_, h1, fun hn => absurd h hn, fun _ => ⟨rfl, h2⟩⟩
    · exact ⟨_, Find_bad hs h, fun _ => rfl, fun hh => absurd hh h⟩
  obtain ⟨y, hy, y1, y2⟩ := hl
  obtain ⟨f, hf, f1, f2⟩ := hf
  rw [n1, r1, r2, hy, hf, alive08, refSizes_eq]
  simp only [Option.bind_some, beq_self_eq_true, Bool.not_true, Bool.not_false, cond_true, cond_false, gd_true]
  -- what comes behind the new one
  have tail : ((gd (!(!b)) (ref08_Mac a4)).bind fun y116 =>
        (gd (!(bif (!b) then true else (!y116))) (ref08_Time a6)).bind fun y118 =>
        (bif (bif (bif (!b) then true else (!y116)) then true else (!y118)) then
          (gd (bif (decide (y.2 = 1)) then (decide (f.2 = 1)) else false) (ref08_Same y.1 (⟨[], 0, 0⟩ : TableT))).bind fun y120 =>
          some (bif (bif (bif (decide (y.2 = 1)) then (decide (f.2 = 1)) else false) then y120 else false) then (decide (f.1 = 0)) else false)
        else
          (gd (!(!decide (f.2 = 0))) (ref08_Find t a4 a6)).bind fun y122 =>
          (bif (bif (!decide (f.2 = 0)) then true else (!decide (f.1 = y122))) then
            some false
          else
            (ref08_Port a5).bind fun y124 =>
            (bif (!y124) then
              (gd (decide (y.2 = 1)) (ref08_Same y.1 (⟨[], 0, 0⟩ : TableT))).bind fun y126 =>
              some (bif (decide (y.2 = 1)) then y126 else false)
            else
              (gd (decide (y.2 = 0)) (ref08_Learn t a4 a5 a6)).bind fun y128 =>
              (gd (decide (y.2 = 0)) (ref08_Same y.1 y128)).bind fun y130 =>
              some (bif (decide (y.2 = 0)) then y130 else false))))) = some true := by
    rw [refMac_eq, refTime_eq, refPort_eq]
    simp only [gd_some, Option.bind_some]
    by_cases h : TbOk t ∧ Uni a4 ∧ (0 ≤ a6 ∧ a6 ≤ 1099511627776)
    · obtain ⟨ht, hu, hn⟩ := h
      obtain ⟨g1, g2⟩ := f2 ⟨ht, hu, hn⟩
      have hb : b = true := r3.2 ht
      subst hb
      simp only [Bool.not_true, Bool.not_false, cond_true, cond_false, decide_eq_true hu, decide_eq_true hn, g1, decide_true, gd_true, g2, Option.bind_some]
      by_cases hp : 0 ≤ a5 ∧ a5 ≤ 7
      · obtain ⟨q1, q2, q3⟩ := y2 ⟨ht, hu, hp, hn⟩
        simp only [decide_eq_true hp, Bool.not_true, cond_false, q1, decide_true, gd_true, q2, Option.bind_some, Same_self q3, cond_true]
      · have := y1 (fun hh => hp hh.2.2.1)
        subst this
        simp only [decide_eq_false hp, Bool.not_false, cond_true, decide_true, gd_true, hz, Option.bind_some]
    · have e1 := f1 h
      have e2 := y1 (fun hh => h ⟨hh.1, hh.2.1, hh.2.2.2⟩)
      subst e1; subst e2
      have : (bif (bif (!b) then true else (!(bif (!(!b)) then decide (Uni a4) else default))) then true else (!(bif (!(bif (!b) then true else (!(bif (!(!b)) then decide (Uni a4) else default)))) then decide (0 ≤ a6 ∧ a6 ≤ 1099511627776) else default))) = true := by
        cases b
        · rfl
        · have ht := r3.1 rfl
          by_cases hu : Uni a4
          · have hn : ¬ (0 ≤ a6 ∧ a6 ≤ 1099511627776) := fun hn => h ⟨ht, hu, hn⟩
            simp [hu, hn]
          · simp [hu]
      simp only [this, cond_true, decide_true, gd_true, hz, Option.bind_some]
  by_cases hz2 : Szs a0 a1 a2
  · have hn : 1 ≤ a0 ∧ a0 ≤ 16 := by have := hz2.1; unfold Num at this; omega
    rw [if_pos hz2, decide_eq_true hz2, n2 hz2]
    simp only [Bool.not_true, Bool.not_false, cond_true, cond_false, decide_true, gd_true, Option.bind_some, Same_self (small_rep a0.toNat (by omega) a1 a2)]
    exact tail
  · rw [if_neg hz2, decide_eq_false hz2]
    simp only [Bool.not_true, Bool.not_false, cond_true, cond_false, decide_true, gd_true, Option.bind_some, hz]
    exact tail
end Go.RX
