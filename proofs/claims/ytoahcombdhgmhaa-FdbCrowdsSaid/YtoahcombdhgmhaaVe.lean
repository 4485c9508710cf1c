/- An address that was learned is found till others crowd it out; the law of crowds. -/
import Derived.Test.YtoahcombdhgmhaaUd
import Derived.Test.YtoahcombdhgmhaaVd
set_option linter.unusedVariables false
set_option linter.unusedSimpArgs false
namespace Go.RX
set_option maxHeartbeats 1000000

/-- A table of one bucket. -/
def oneT (l : List EntryT) (slots age : Int) : TableT := ⟨[l], slots, age⟩
theorem bkt1 (a : Nat) : bkt a 1 = 0 := by rw [bkt_eq, Nat.mod_one]
theorem bk_one (l : List EntryT) (slots age a : Int) : bk (oneT l slots age) a = l := by
  show ([l] : List (List EntryT)).getD (bkt a.toNat 1) [] = l
  rw [bkt1]; rfl
theorem wth_one (l L : List EntryT) (slots age a : Int) : wth (oneT l slots age) a L = oneT L slots age := by
  show (⟨([l] : List (List EntryT)).set (bkt a.toNat 1) L, slots, age⟩ : TableT) = _
  rw [bkt1]; rfl
theorem tb_one {l : List EntryT} {slots age : Int} : TbOk (oneT l slots age) ↔ Szs 1 slots age ∧ BOk 1 slots 0 l := by
  constructor
  · intro h
    exact ⟨h.1, h.2 0 l rfl⟩
  · intro h
    refine ⟨h.1, fun b x hx => ?_⟩
    cases b with
    | zero =>
      have : l = x := by simpa [oneT] using hx
      subst this; exact h.2
    | succ b => simp [oneT] at hx
theorem ent_one {x p : Int} (hx : Uni x) (hp : 0 ≤ p ∧ p ≤ 7) : EOk 1 0 ⟨x, p, 0, false⟩ := ⟨hx, hp, ⟨Int.le_refl _, by show (0 : Int) ≤ 1099511627776; omega⟩, fun h => (by cases h), bkt1 _⟩
/-- What is learned, in one bucket without pins. -/
theorem learn_one {l : List EntryT} {slots age : Int} (h : TbOk (oneT l slots age)) (hst : ∀ e ∈ l, e.Static = false) {x p : Int} (hx : Uni x) (hp : 0 ≤ p ∧ p ≤ 7) :
    ∃ L, fdb_Learn (oneT l slots age) x p 0 = some (oneT L slots age, 0) ∧ TbOk (oneT L slots age) ∧ (∀ e ∈ L, e.Static = false) ∧
      (x ∈ l.map (·.Mac) → L = ⟨x, p, 0, false⟩ :: l.filter (fun y => !decide (y.Mac = x))) ∧
      (x ∉ l.map (·.Mac) → ((l.length : Nat) : Int) < slots → L = ⟨x, p, 0, false⟩ :: l) ∧
      (x ∉ l.map (·.Mac) → ((l.length : Nat) : Int) = slots → ∃ init y, l = init ++ [y] ∧ L = ⟨x, p, 0, false⟩ :: init) := by
  have hl4 := h.len4 x
  rw [bk_one] at hl4
  obtain ⟨hz, ⟨hn, hent⟩, hlen⟩ := tb_one.1 h
  obtain ⟨r, h1, h2, _⟩ := Learn_both (small_of h) h hx hp (now := 0) (by omega)
  have hput : ref08_Learn (oneT l slots age) x p 0 = (ref08_put (oneT l slots age) ⟨x, p, 0, false⟩).bind fun y => some y.1 := by
    unfold ref08_Learn
    rw [refbucket_eq h hx, bk_one]
    simp only [Option.bind_some]
    rw [Place_eq (by omega)]
    simp only [Option.bind_some]
    by_cases hq : 0 ≤ plc l x
    · obtain ⟨e, h4, h5⟩ := plc_get hq
      have hg : gix l (plc l x) = some e := gix_of hq h4
      have := hst e (List.mem_of_getElem? h4)
      simp only [decide_eq_true hq, cond_true, gd, hg, Option.bind_some, this, cond_false]
    · simp only [decide_eq_false hq, cond_false, gd, Option.bind_some]
  have hwith := fun L => refwith_eq h hx L
  have hwth := fun L => wth_one l L slots age x
  unfold wth at hwth
  have hfilt := List.length_filter_le (fun y => !decide (y.Mac = x)) l
  have okL : ∀ L : List EntryT, (L.map (·.Mac)).Nodup → x ∉ L.map (·.Mac) → (∀ e ∈ L, e ∈ l) → ((L.length : Nat) : Int) + 1 ≤ slots → TbOk (oneT (⟨x, p, 0, false⟩ :: L) slots age) ∧ ∀ e ∈ (⟨x, p, 0, false⟩ :: L : List EntryT), e.Static = false := fun L g1 g2 g3 g4 => by
    refine ⟨tb_one.2 ⟨hz, ⟨?_, fun e he => ?_⟩, by rw [List.length_cons]; omega⟩, fun e he => ?_⟩
    · rw [List.map_cons, List.nodup_cons]; exact ⟨g2, g1⟩
    · rcases List.mem_cons.1 he with rfl | he
      · exact ent_one hx hp
      · exact hent e (g3 e he)
    · rcases List.mem_cons.1 he with rfl | he
      · rfl
      · exact hst e (g3 e he)
  rw [hput] at h2
  unfold ref08_put at h2
  rw [refbucket_eq h hx, bk_one] at h2
  simp only [Option.bind_some] at h2
  rw [refwithout_eq (by omega)] at h2
  simp only [Option.bind_some] at h2
  by_cases hm : x ∈ l.map (·.Mac)
  · have hlt : (l.filter (fun y => !decide (y.Mac = x))).length < l.length := by
      rw [List.length_filter_lt_length_iff_exists]
      obtain ⟨e, he, hex⟩ := List.mem_map.1 hm
      exact ⟨e, he, by simp [hex]⟩
    rw [decide_eq_false (show ¬ (((l.filter (fun y => !decide (y.Mac = x))).length : Nat) : Int) = (oneT l slots age).Slots by show ¬ _ = slots; omega)] at h2
    simp only [cond_false] at h2
    rw [grd_true (fitsS (by simp; omega) (by omega)), hwith, hwth] at h2
    simp only [Option.bind_some, Option.some.injEq] at h2
    subst h2
    obtain ⟨k1, k2⟩ := okL (l.filter (fun y => !decide (y.Mac = x))) (((List.filter_sublist : (l.filter fun y => !decide (y.Mac = x)).Sublist l).map (fun y => y.Mac)).nodup hn) (fun hh => by
      obtain ⟨e, he, hex⟩ := List.mem_map.1 hh
      have := (List.mem_filter.1 he).2
      simp [hex] at this) (fun e he => (List.mem_filter.1 he).1) (by omega)
    exact ⟨_, h1, k1, k2, fun _ => rfl, fun hh => absurd hm hh, fun hh => absurd hm hh⟩
  · have hfl : (l.filter fun y => !decide (y.Mac = x)) = l := List.filter_eq_self.2 fun y hy => by
      have : y.Mac ≠ x := fun hh => hm (List.mem_map.2 ⟨y, hy, hh⟩)
      simp [this]
    rw [hfl] at h2
    by_cases hfull : ((l.length : Nat) : Int) = slots
    · have hne : l ≠ [] := fun hh => by
        rw [hh] at hfull
        have := hz.2.1.1
        simp at hfull; omega
      obtain ⟨init, y, hiy⟩ : ∃ init y, l = init ++ [y] := ⟨l.dropLast, l.getLast hne, (List.dropLast_concat_getLast hne).symm⟩
      have hlst : Lst l l.length := ⟨Nat.le_refl _, fun k e hk he => by
        have := (List.getElem?_eq_some_iff.1 he).1; omega, .inr ⟨y, by rw [hiy]; simp, hst y (by rw [hiy]; simp)⟩⟩
      have hll : l.length = init.length + 1 := by rw [hiy]; simp
      have hg : gix l (((l.length : Nat) : Int) - 1) = some y := by
        rw [show ((l.length : Nat) : Int) - 1 = ((init.length : Nat) : Int) by omega, gix_nat, hiy]; simp
      have hnd := hn
      rw [hiy, List.map_append, List.nodup_append] at hnd
      have hw2 : (l.filter fun z => !decide (z.Mac = y.Mac)) = init := by
        have hfi : (init.filter fun z => !decide (z.Mac = y.Mac)) = init := List.filter_eq_self.2 fun z hz => by
          have : z.Mac ≠ y.Mac := hnd.2.2 _ (List.mem_map.2 ⟨z, hz, rfl⟩) _ (by simp)
          simp [this]
        rw [hiy, List.filter_append, hfi]
        simp
      rw [decide_eq_true (show ((l.length : Nat) : Int) = (oneT l slots age).Slots from hfull)] at h2
      simp only [cond_true] at h2
      rw [last_eq (by omega) hlst] at h2
      simp only [Option.bind_some] at h2
      rw [decide_eq_false (show ¬ ((l.length : Nat) : Int) - 1 < 0 by omega)] at h2
      simp only [cond_false, hg, Option.bind_some] at h2
      rw [refwithout_eq (by omega), hw2] at h2
      simp only [Option.bind_some] at h2
      rw [grd_true (fitsS (by simp; omega) (by omega)), hwith, hwth] at h2
      simp only [Option.bind_some, Option.some.injEq] at h2
      subst h2
      obtain ⟨k1, k2⟩ := okL init hnd.1 (fun hh => hm (by rw [hiy, List.map_append]; exact List.mem_append_left _ hh)) (fun e he => by rw [hiy]; exact List.mem_append_left _ he) (by omega)
      exact ⟨_, h1, k1, k2, fun hh => absurd hh hm, fun _ hh => by omega, fun _ _ => ⟨init, y, hiy, rfl⟩⟩
    · rw [decide_eq_false (show ¬ ((l.length : Nat) : Int) = (oneT l slots age).Slots from hfull)] at h2
      simp only [cond_false] at h2
      rw [grd_true (fitsS (by simp; omega) (by omega)), hwith, hwth] at h2
      simp only [Option.bind_some, Option.some.injEq] at h2
      subst h2
      obtain ⟨k1, k2⟩ := okL l hn hm (fun e he => he) (by omega)
      exact ⟨_, h1, k1, k2, fun hh => absurd hh hm, fun _ _ => rfl, fun _ hh => absurd hh hfull⟩

/-! What was met. -/
theorem mput_old {m : List (Int × Int)} {k : Int} (h : k ∈ m.map (·.1)) (v : Int) : (mput m k v).length = m.length ∧ (mput m k v).map (·.1) = m.map (·.1) := by
  unfold mput
  cases hf : mfind m k with
  | none =>
    obtain ⟨p, hp, hk⟩ := List.mem_map.1 h
    obtain ⟨j, hj⟩ := List.getElem?_of_mem hp
    exact absurd hk (mfind_none hf j p hj)
  | some q =>
    obtain ⟨i, u⟩ := q
    obtain ⟨h1, _⟩ := mfind_some hf
    refine ⟨by simp, ?_⟩
    show (m.set i (k, v)).map (·.1) = _
    apply List.ext_getElem?
    intro j
    rw [List.getElem?_map, List.getElem?_map]
    by_cases hij : i = j
    · subst hij
      rw [List.getElem?_set_self (List.getElem?_eq_some_iff.1 h1).1, h1]; rfl
    · rw [List.getElem?_set_ne hij]
theorem mput_new {m : List (Int × Int)} {k : Int} (h : k ∉ m.map (·.1)) (v : Int) : mput m k v = m ++ [(k, v)] := by
  unfold mput
  rw [mfind_none_of fun j p hj hk => h (List.mem_map.2 ⟨p, List.mem_of_getElem? hj, hk⟩)]

structure CI (a port slots age : Int) (l : List EntryT) (m : List (Int × Int)) : Prop where
  ok : TbOk (oneT l slots age)
  st : ∀ e ∈ l, e.Static = false
  far : a ∉ m.map (·.1)
  at' : (((m.length : Nat) : Int) < slots ∧ ∃ pre, l = pre ++ [⟨a, port, 0, false⟩] ∧ pre.length = m.length ∧ ∀ k, k ∈ m.map (·.1) ↔ k ∈ pre.map (·.Mac)) ∨ (slots ≤ ((m.length : Nat) : Int) ∧ a ∉ l.map (·.Mac))
theorem CI.step {a port slots age : Int} {l : List EntryT} {m : List (Int × Int)} (h : CI a port slots age l m) {x p : Int} (hx : Uni x) (hxa : x ≠ a) (hp : 0 ≤ p ∧ p ≤ 7) (v : Int) :
    ∃ L, fdb_Learn (oneT l slots age) x p 0 = some (oneT L slots age, 0) ∧ CI a port slots age L (mput m x v) := by
  obtain ⟨L, h1, h2, h3, c1, c2, c3⟩ := learn_one h.ok h.st hx hp
  obtain ⟨hz, ⟨hn, hent⟩, hlen⟩ := tb_one.1 h.ok
  obtain ⟨_, ⟨hnL, _⟩, _⟩ := tb_one.1 h2
  refine ⟨L, h1, h2, h3, ?_, ?_⟩
  · by_cases hm : x ∈ m.map (·.1)
    · rw [(mput_old hm v).2]; exact h.far
    · rw [mput_new hm, List.map_append]
      intro hh
      rcases List.mem_append.1 hh with hh | hh
      · exact h.far hh
      · simp at hh; exact hxa hh.symm
  · rcases h.at' with ⟨hd, pre, hl, hpl, hk⟩ | ⟨hd, ha⟩
    · by_cases hm : x ∈ m.map (·.1)
      · have hxp := (hk x).1 hm
        have hxl : x ∈ l.map (·.Mac) := by rw [hl, List.map_append]; exact List.mem_append_left _ hxp
        have hLe := c1 hxl
        obtain ⟨e1, e2⟩ := mput_old hm v
        left
        rw [e1, e2]
        refine ⟨hd, ⟨x, p, 0, false⟩ :: pre.filter (fun y => !decide (y.Mac = x)), ?_, ?_, fun k => ?_⟩
        · rw [hLe, hl, List.filter_append]
          have : ¬ a = x := fun hh => hxa hh.symm
          simp [this]
        · -- one goes and one comes
          obtain ⟨i, hi⟩ := List.getElem?_of_mem hxp
          rw [List.getElem?_map, Option.map_eq_some_iff] at hi
          obtain ⟨e, he, hex⟩ := hi
          have hnp : (pre.map (·.Mac)).Nodup := by
            rw [hl, List.map_append, List.nodup_append] at hn; exact hn.1
          have hil := (List.getElem?_eq_some_iff.1 he).1
          have hsp : pre = pre.take i ++ e :: pre.drop (i + 1) := by
            have := List.take_append_drop i pre
            rw [List.drop_eq_getElem_cons hil, (List.getElem?_eq_some_iff.1 he).2] at this
            exact this.symm
          have hf : ∀ q : List EntryT, (∀ z ∈ q, z.Mac ≠ x) → q.filter (fun y => !decide (y.Mac = x)) = q := fun q hq => List.filter_eq_self.2 fun z hz => by simp [hq z hz]
          rw [hsp, List.map_append, List.map_cons, List.nodup_append, List.nodup_cons] at hnp
          have f1 := hf (pre.take i) (fun z hz hh => hnp.2.2 _ (List.mem_map.2 ⟨z, hz, rfl⟩) _ List.mem_cons_self (hh.trans hex.symm))
          have f2 := hf (pre.drop (i + 1)) (fun z hz hh => hnp.2.1.1 (List.mem_map.2 ⟨z, hz, hh.trans hex.symm⟩))
          have : (pre.filter (fun y => !decide (y.Mac = x))).length + 1 = pre.length := by
            conv => lhs; rw [hsp]
            rw [List.filter_append, List.filter_cons, f1, f2]
            simp [hex]
            omega
          rw [List.length_cons]; omega
        · rw [hk k, List.map_cons, List.mem_cons]
          constructor
          · intro hh
            by_cases hkx : k = x
            · exact .inl hkx
            · obtain ⟨e, he, hek⟩ := List.mem_map.1 hh
              exact .inr (List.mem_map.2 ⟨e, List.mem_filter.2 ⟨he, by simp [hek, hkx]⟩, hek⟩)
          · rintro (hh | hh)
            · rw [hh]; exact hxp
            · obtain ⟨e, he, hek⟩ := List.mem_map.1 hh
              exact List.mem_map.2 ⟨e, (List.mem_filter.1 he).1, hek⟩
      · have hxl : x ∉ l.map (·.Mac) := by
          rw [hl, List.map_append]
          intro hh
          rcases List.mem_append.1 hh with hh | hh
          · exact hm ((hk x).2 hh)
          · simp at hh; exact hxa hh
        have hll : l.length = m.length + 1 := by rw [hl]; simp [hpl]
        rw [mput_new hm]
        by_cases hfull : ((l.length : Nat) : Int) = slots
        · obtain ⟨init, y, hiy, hLe⟩ := c3 hxl hfull
          right
          refine ⟨by simp; omega, ?_⟩
          have : init = pre := by
            have h5 := hl.symm.trans hiy
            exact (List.append_inj' h5 rfl).1.symm
          subst this
          rw [hLe, List.map_cons, List.mem_cons]
          rintro (hh | hh)
          · exact hxa hh.symm
          · exact h.far ((hk a).2 hh)
        · have hLe := c2 hxl (by omega)
          left
          refine ⟨by simp; omega, ⟨x, p, 0, false⟩ :: pre, by rw [hLe, hl]; rfl, by simp; omega, fun k => ?_⟩
          rw [List.map_append, List.mem_append, List.map_cons, List.mem_cons, hk k]
          simp [or_comm]
    · right
      have hle : m.length ≤ (mput m x v).length := by
        by_cases hm : x ∈ m.map (·.1)
        · rw [(mput_old hm v).1]; exact Nat.le_refl _
        · rw [mput_new hm]; simp
      refine ⟨by omega, fun hh => ?_⟩
      by_cases hxl : x ∈ l.map (·.Mac)
      · rw [c1 hxl, List.map_cons, List.mem_cons] at hh
        rcases hh with hh | hh
        · exact hxa hh.symm
        · obtain ⟨e, he, hea⟩ := List.mem_map.1 hh
          exact ha (List.mem_map.2 ⟨e, (List.mem_filter.1 he).1, hea⟩)
      · by_cases hfull : ((l.length : Nat) : Int) = slots
        · obtain ⟨init, y, hiy, hLe⟩ := c3 hxl hfull
          rw [hLe, List.map_cons, List.mem_cons] at hh
          rcases hh with hh | hh
          · exact hxa hh.symm
          · exact ha (by rw [hiy, List.map_append]; exact List.mem_append_left _ hh)
        · rw [c2 hxl (by omega), List.map_cons, List.mem_cons] at hh
          rcases hh with hh | hh
          · exact hxa hh.symm
          · exact ha hh
theorem CI.find {a port slots age : Int} {l : List EntryT} {m : List (Int × Int)} (h : CI a port slots age l m) (wait : Int) : fnd (oneT l slots age) a wait = if slots ≤ ((m.length : Nat) : Int) ∨ age < wait then -1 else port := by
  obtain ⟨hz, ⟨hn, hent⟩, hlen⟩ := tb_one.1 h.ok
  unfold fnd
  rw [bk_one]
  rcases h.at' with ⟨hd, pre, hl, hpl, hk⟩ | ⟨hd, ha⟩
  · have ham : a ∈ l.map (·.Mac) := by rw [hl, List.map_append]; simp
    have hp := plc_mem.2 ham
    obtain ⟨e, h1, h2⟩ := plc_get hp
    have hee : e = ⟨a, port, 0, false⟩ := by
      have hmem := List.mem_of_getElem? h1
      rw [hl] at hmem
      rcases List.mem_append.1 hmem with hmem | hmem
      · exact absurd ((hk a).2 (List.mem_map.2 ⟨e, hmem, h2⟩)) h.far
      · simpa using hmem
    subst hee
    rw [h1]
    simp only [show ¬ plc l a < 0 by omega, if_false]
    show (if false = true ∨ wait - 0 ≤ age then port else -1) = _
    by_cases hw : age < wait
    · rw [if_neg (by simp; omega), if_pos (.inr hw)]
    · rw [if_pos (.inr (by omega)), if_neg (by omega)]
  · have hp : plc l a < 0 := by
      rw [← Int.not_le]; exact fun hh => ha (plc_mem.1 hh)
    rw [if_pos (.inl hd)]
    split
    · rw [if_pos hp]
    · rfl
theorem mdC {n : Int} (h1 : 1 ≤ n) (h2 : n ≤ 1000000) (a : Int) : 0 ≤ (IntKind.i64.wrap (a.tmod n + n)).tmod n ∧ (IntKind.i64.wrap (a.tmod n + n)).tmod n < n := by
  obtain ⟨i, h3, h4⟩ := idx_ok h1 h2 a
  omega
theorem uni_small {x : Int} (h0 : 0 ≤ x) (h1 : x < 1000) : Uni x := ⟨h0, by omega, by omega, by omega⟩
theorem FdbCrowds_true (a0 a1 a2 : Int) (a3 : List Int) (a4 a5 : Int) : law08_FdbCrowds a0 a1 a2 a3 a4 a5 = some true := by
  have b0 := mdC (n := 4) (by omega) (by omega) a0
  have b1 := mdC (n := 50) (by omega) (by omega) a1
  have b2 := mdC (n := 8) (by omega) (by omega) a2
  have b4 := mdC (n := 12) (by omega) (by omega) a4
  have b5 := mdC (n := 60) (by omega) (by omega) a5
  unfold law08_FdbCrowds
  have body : ∀ k x s, law08_FdbCrowds_b30 a2 a4 k x s = law08_FdbCrowds_b30 a2 a4 k x s := fun _ _ _ => rfl
  unfold law08_FdbCrowds_b30
  generalize (IntKind.i64.wrap (a0.tmod 4 + 4)).tmod 4 = s0 at *
  generalize (IntKind.i64.wrap (a1.tmod 50 + 50)).tmod 50 = g0 at *
  generalize (IntKind.i64.wrap (a2.tmod 8 + 8)).tmod 8 = port at *
  generalize (IntKind.i64.wrap (a4.tmod 12 + 12)).tmod 12 = q at *
  generalize (IntKind.i64.wrap (a5.tmod 60 + 60)).tmod 60 = wait at *
  rw [w64i (x := 1 + s0) (by omega) (by omega), w64i (x := 1 + g0) (by omega) (by omega), w64i (x := 2 * q) (by omega) (by omega), w64i (x := 7 - port) (by omega) (by omega)]
  have hz : Szs 1 (1 + s0) (1 + g0) := ⟨.inl rfl, by omega, by omega⟩
  have hnew := (New_both 1 (1 + s0) (1 + g0)).1
  rw [if_pos hz] at hnew
  rw [show (⟨List.replicate (Int.toNat 1) [], 1 + s0, 1 + g0⟩ : TableT) = oneT [] (1 + s0) (1 + g0) from rfl] at hnew
  have h0 : TbOk (oneT [] (1 + s0) (1 + g0)) := tb_one.2 ⟨hz, ⟨by simp, by simp⟩, by simp; omega⟩
  have ha : Uni (2 * q) := uni_small (by omega) (by omega)
  obtain ⟨L, h1, h2, h3, _, c2, _⟩ := learn_one h0 (by simp) ha (p := port) (by omega)
  have hL := c2 (by simp) (by simp; omega)
  subst hL
  rw [hnew]
  simp only [Option.bind_some]
  rw [h1]
  simp only [Option.bind_some, decide_true, Bool.not_true, cond_false]
  have e20 : a3.take (mn ((a3.length : Nat) : Int) 20).toNat = a3.take 20 := take_mn a3 20
  rw [grd_true (mn_ok a3 20 (by omega)), e20]
  have hci : CI (2 * q) port (1 + s0) (1 + g0) [⟨2 * q, port, 0, false⟩] [] := ⟨h2, h3, by simp, .inl ⟨by simp; omega, [], rfl, rfl, by simp⟩⟩
  have hloop := rangeL_inv (ρ := Bool) (xs := a3.take 20) (s0 := (oneT [⟨2 * q, port, 0, false⟩] (1 + s0) (1 + g0), ([] : List (Int × Int)))) (body := fun (k30 : Nat) (x30 : Int) (s30 : (TableT × (List (Int × Int)))) =>
    (bif (decide ((IntKind.i64.wrap (2 * (((IntKind.i64.wrap (((x30).tmod 12) + 12))).tmod 12))) = 2 * q)) then
      some (.nxt (s30.1, s30.2))
    else
      (fdb_Learn s30.1 (IntKind.i64.wrap (2 * (((IntKind.i64.wrap (((x30).tmod 12) + 12))).tmod 12))) (7 - port) 0).bind fun y6 =>
      (bif (!decide (y6.2 = 0)) then
        some (.ret false)
      else
        some (.nxt (y6.1, (mput s30.2 (IntKind.i64.wrap (2 * (((IntKind.i64.wrap (((x30).tmod 12) + 12))).tmod 12))) (IntKind.i64.wrap ((mget s30.2 (IntKind.i64.wrap (2 * (((IntKind.i64.wrap (((x30).tmod 12) + 12))).tmod 12))) 0) + 1)))))))) (by rw [List.length_take]; omega)
    (fun _ s => ∃ l, s.1 = oneT l (1 + s0) (1 + g0) ∧ CI (2 * q) port (1 + s0) (1 + g0) l s.2) ⟨_, rfl, hci⟩ (fun k x s hx ⟨l, hl, hc⟩ => by
      have bx := mdC (n := 12) (by omega) (by omega) x
      generalize (IntKind.i64.wrap (x.tmod 12 + 12)).tmod 12 = z at *
      simp only [w64i (x := 2 * z) (by omega) (by omega)]
      by_cases he : 2 * z = 2 * q
      · rw [decide_eq_true he]
        exact ⟨_, rfl, l, hl, hc⟩
      · rw [decide_eq_false he, hl]
        obtain ⟨L', l1, l2⟩ := hc.step (x := 2 * z) (p := 7 - port) (uni_small (by omega) (by omega)) he (by omega) (IntKind.i64.wrap (mget s.2 (2 * z) 0 + 1))
        rw [l1]
        exact ⟨_, rfl, L', rfl, l2⟩)
  obtain ⟨s, l1, l, l2, l3⟩ := hloop
  rw [l1, aft_some_nxt, l2, (Find_eq (small_of l3.ok) l3.ok ha (now := wait) (by omega)).1, l3.find wait, alive08]
  simp only [Option.bind_some]
  by_cases hd : 1 + s0 ≤ ((s.2.length : Nat) : Int)
  · simp [hd]
  · by_cases hw : 1 + g0 < wait
    · simp [hd, hw]
    · simp [hd, hw]
end Go.RX
