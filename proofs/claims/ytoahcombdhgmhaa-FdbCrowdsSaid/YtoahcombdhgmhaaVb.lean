/- Tables that may be, and what is found in them, plainly. -/
import Derived.Test.YtoahcombdhgmhaaVa
import Derived.Test.YtoahcombdhgmhaaGen
set_option linter.unusedVariables false
set_option linter.unusedSimpArgs false
namespace Go.RX
set_option maxHeartbeats 1000000

/-- A map counts what was met. -/
theorem cnt_loopR {α ρ : Type} {r0 : ρ} {body : Nat → α → List (Int × Int) → Option (Step ρ (List (Int × Int)))} {xs : List α} (hl : xs.length ≤ 1000000) (key : α → Int) (ok : α → Prop) [DecidablePred ok]
    (hs : ∀ k x m, xs[k]? = some x → 0 ≤ mget m (key x) 0 → mget m (key x) 0 ≤ 1000000 → body k x m = some (bif decide (0 < mget m (key x) 0 ∨ ¬ ok x) then .ret r0 else .nxt (mput m (key x) (mget m (key x) 0 + 1)))) :
    (((xs.map key).Nodup ∧ ∀ x ∈ xs, ok x) ∧ ∃ s, rangeL body xs [] = some (.nxt s)) ∨ (¬ ((xs.map key).Nodup ∧ ∀ x ∈ xs, ok x) ∧ rangeL body xs [] = some (.ret r0)) := by
  obtain ⟨o, h1, h2⟩ := rangeL_rec (s0 := []) (body := body) hl
    (fun k m => (((xs.take k).map key).Nodup ∧ ∀ x ∈ xs.take k, ok x) ∧ ∀ z, mget m z 0 = if z ∈ (xs.take k).map key then 1 else 0)
    (fun r => r = r0 ∧ ¬ ((xs.map key).Nodup ∧ ∀ x ∈ xs, ok x)) (fun _ => False) (by simp [mget_nil]) (fun k x m hx ⟨⟨i1, i2⟩, i3⟩ => by
      have ht : xs.take (k + 1) = xs.take k ++ [x] := by rw [List.take_add_one, hx]; rfl
      have hr : mget m (key x) 0 = 0 ∨ mget m (key x) 0 = 1 := by rw [i3]; split <;> simp
      refine ⟨_, hs k x m hx (by omega) (by omega), ?_⟩
      by_cases hb : 0 < mget m (key x) 0 ∨ ¬ ok x
      · rw [decide_eq_true hb]
        refine ⟨rfl, fun ⟨n1, n2⟩ => ?_⟩
        rcases hb with hb | hb
        · have hmem : key x ∈ (xs.take k).map key := by
            rw [i3] at hb; split at hb
            · assumption
            · omega
          have : (xs.take (k + 1)).Sublist xs := List.take_sublist _ _
          have := (this.map key).nodup n1
          rw [ht, List.map_append, List.nodup_append] at this
          exact this.2.2 _ hmem _ (by simp) rfl
        · exact hb (n2 x (List.mem_of_getElem? hx))
      · rw [decide_eq_false hb]
        have hb1 : mget m (key x) 0 = 0 := by omega
        have hb2 : ok x := Classical.not_not.1 fun h => hb (.inr h)
        have hn : key x ∉ (xs.take k).map key := fun h => by rw [i3, if_pos h] at hb1; omega
        refine ⟨⟨?_, ?_⟩, fun z => ?_⟩
        · rw [ht, List.map_append, List.nodup_append]
          exact ⟨i1, by simp, fun a ha b hb => by simp at hb; subst hb; exact fun e => hn (e ▸ ha)⟩
        · rw [ht]; intro y hy
          rcases List.mem_append.1 hy with hy | hy
          · exact i2 y hy
          · simp at hy; subst hy; exact hb2
        · rw [ht, List.map_append]
          by_cases e : key x = z
          · subst e; rw [mget_mput, hb1, if_pos (by simp)]; rfl
          · rw [mget_mput_ne e, i3]
            have : z ∈ List.map key (List.take k xs) ++ List.map key [x] ↔ z ∈ List.map key (List.take k xs) := by simp [Ne.symm e]
            simp only [this])
  cases o with
  | ret r => obtain ⟨rfl, h3⟩ := h2; exact .inr ⟨h3, h1⟩
  | brk s => exact h2.elim
  | nxt s =>
    have := h2.resolve_right id
    rw [List.take_length] at this
    exact .inl ⟨this.1, s, h1⟩

/-- An entry, a bucket, a table that may be. -/
def EOk (n b : Nat) (e : EntryT) : Prop := Uni e.Mac ∧ (0 ≤ e.Port ∧ e.Port ≤ 7) ∧ (0 ≤ e.Seen ∧ e.Seen ≤ 1099511627776) ∧ (e.Static = true → e.Seen = 0) ∧ bkt e.Mac.toNat n = b
noncomputable instance (n b : Nat) (e : EntryT) : Decidable (EOk n b e) := by unfold EOk; infer_instance
def BOk (n : Nat) (slots : Int) (b : Nat) (l : List EntryT) : Prop := ((l.map (·.Mac)).Nodup ∧ ∀ e ∈ l, EOk n b e) ∧ ((l.length : Nat) : Int) ≤ slots
noncomputable instance (n : Nat) (slots : Int) (b : Nat) (l : List EntryT) : Decidable (BOk n slots b l) := by unfold BOk; infer_instance
def TbOk (t : TableT) : Prop := Szs ((t.Buckets.length : Nat) : Int) t.Slots t.Age ∧ ∀ b l, t.Buckets[b]? = some l → BOk t.Buckets.length t.Slots b l
theorem Uni.nat {a : Int} (h : Uni a) : a = ((a.toNat : Nat) : Int) ∧ a.toNat < 281474976710656 := by
  obtain ⟨h1, h2, _⟩ := h
  omega
theorem ent_cond {n b : Nat} {e : EntryT} (hn : Num (n : Int)) :
    (fdb_isMac e.Mac = some (decide (Uni e.Mac))) ∧ (Uni e.Mac → hash_Bucket e.Mac (n : Int) = some (((bkt e.Mac.toNat n : Nat) : Int), 0)) ∧ (Uni e.Mac → ref07_Bucket e.Mac (n : Int) = some ((bkt e.Mac.toNat n : Nat) : Int)) := by
  refine ⟨isMac_eq _, fun h => ?_, fun h => ?_⟩
  · obtain ⟨h1, h2⟩ := h.nat
    rw [h1]; simp only [Int.toNat_natCast]; exact hash_Bucket_eq h2 hn
  · obtain ⟨h1, h2⟩ := h.nat
    rw [h1]; simp only [Int.toNat_natCast]; exact ref07_Bucket_eq h2 hn
theorem Right_row {t : TableT} (hn : Num ((t.Buckets.length : Nat) : Int)) {b : Nat} {l : List EntryT} (hl : l.length ≤ 1000) :
    fdb_Right_b3 t b l () = some (bif !decide (BOk t.Buckets.length t.Slots b l) then .ret false else .nxt ()) := by
  unfold fdb_Right_b3
  rcases cnt_loopR (r0 := Step.ret false) (body := fdb_Right_b4 t b) (xs := l) (by omega) (·.Mac) (EOk t.Buckets.length b) (fun k x m hx m1 m2 => by
    obtain ⟨e1, e2, _⟩ := ent_cond (n := t.Buckets.length) (b := b) (e := x) hn
    unfold fdb_Right_b4
    simp only [e1, isPort_eq, isTime_eq, gd_some, Option.bind_some, w64i (x := mget m x.Mac 0 + 1) (by omega) (by omega)]
    by_cases hu : Uni x.Mac
    rotate_left
    · have : ¬ EOk t.Buckets.length b x := fun h => hu h.1
      simp [hu, this]
    by_cases hp : 0 ≤ x.Port ∧ x.Port ≤ 7
    rotate_left
    · have : ¬ EOk t.Buckets.length b x := fun h => hp h.2.1
      simp [hu, hp, this]
    by_cases hs : 0 ≤ x.Seen ∧ x.Seen ≤ 1099511627776
    rotate_left
    · have : ¬ EOk t.Buckets.length b x := fun h => hs h.2.2.1
      simp [hu, hp, hs, this]
    by_cases hst : x.Static = true → x.Seen = 0
    rotate_left
    · have : ¬ EOk t.Buckets.length b x := fun h => hst h.2.2.2.1
      have h1 : x.Static = true := Classical.byContradiction fun h => hst fun h' => absurd h' h
      have h2 : ¬ x.Seen = 0 := fun h => hst fun _ => h
      simp [hu, hp, hs, this, h1, h2]
    rw [e2 hu]
    have hst' : (bif x.Static then (!((decide True) && ((decide True) && ((decide (x.Seen = 0)) && ((x.Static == true) && true))))) else false) = false := by
      cases hx : x.Static
      · rfl
      · simp [hst hx]
    rw [hst']
    simp only [decide_eq_true hu, decide_eq_true hp, decide_eq_true hs, Bool.not_true, cond_false, cond_true, Option.bind_some]
    by_cases hb : bkt x.Mac.toNat t.Buckets.length = b
    · have : EOk t.Buckets.length b x := ⟨hu, hp, hs, hst, hb⟩
      by_cases hm : 0 < mget m x.Mac 0
      · have h1 : 1 < mget m x.Mac 0 + 1 := by omega
        simp [hb, hm, h1]
      · have h1 : ¬ 1 < mget m x.Mac 0 + 1 := by omega
        simp [hb, hm, h1, this]
    · have : ¬ EOk t.Buckets.length b x := fun h => hb h.2.2.2.2
      have h1 : ¬ ((bkt x.Mac.toNat t.Buckets.length : Nat) : Int) = (b : Int) := by omega
      simp [h1, this]) with ⟨h1, s, h2⟩ | ⟨h1, h2⟩
  · rw [h2, aft_some_nxt]
    by_cases h3 : ((l.length : Nat) : Int) ≤ t.Slots
    · have : BOk t.Buckets.length t.Slots b l := ⟨h1, h3⟩
      have h4 : ¬ t.Slots < ((l.length : Nat) : Int) := by omega
      simp [this, h4]
    · have : ¬ BOk t.Buckets.length t.Slots b l := fun h => h3 h.2
      have h4 : t.Slots < ((l.length : Nat) : Int) := by omega
      simp [this, h4]
  · have : ¬ BOk t.Buckets.length t.Slots b l := fun h => h1 h.1
    rw [h2, aft_some_ret]
    simp [this]

/-- Where an address is among entries. -/
def plc : List EntryT → Int → Int
  | [], _ => -1
  | e :: l, a => if e.Mac = a then 0 else if plc l a < 0 then -1 else plc l a + 1
theorem plc_none {a : Int} : ∀ {l : List EntryT}, (∀ e ∈ l, e.Mac ≠ a) → plc l a = -1
  | [], _ => rfl
  | e :: l, h => by
    unfold plc
    rw [if_neg (h e List.mem_cons_self), plc_none fun x hx => h x (List.mem_cons_of_mem _ hx)]
    rfl
theorem plc_at {a : Int} : ∀ {l : List EntryT} {k : Nat} {e : EntryT}, l[k]? = some e → e.Mac = a → (∀ j y, j < k → l[j]? = some y → y.Mac ≠ a) → plc l a = (k : Int)
  | [], k, e, h, _, _ => by simp at h
  | x :: l, 0, e, h, he, _ => by
    simp at h; subst h
    unfold plc; rw [if_pos he]; rfl
  | x :: l, k + 1, e, h, he, hj => by
    have hx : x.Mac ≠ a := hj 0 x (by omega) rfl
    have := plc_at (l := l) (k := k) (by simpa using h) he (fun j y hlt hy => hj (j + 1) y (by omega) (by simpa using hy))
    unfold plc
    rw [if_neg hx, this, if_neg (by omega)]
    omega
theorem find_loop {ρ : Type} {body : Nat → EntryT → Unit → Option (Step Int Unit)} {l : List EntryT} {a : Int} (hl : l.length ≤ 1000000) (hb : ∀ k x, l[k]? = some x → body k x () = some (bif decide (x.Mac = a) then .ret ((k : Nat) : Int) else .nxt ())) :
    aft (rangeL body l ()) (fun _ => some (-1)) = some (plc l a) := by
  rcases rangeL_find (s0 := ()) hl (fun _ x => decide (x.Mac = a)) (fun k _ => ((k : Nat) : Int)) hb with ⟨k, x, hx, hp, hj, h⟩ | ⟨hp, h⟩
  · rw [h, aft_some_ret, plc_at hx (by simpa using hp) (fun j y hlt hy => by simpa using hj j y hlt hy)]
  · rw [h, aft_some_nxt, plc_none fun x hx => ?_]
    obtain ⟨k, hk⟩ := List.getElem?_of_mem hx
    simpa using hp k x hk
theorem Place_eq {l : List EntryT} (hl : l.length ≤ 1000000) (a : Int) : ref08_Place l a = some (plc l a) :=
  find_loop (ρ := Unit) (body := ref08_Place_b21 a) hl fun k x hx => by unfold ref08_Place_b21; cases decide (x.Mac = a) <;> rfl
theorem Index_eq {l : List EntryT} (hl : l.length ≤ 1000000) (a : Int) : slices_IndexFunc_Entry l (fun x => fdb_place_1 x a) = some (plc l a) :=
  find_loop (ρ := Unit) (body := slices_IndexFunc_Entry_b5 fun x => fdb_place_1 x a) hl fun k x hx => by
    simp only [slices_IndexFunc_Entry_b5, fdb_place_1, Option.bind_some]
    cases decide (x.Mac = a) <;> rfl
/-- What is found is there. -/
theorem plc_get {a : Int} : ∀ {l : List EntryT}, 0 ≤ plc l a → ∃ e, l[(plc l a).toNat]? = some e ∧ e.Mac = a
  | [], h => by simp [plc] at h
  | x :: l, h => by
    unfold plc at h ⊢
    by_cases hx : x.Mac = a
    · rw [if_pos hx]; exact ⟨x, rfl, hx⟩
    · rw [if_neg hx] at h ⊢
      by_cases hl : plc l a < 0
      · rw [if_pos hl] at h; omega
      · rw [if_neg hl] at h ⊢
        obtain ⟨e, h1, h2⟩ := plc_get (l := l) (a := a) (by omega)
        refine ⟨e, ?_, h2⟩
        rw [show (plc l a + 1).toNat = (plc l a).toNat + 1 by omega]
        simpa using h1
theorem plc_mem {l : List EntryT} {a : Int} : 0 ≤ plc l a ↔ a ∈ l.map (·.Mac) := by
  constructor
  · intro h
    obtain ⟨e, h1, h2⟩ := plc_get h
    exact List.mem_map.2 ⟨e, List.mem_of_getElem? h1, h2⟩
  · intro h
    rw [← Int.not_lt]
    intro hn
    have : plc l a = -1 := by
      cases l with
      | nil => rfl
      | cons x l =>
        unfold plc at hn ⊢
        split at hn
        · omega
        · rename_i hx
          rw [if_neg hx]
          split at hn
          · rename_i h1; rw [if_pos h1]
          · omega
    have key : ∀ {l : List EntryT}, plc l a = -1 → a ∉ l.map (·.Mac) := by
      intro l
      induction l with
      | nil => intro _ h; cases h
      | cons x l ih =>
        intro h hm
        unfold plc at h
        split at h
        · omega
        · rename_i hx
          split at h
          · rename_i hl
            have h2 : plc l a = -1 := by
              cases l with
              | nil => rfl
              | cons y l =>
                unfold plc at hl ⊢
                split at hl
                · omega
                · rename_i hy
                  rw [if_neg hy]
                  split at hl
                  · rename_i h1; rw [if_pos h1]
                  · omega
            rcases List.mem_cons.1 hm with h3 | h3
            · exact hx h3.symm
            · exact ih h2 h3
          · omega
    exact key this h
theorem nodup_take {l : List EntryT} : (l.map (·.Mac)).Nodup ↔ ∀ k x, l[k]? = some x → x.Mac ∉ (l.take k).map (·.Mac) := by
  constructor
  · intro h k x hx hm
    have ht : l.take (k + 1) = l.take k ++ [x] := by rw [List.take_add_one, hx]; rfl
    have hs : (l.take (k + 1)).Sublist l := List.take_sublist _ _
    have := (hs.map (·.Mac)).nodup h
    rw [ht, List.map_append, List.nodup_append] at this
    exact this.2.2 _ hm _ (by simp) rfl
  · intro h
    have : ∀ k, k ≤ l.length → ((l.take k).map (·.Mac)).Nodup := by
      intro k
      induction k with
      | zero => simp
      | succ k ih =>
        intro hk
        have hx : l[k]? = some l[k] := List.getElem?_eq_getElem (by omega)
        have ht : l.take (k + 1) = l.take k ++ [l[k]] := by rw [List.take_add_one, hx]; rfl
        rw [ht, List.map_append, List.nodup_append]
        exact ⟨ih (by omega), by simp, fun a ha b hb => by simp at hb; subst hb; exact fun e => h k _ hx (e ▸ ha)⟩
    have := this l.length (Nat.le_refl _)
    rwa [List.take_length] at this
theorem entry_eq {n b : Nat} (hn : Num (n : Int)) (e : EntryT) : ref08_entry e (b : Int) (n : Int) = some (decide (EOk n b e)) := by
  obtain ⟨_, _, e3⟩ := ent_cond (n := n) (b := b) (e := e) hn
  unfold ref08_entry
  simp only [refMac_eq, refPort_eq, refTime_eq, gd_some, Option.bind_some]
  by_cases hu : Uni e.Mac
  rotate_left
  · have : ¬ EOk n b e := fun h => hu h.1
    simp [hu, this, gd]
  by_cases hp : 0 ≤ e.Port ∧ e.Port ≤ 7
  rotate_left
  · have : ¬ EOk n b e := fun h => hp h.2.1
    simp [hu, hp, this, gd]
  by_cases hs : 0 ≤ e.Seen ∧ e.Seen ≤ 1099511627776
  rotate_left
  · have : ¬ EOk n b e := fun h => hs h.2.2.1
    simp [hu, hp, hs, this, gd]
  by_cases hst : e.Static = true → e.Seen = 0
  rotate_left
  · have : ¬ EOk n b e := fun h => hst h.2.2.2.1
    have h1 : e.Static = true := Classical.byContradiction fun h => hst fun h' => absurd h' h
    have h2 : ¬ e.Seen = 0 := fun h => hst fun _ => h
    simp [hu, hp, hs, this, h1, h2, gd]
  rw [e3 hu]
  have hst' : (bif (!e.Static) then true else (decide (e.Seen = 0))) = true := by
    cases hx : e.Static
    · rfl
    · simp [hst hx]
  simp only [hst', decide_eq_true hu, decide_eq_true hp, decide_eq_true hs, cond_true, gd, Option.bind_some]
  by_cases hb : bkt e.Mac.toNat n = b
  · have : EOk n b e := ⟨hu, hp, hs, hst, hb⟩
    simp [hb, this]
  · have : ¬ EOk n b e := fun h => hb h.2.2.2.2
    have h1 : ¬ ((bkt e.Mac.toNat n : Nat) : Int) = (b : Int) := by omega
    simp [h1, this]
theorem ref_row {t : TableT} (hn : Num ((t.Buckets.length : Nat) : Int)) {b : Nat} {l : List EntryT} (hl : l.length ≤ 1000) :
    ref08_Right_b16 t b l () = some (bif !decide (BOk t.Buckets.length t.Slots b l) then .ret false else .nxt ()) := by
  unfold ref08_Right_b16
  by_cases h3 : ((l.length : Nat) : Int) ≤ t.Slots
  rotate_left
  · have : ¬ BOk t.Buckets.length t.Slots b l := fun h => h3 h.2
    have h4 : t.Slots < ((l.length : Nat) : Int) := by omega
    simp [this, h4]
  have h4 : ¬ t.Slots < ((l.length : Nat) : Int) := by omega
  simp only [decide_eq_false h4, cond_false]
  rcases rangeL_find (s0 := ()) (body := ref08_Right_b17 t b l) (xs := l) (by omega) (fun k x => !decide (EOk t.Buckets.length b x) || decide (0 ≤ plc (l.take k) x.Mac)) (fun _ _ => Step.ret false) (fun k x hx => by
    have hk := (List.getElem?_eq_some_iff.1 hx).1
    unfold ref08_Right_b17
    rw [entry_eq hn, Option.bind_some, grd_true (fun _ => ⟨by omega, by omega⟩)]
    simp only [Int.toNat_natCast]
    rw [Place_eq (by rw [List.length_take]; omega)]
    simp only [gd_some, Option.bind_some]
    cases decide (EOk t.Buckets.length b x)
    · rfl
    · simp only [Bool.not_true, Bool.not_false, cond_false, cond_true, Bool.false_or]
      cases decide (0 ≤ plc (l.take k) x.Mac) <;> rfl) with ⟨k, x, hx, hp, hj, h⟩ | ⟨hp, h⟩
  · have : ¬ BOk t.Buckets.length t.Slots b l := fun hb => by
      rw [Bool.or_eq_true] at hp
      rcases hp with hp | hp
      · simp [hb.1.2 x (List.mem_of_getElem? hx)] at hp
      · exact nodup_take.1 hb.1.1 k x hx (plc_mem.1 (by simpa using hp))
    rw [h, aft_some_ret]
    simp [this]
  · have : BOk t.Buckets.length t.Slots b l := by
      refine ⟨⟨nodup_take.2 fun k x hx hm => ?_, fun e he => ?_⟩, h3⟩
      · have := hp k x hx
        simp [plc_mem.2 hm] at this
      · obtain ⟨k, hk⟩ := List.getElem?_of_mem he
        have := hp k e hk
        simpa using (Bool.or_eq_false_iff.1 this).1
    rw [h, aft_some_nxt]
    simp [this]
def Small (t : TableT) : Prop := t.Buckets.length ≤ 100 ∧ ∀ l ∈ t.Buckets, l.length ≤ 100
theorem Right_both {t : TableT} (hs : Small t) : ∃ b, fdb_Right t = some b ∧ ref08_Right t = some b ∧ (b = true ↔ TbOk t) := by
  unfold fdb_Right ref08_Right
  rw [sizes_eq, refSizes_eq]
  by_cases hz : Szs ((t.Buckets.length : Nat) : Int) t.Slots t.Age
  rotate_left
  · exact ⟨false, by simp [hz], by simp [hz], by simp [TbOk, hz]⟩
  have hlen : ∀ (b : Nat) (l : List EntryT), t.Buckets[b]? = some l → l.length ≤ 1000 := fun b l h => Nat.le_trans (hs.2 l (List.mem_of_getElem? h)) (by omega)
  simp only [decide_eq_true hz, Option.bind_some, Bool.not_true, cond_false]
  have f1 := rangeL_find (s0 := ()) (body := fdb_Right_b3 t) (xs := t.Buckets) (by have := hs.1; omega) (fun b l => !decide (BOk t.Buckets.length t.Slots b l)) (fun _ _ => false) (fun b l h => Right_row hz.1 (hlen b l h))
  have f2 := rangeL_find (s0 := ()) (body := ref08_Right_b16 t) (xs := t.Buckets) (by have := hs.1; omega) (fun b l => !decide (BOk t.Buckets.length t.Slots b l)) (fun _ _ => false) (fun b l h => ref_row hz.1 (hlen b l h))
  rcases f1 with ⟨k, x, hx, hp, hj, h⟩ | ⟨hp, h⟩
  · refine ⟨false, by rw [h, aft_some_ret], ?_, ?_⟩
    · rcases f2 with ⟨k', x', hx', hp', hj', h'⟩ | ⟨hp', h'⟩
      · rw [h', aft_some_ret]
      · rw [hp' k x hx] at hp; cases hp
    · refine ⟨fun h => (by cases h), fun ht => ?_⟩
      simp [ht.2 k x hx] at hp
  · refine ⟨true, by rw [h, aft_some_nxt], ?_, ?_⟩
    · rcases f2 with ⟨k', x', hx', hp', hj', h'⟩ | ⟨hp', h'⟩
      · rw [hp k' x' hx'] at hp'; cases hp'
      · rw [h', aft_some_nxt]
    · exact ⟨fun _ => ⟨hz, fun b l h => by simpa using hp b l h⟩, fun _ => rfl⟩

/-! Finding. -/
noncomputable def bk (t : TableT) (a : Int) : List EntryT := t.Buckets.getD (bkt a.toNat t.Buckets.length) []
theorem TbOk.bucket {t : TableT} (h : TbOk t) (a : Int) : t.Buckets[bkt a.toNat t.Buckets.length]? = some (bk t a) := by
  have := bkt_lt a.toNat (n := t.Buckets.length) h.1.1
  unfold bk
  simp [List.getD_eq_getElem?_getD, this]
theorem TbOk.bok {t : TableT} (h : TbOk t) (a : Int) : BOk t.Buckets.length t.Slots (bkt a.toNat t.Buckets.length) (bk t a) := h.2 _ _ (h.bucket a)
theorem TbOk.len4 {t : TableT} (h : TbOk t) (a : Int) : (bk t a).length ≤ 4 := by
  have := (h.bok a).2
  have := h.1.2.1.2
  omega
theorem place_eq {t : TableT} (h : TbOk t) {a : Int} (ha : Uni a) : fdb_place t a = some (((bkt a.toNat t.Buckets.length : Nat) : Int), plc (bk t a) a) := by
  obtain ⟨h1, h2⟩ := ha.nat
  have hb := hash_Bucket_eq (a := a.toNat) (n := t.Buckets.length) h2 h.1.1
  rw [← h1] at hb
  unfold fdb_place
  rw [hb]
  simp only [Option.bind_some]
  rw [gix_nat, h.bucket a]
  simp only [Option.bind_some]
  have := h.len4 a
  rw [Index_eq (by omega)]
  rfl
theorem refbucket_eq {t : TableT} (h : TbOk t) {a : Int} (ha : Uni a) : ref08_bucket t a = some (bk t a) := by
  obtain ⟨h1, h2⟩ := ha.nat
  have hb := ref07_Bucket_eq (a := a.toNat) (n := t.Buckets.length) h2 h.1.1
  rw [← h1] at hb
  unfold ref08_bucket
  rw [hb]
  simp only [Option.bind_some]
  rw [gix_nat, h.bucket a]
  rfl
noncomputable def fnd (t : TableT) (a now : Int) : Int := match (bk t a)[(plc (bk t a) a).toNat]? with
  | some e => if plc (bk t a) a < 0 then -1 else if e.Static = true ∨ now - e.Seen ≤ t.Age then e.Port else -1
  | none => -1
theorem Find_bad {t : TableT} (hs : Small t) {a now : Int} (h : ¬ (TbOk t ∧ Uni a ∧ (0 ≤ now ∧ now ≤ 1099511627776))) : fdb_Find t a now = some (0, 1) := by
  obtain ⟨b, h1, _, h3⟩ := Right_both hs
  unfold fdb_Find
  rw [h1, isMac_eq, isTime_eq]
  simp only [Option.bind_some, gd_some]
  cases b
  · rfl
  · have ht := h3.1 rfl
    by_cases hu : Uni a
    · have hn : ¬ (0 ≤ now ∧ now ≤ 1099511627776) := fun hh => h ⟨ht, hu, hh⟩
      simp [hu, hn]
    · simp [hu]
theorem Find_eq {t : TableT} (hs : Small t) {a now : Int} (h : TbOk t) (ha : Uni a) (hn : 0 ≤ now ∧ now ≤ 1099511627776) : fdb_Find t a now = some (fnd t a now, 0) ∧ ref08_Find t a now = some (fnd t a now) := by
  obtain ⟨b, h1, _, h3⟩ := Right_both hs
  have hb : b = true := h3.2 h
  subst hb
  have hl := h.len4 a
  have hbk : gix t.Buckets ((bkt a.toNat t.Buckets.length : Nat) : Int) = some (bk t a) := by rw [gix_nat]; exact h.bucket a
  unfold fdb_Find ref08_Find
  rw [h1, isMac_eq, isTime_eq, refbucket_eq h ha]
  simp only [Option.bind_some, gd_some, decide_eq_true ha, decide_eq_true hn, Bool.not_true, cond_false, Bool.not_false, cond_true, place_eq h ha, hbk]
  rw [Place_eq (by omega)]
  simp only [Option.bind_some]
  unfold fnd
  by_cases hp : plc (bk t a) a < 0
  · have hf : (match (bk t a)[(plc (bk t a) a).toNat]? with
      | some e => if plc (bk t a) a < 0 then -1 else if e.Static = true ∨ now - e.Seen ≤ t.Age then e.Port else -1
      | none => -1) = (-1 : Int) := by
      split
      · rw [if_pos hp]
      · rfl
    rw [hf]
    simp [hp, gd]
  · obtain ⟨e, h4, h5⟩ := plc_get (l := bk t a) (a := a) (by omega)
    have hg : gix (bk t a) (plc (bk t a) a) = some e := gix_of (by omega) h4
    have he := (h.bok a).1.2 e (List.mem_of_getElem? h4)
    have hs1 := he.2.2.1
    rw [h4]
    have hw : IntKind.i64.wrap (now - e.Seen) = now - e.Seen := w64i (by omega) (by omega)
    simp only [hp, decide_false, cond_false, hg, Option.bind_some, gd, Bool.not_false, cond_true, ref08_Old, hw, if_false]
    cases hst : e.Static
    · by_cases ho : now - e.Seen ≤ t.Age
      · have : ¬ t.Age < now - e.Seen := by omega
        simp [ho, this]
      · have : t.Age < now - e.Seen := by omega
        simp [ho, this]
    · simp
end Go.RX
