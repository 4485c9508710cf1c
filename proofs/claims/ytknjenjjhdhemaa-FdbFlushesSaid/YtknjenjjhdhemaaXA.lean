/- Timers: which may be, what is due, what is armed, plainly. -/
import Derived.Test.YtknjenjjhdhemaaVi
import Derived.Test.YtknjenjjhdhemaaMG
set_option linter.unusedVariables false
set_option linter.unusedSimpArgs false
namespace Go.RX
set_option maxHeartbeats 1000000

theorem fitsT {n b : Nat} (h : n ≤ 1000000) (hb : b ≤ 100) : fits n b := ⟨by omega, by
  have : n * b ≤ 1000000 * 100 := Nat.mul_le_mul h hb
  omega⟩
theorem w64t {x : Int} (h : -9223372036854775808 ≤ x) (h' : x ≤ 9223372036854775807) : IntKind.i64.wrap x = x := w64_in h h'

/-! Timers, and their order. -/
def TmOk (t : TimerT) : Prop := 0 ≤ t.ID ∧ 0 ≤ t.At ∧ t.At ≤ 1099511627776
instance (t : TimerT) : Decidable (TmOk t) := by unfold TmOk; infer_instance
theorem isTimer_eq (t : TimerT) : wheel_isTimer t = some (decide (TmOk t)) := by
  unfold wheel_isTimer TmOk
  by_cases h1 : 0 ≤ t.ID <;> by_cases h2 : 0 ≤ t.At <;> simp [h1, h2]
def Bef (a b : TimerT) : Prop := a.At < b.At ∨ (a.At = b.At ∧ a.ID < b.ID)
instance (a b : TimerT) : Decidable (Bef a b) := by unfold Bef; infer_instance
theorem Bef.trans {a b c : TimerT} (h : Bef a b) (g : Bef b c) : Bef a c := by unfold Bef at *; omega
theorem compare_eq (x y : Int) : cmp_Compare_int x y = some (if x < y then -1 else if y < x then 1 else 0) := by
  unfold cmp_Compare_int cmp_isNaN_int
  by_cases h1 : x < y
  · simp [h1]
  · by_cases h2 : y < x <;> simp [h1, h2]
theorem order_eq (a b : TimerT) : ∃ c, wheel_order a b = some c ∧ (0 ≤ c ↔ ¬ Bef a b) := by
  have hor : ∀ p q : Int, cmp_Or_int [p, q] = some (if p = 0 then q else p) := by
    intro p q
    by_cases hp : p = 0
    · subst hp
      by_cases hq : q = 0
      · subst hq; rfl
      · simp [cmp_Or_int, rangeL, forR, cmp_Or_int_c0, hq, aft, aftM]
    · simp [cmp_Or_int, rangeL, forR, cmp_Or_int_c0, hp, aft, aftM]
  unfold wheel_order
  rw [compare_eq, compare_eq]
  simp only [Option.bind_some]
  rw [hor]
  refine ⟨_, rfl, ?_⟩
  unfold Bef
  by_cases h1 : a.At < b.At
  · simp [h1]
  · by_cases h2 : b.At < a.At
    · have : ¬ a.At = b.At := by omega
      simp [h1, h2, this]
    · have h3 : a.At = b.At := by omega
      by_cases h4 : a.ID < b.ID
      · simp [h3, h4]
      · by_cases h5 : b.ID < a.ID <;> simp [h3, h4, h5]

/-- Timers that may be. -/
def TLOk (l : List TimerT) : Prop := ((∀ t ∈ l, TmOk t) ∧ (l.map (·.ID)).Nodup ∧ l.Pairwise Bef) ∧ l.length ≤ 64
instance (l : List TimerT) : Decidable (TLOk l) := by unfold TLOk; infer_instance
theorem wRight_eq {l : List TimerT} (hl : l.length ≤ 1000) : wheel_Right l = some (decide (TLOk l)) := by
  obtain ⟨o, h1, h2⟩ := rangeL_rec (s0 := ([] : List (Int × Int))) (body := wheel_Right_c0 l) (xs := l) (by omega)
    (fun k m => (∀ t ∈ l.take k, TmOk t) ∧ ((l.take k).map (·.ID)).Nodup ∧ (l.take k).Pairwise Bef ∧ ∀ z, mget m z 0 = if z ∈ (l.take k).map (·.ID) then 1 else 0)
    (fun r => r = false ∧ ¬ ((∀ t ∈ l, TmOk t) ∧ (l.map (·.ID)).Nodup ∧ l.Pairwise Bef)) (fun _ => False) (by simp [mget_nil]) (fun k x m hx ⟨i1, i2, i3, i4⟩ => by
      have hk := (List.getElem?_eq_some_iff.1 hx).1
      have ht : l.take (k + 1) = l.take k ++ [x] := by rw [List.take_add_one, hx]; rfl
      have hr : mget m x.ID 0 = 0 ∨ mget m x.ID 0 = 1 := by rw [i4]; split <;> simp
      unfold wheel_Right_c0
      rw [isTimer_eq]
      simp only [Option.bind_some]
      rw [w64t (x := mget m x.ID 0 + 1) (by omega) (by omega)]
      have sub : (l.take (k + 1)).Sublist l := List.take_sublist _ _
      by_cases hbad : ¬ TmOk x ∨ 1 < mget m x.ID 0 + 1
      · have e1 : (bif !decide (TmOk x) then true else decide (1 < mget m x.ID 0 + 1)) = true := by
          by_cases h : TmOk x
          · have : 1 < mget m x.ID 0 + 1 := hbad.resolve_left (fun g => g h)
            simp [h, this]
          · simp [h]
        simp only [e1, Bool.not_true, cond_false, gd_false, Option.bind_some, cond_true]
        refine ⟨_, rfl, rfl, fun ⟨n1, n2, n3⟩ => ?_⟩
        rcases hbad with hb | hb
        · exact hb (n1 x (List.mem_of_getElem? hx))
        · have hm : x.ID ∈ (l.take k).map (·.ID) := by
            apply Classical.byContradiction
            intro hn
            rw [i4, if_neg hn] at hb
            omega
          have := (sub.map (·.ID)).nodup n2
          rw [ht, List.map_append, List.nodup_append] at this
          exact this.2.2 _ hm _ (by simp) rfl
      · have hok : TmOk x := Classical.not_not.1 fun h => hbad (.inl h)
        have hm0 : mget m x.ID 0 = 0 := by
          rcases hr with h | h
          · exact h
          · exact absurd (.inr (by omega)) hbad
        have hnm : x.ID ∉ (l.take k).map (·.ID) := fun h => by rw [i4, if_pos h] at hm0; omega
        have e1 : (bif !decide (TmOk x) then true else decide (1 < mget m x.ID 0 + 1)) = false := by simp [hok, hm0]
        simp only [e1, Bool.not_false, cond_true, cond_false]
        have good : (∀ y ∈ l.take k, Bef y x) → (∀ t ∈ l.take (k + 1), TmOk t) ∧ ((l.take (k + 1)).map (·.ID)).Nodup ∧ (l.take (k + 1)).Pairwise Bef ∧ ∀ z, mget (mput m x.ID (mget m x.ID 0 + 1)) z 0 = if z ∈ (l.take (k + 1)).map (·.ID) then 1 else 0 := fun hb => by
          rw [ht]
          refine ⟨fun t h => ?_, ?_, ?_, fun z => ?_⟩
          · rcases List.mem_append.1 h with h | h
            · exact i1 t h
            · simp at h; subst h; exact hok
          · rw [List.map_append, List.nodup_append]
            exact ⟨i2, by simp, fun a ha b hb => by simp at hb; subst hb; exact fun e => hnm (e ▸ ha)⟩
          · rw [List.pairwise_append]
            exact ⟨i3, by simp, fun a ha b hb' => by simp at hb'; subst hb'; exact hb a ha⟩
          · rw [List.map_append]
            by_cases e : x.ID = z
            · subst e; rw [mget_mput, hm0, if_pos (by simp)]; rfl
            · rw [mget_mput_ne e, i4]
              have : z ∈ List.map (·.ID) (l.take k) ++ List.map (·.ID) [x] ↔ z ∈ List.map (·.ID) (l.take k) := by simp [Ne.symm e]
              simp only [this]
        cases k with
        | zero =>
          simp only [show decide ((0 : Int) < ((0 : Nat) : Int)) = false from rfl, gd_false, Option.bind_some, cond_false]
          exact ⟨_, rfl, good (by simp)⟩
        | succ j =>
          have hj : l[j]? = some l[j] := List.getElem?_eq_getElem (by omega)
          rw [decide_eq_true (show (0 : Int) < ((j + 1 : Nat) : Int) by omega), w64t (x := ((j + 1 : Nat) : Int) - 1) (by omega) (by omega), show ((j + 1 : Nat) : Int) - 1 = ((j : Nat) : Int) by omega, gix_nat, hj]
          obtain ⟨c, hc1, hc2⟩ := order_eq l[j] x
          simp only [gd_true, Option.bind_some, hc1, cond_true]
          by_cases hb : Bef l[j] x
          · have : ¬ 0 ≤ c := fun h => hc2.1 h hb
            rw [decide_eq_false this]
            refine ⟨_, rfl, good fun y hy => ?_⟩
            obtain ⟨q, hq⟩ := List.getElem?_of_mem hy
            have hq1 : q < j + 1 := by
              have := (List.getElem?_eq_some_iff.1 hq).1
              rw [List.length_take] at this; omega
            by_cases hqj : q = j
            · subst hqj
              rw [List.getElem?_take_of_lt (by omega), hj] at hq
              rw [← Option.some.inj hq]; exact hb
            · have hp := List.pairwise_iff_getElem.1 i3 q j (by rw [List.length_take]; omega) (by rw [List.length_take]; omega) (by omega)
              rw [List.getElem_take, List.getElem_take] at hp
              have hy' : y = l[q] := by
                rw [List.getElem?_take_of_lt hq1, List.getElem?_eq_getElem (by omega)] at hq
                exact (Option.some.inj hq).symm
              rw [hy']; exact hp.trans hb
          · rw [decide_eq_true (hc2.2 hb)]
            refine ⟨_, rfl, rfl, fun ⟨n1, n2, n3⟩ => hb ?_⟩
            have hx' : x = l[j + 1] := (List.getElem?_eq_some_iff.1 hx).2.symm
            rw [hx']
            exact List.pairwise_iff_getElem.1 n3 j (j + 1) (by omega) hk (by omega))
  unfold wheel_Right
  rw [h1]
  cases o with
  | ret r =>
    obtain ⟨rfl, h3⟩ := h2
    rw [aft_some_ret, decide_eq_false (fun h => h3 h.1)]
  | brk s => exact h2.elim
  | nxt s =>
    have := h2.resolve_right id
    rw [List.take_length] at this
    rw [aft_some_nxt]
    congr 1
    rw [decide_eq_decide]
    exact ⟨fun h => ⟨⟨this.1, this.2.1, this.2.2.1⟩, by omega⟩, fun h => by have := h.2; omega⟩

/-! What is due. -/
theorem Advance_bad {l : List TimerT} (hl : l.length ≤ 1000) {now : Int} (h : ¬ (TLOk l ∧ 0 ≤ now ∧ now ≤ 1099511627776)) : wheel_Advance l now = some ([], [], 1) := by
  unfold wheel_Advance
  rw [wRight_eq hl]
  simp only [Option.bind_some]
  by_cases h1 : TLOk l
  · by_cases h2 : now < 0
    · simp [h1, h2]
    · have h3 : 1099511627776 < now := by
        rw [← Int.not_le]; exact fun h3 => h ⟨h1, by omega, h3⟩
      simp [h1, h2, h3]
  · simp [h1]
theorem Advance_eq {l : List TimerT} (h : TLOk l) {now : Int} (h0 : 0 ≤ now) (h1 : now ≤ 1099511627776) :
    ∃ k, k ≤ l.length ∧ wheel_Advance l now = some (l.drop k, l.take k, 0) ∧ (∀ x ∈ l.take k, x.At ≤ now) ∧ (∀ x ∈ l.drop k, now < x.At) := by
  have hl := h.2
  unfold wheel_Advance
  rw [wRight_eq (by omega), decide_eq_true h]
  have hi : slices_IndexFunc_Timer l (fun x0_ => wheel_Advance_1 x0_ now) = idxG (fun x0_ => wheel_Advance_1 x0_ now) l := rfl
  rw [hi]
  simp only [Option.bind_some, Bool.not_true, cond_false, decide_eq_false (show ¬ now < 0 by omega), decide_eq_false (show ¬ 1099511627776 < now by omega)]
  rcases idxG_eq (q := fun x0_ => wheel_Advance_1 x0_ now) (p := fun x => decide (now < x.At)) (l := l) (by omega) (fun x _ => rfl) with ⟨k, x, hx, hp, hj, h2⟩ | ⟨hp, h2⟩
  · have hk := (List.getElem?_eq_some_iff.1 hx).1
    rw [h2]
    simp only [Option.bind_some, decide_eq_false (show ¬ ((k : Nat) : Int) < 0 by omega), cond_false, Int.toNat_natCast]
    rw [grd_true ⟨by omega, by omega⟩, grd_true ⟨by omega, by omega, by omega⟩]
    refine ⟨k, by omega, rfl, fun y hy => ?_, fun y hy => ?_⟩
    · obtain ⟨q, hq⟩ := List.getElem?_of_mem hy
      have hqk : q < k := by
        have := (List.getElem?_eq_some_iff.1 hq).1
        rw [List.length_take] at this; omega
      rw [List.getElem?_take_of_lt hqk] at hq
      have := hj q y hqk hq
      simpa using this
    · have hx0 : now < x.At := by simpa using hp
      obtain ⟨q, hq⟩ := List.getElem?_of_mem hy
      rw [List.getElem?_drop] at hq
      by_cases hq0 : q = 0
      · subst hq0
        rw [Nat.add_zero, hx] at hq
        rw [← Option.some.inj hq]; exact hx0
      · have hq1 := (List.getElem?_eq_some_iff.1 hq).1
        have hpw := List.pairwise_iff_getElem.1 h.1.2.2 k (k + q) hk hq1 (by omega)
        rw [(List.getElem?_eq_some_iff.1 hx).2, (List.getElem?_eq_some_iff.1 hq).2] at hpw
        unfold Bef at hpw
        omega
  · rw [h2]
    simp only [Option.bind_some, show decide ((-1 : Int) < 0) = true from rfl, cond_true]
    rw [grd_true ⟨by omega, by omega⟩, grd_true ⟨by omega, by omega, by omega⟩, Int.toNat_natCast]
    refine ⟨l.length, Nat.le_refl _, rfl, fun y hy => ?_, fun y hy => ?_⟩
    · rw [List.take_length] at hy
      have := hp y hy
      simpa using this
    · rw [List.drop_length] at hy; cases hy

/-! All but one. -/
theorem twithout_eq {l : List TimerT} (hl : l.length ≤ 1000) (id : Int) : wheel_without_x l id = some (l.filter fun t => !decide (t.ID = id)) := by
  unfold wheel_without_x slices_Clone_Timer
  rw [grd_true (fitsT (by omega) (by omega))]
  simp only [Option.bind_some]
  have : slices_DeleteFunc_Timer l (fun x0_ => wheel_without_1 x0_ id) = some (l.filter fun t => !decide (t.ID = id)) :=
    (show slices_DeleteFunc_Timer l (fun x0_ => wheel_without_1 x0_ id) = delG (fun x0_ => wheel_without_1 x0_ id) l from rfl).trans (delG_eq (l := l) (p := fun t : TimerT => decide (t.ID = id)) (by omega) (fun x _ => rfl))
  rw [this]; rfl

/-! Digit by digit. -/
def dig (k : Nat) (t : TimerT) : Nat := t.At.toNat / 16 ^ k % 16
def Dg (k : Nat) (a b : TimerT) : Prop := a.At.toNat % 16 ^ k < b.At.toNat % 16 ^ k ∨ (a.At.toNat % 16 ^ k = b.At.toNat % 16 ^ k ∧ a.ID < b.ID)
def turnL (k : Nat) (l : List TimerT) : List TimerT := ((List.range 16).map fun d => l.filter fun t => decide (dig k t = d)).flatten
theorem dig_lt (k : Nat) (t : TimerT) : dig k t < 16 := Nat.mod_lt _ (by decide)
theorem turn_perm (k : Nat) (l : List TimerT) : (turnL k l).Perm l := by
  have key : ∀ n, ((List.range n).map fun d => l.filter fun t => decide (dig k t = d)).flatten.Perm (l.filter fun t => decide (dig k t < n)) := by
    intro n
    induction n with
    | zero => simp
    | succ n ih =>
      rw [List.range_succ, List.map_append, List.flatten_append]
      simp only [List.map_cons, List.map_nil, List.flatten_cons, List.flatten_nil, List.append_nil]
      refine (ih.append_right _).trans ?_
      have h1 := List.filter_append_perm (fun t => decide (dig k t < n)) (l.filter fun t => decide (dig k t < n + 1))
      rw [List.filter_filter, List.filter_filter] at h1
      have e1 : (l.filter fun a => decide (dig k a < n) && decide (dig k a < n + 1)) = l.filter fun t => decide (dig k t < n) := List.filter_congr fun t _ => by
        by_cases h : dig k t < n
        · have : dig k t < n + 1 := by omega
          simp [h, this]
        · simp [h]
      have e2 : (l.filter fun a => !decide (dig k a < n) && decide (dig k a < n + 1)) = l.filter fun t => decide (dig k t = n) := List.filter_congr fun t _ => by
        by_cases h : dig k t = n
        · simp [h]
        · by_cases h2 : dig k t < n
          · simp [h, h2]
          · have : ¬ dig k t < n + 1 := by omega
            simp [h, this]
      rw [e1, e2] at h1
      exact h1
  have := key 16
  have e : (l.filter fun t => decide (dig k t < 16)) = l := List.filter_eq_self.2 fun t _ => by simp [dig_lt k t]
  rw [e] at this
  exact this
theorem at_succ (k : Nat) (t : TimerT) : t.At.toNat % 16 ^ (k + 1) = t.At.toNat % 16 ^ k + 16 ^ k * dig k t := by
  rw [Nat.pow_succ, Nat.mod_mul]; rfl
theorem turn_pair {k : Nat} {l : List TimerT} (h : l.Pairwise (Dg k)) : (turnL k l).Pairwise (Dg (k + 1)) := by
  unfold turnL
  rw [List.pairwise_flatten]
  constructor
  · intro m hm
    obtain ⟨d, _, rfl⟩ := List.mem_map.1 hm
    have := (h.filter fun t => decide (dig k t = d))
    refine List.Pairwise.imp_of_mem ?_ this
    intro a b ha hb hab
    have h1 : dig k a = d := by simpa using (List.mem_filter.1 ha).2
    have h2 : dig k b = d := by simpa using (List.mem_filter.1 hb).2
    unfold Dg at hab ⊢
    rw [at_succ, at_succ, h1, h2]
    omega
  · rw [List.pairwise_map]
    refine List.Pairwise.imp ?_ (List.pairwise_lt_range (n := 16))
    intro d e hde a ha b hb
    have h1 : dig k a = d := by simpa using (List.mem_filter.1 ha).2
    have h2 : dig k b = e := by simpa using (List.mem_filter.1 hb).2
    have h3 : a.At.toNat % 16 ^ k < 16 ^ k := Nat.mod_lt _ (Nat.pow_pos (by decide))
    have h4 : 16 ^ k * (d + 1) ≤ 16 ^ k * e := Nat.mul_le_mul_left _ hde
    rw [Nat.mul_succ] at h4
    unfold Dg
    rw [at_succ, at_succ, h1, h2]
    omega

/-- A wheel's slots. -/
def toA (f : Nat → List TimerT) : A16_List_TimerT := ⟨f 0, f 1, f 2, f 3, f 4, f 5, f 6, f 7, f 8, f 9, f 10, f 11, f 12, f 13, f 14, f 15⟩
theorem bit_and15 {a : Nat} (h : a < 9223372036854775808) : bitI .and .i64 ((a : Nat) : Int) 15 = ((a % 16 : Nat) : Int) := by
  show IntKind.i64.wrap (((BitVec.ofInt 64 (a : Int) &&& BitVec.ofInt 64 15).toNat : Nat) : Int) = _
  rw [BitVec.toNat_and, bv_nat (by omega) (by omega), bv_nat (by omega) (by omega), Int.toNat_natCast]
  have e : a &&& (15 : Int).toNat = a % 16 := Nat.and_two_pow_sub_one_eq_mod a 4
  rw [e, w64t (by omega) (by omega)]
theorem dig_bits {k : Nat} (hk : k < 11) {t : TimerT} (h0 : 0 ≤ t.At) (h1 : t.At ≤ 1099511627776) :
    bitI .and IntKind.i64 ((t.At).fdiv (2 ^ (min ((IntKind.i64.wrap (4 * ((k : Nat) : Int))) : Int).toNat 64))) 15 = ((dig k t : Nat) : Int) := by
  obtain ⟨a, ha⟩ : ∃ a : Nat, t.At = (a : Int) := ⟨t.At.toNat, by omega⟩
  rw [w64t (by omega) (by omega), show (4 * ((k : Nat) : Int)).toNat = 4 * k by omega, Nat.min_eq_left (by omega), ha]
  rw [Int.fdiv_eq_ediv_of_nonneg _ (Int.pow_nonneg (by decide))]
  have e : ((a : Nat) : Int) / (2 ^ (4 * k) : Int) = ((a / 16 ^ k : Nat) : Int) := by
    rw [Int.natCast_ediv, Int.natCast_pow, show ((16 : Nat) : Int) = 2 ^ 4 from rfl, ← Int.pow_mul]
  have hle : a / 16 ^ k ≤ a := Nat.div_le_self _ _
  rw [e, bit_and15 (by omega)]
  unfold dig
  rw [ha, Int.toNat_natCast]
theorem slot_step {k : Nat} (hk : k < 11) {l : List TimerT} (hl : l.length ≤ 1000) (ht : ∀ t ∈ l, 0 ≤ t.At ∧ t.At ≤ 1099511627776) {j : Nat} (hj : j < l.length) (f : Nat → List TimerT) (hf : ∀ d, (f d).length ≤ j) :
    wheel_spun_c1 k l j (toA f) = some (.nxt (toA fun d => if dig k l[j] = d then f d ++ [l[j]] else f d)) := by
  have hx : gixN l j = some l[j] := List.getElem?_eq_getElem hj
  obtain ⟨h0, h1⟩ := ht _ (List.getElem_mem hj)
  have hfit : ∀ d, fits (f d ++ ([l[j]] : List TimerT)).length 16 := fun d => fitsT (by rw [List.length_append]; have := hf d; simp; omega) (by omega)
  unfold wheel_spun_c1
  rw [grd_true ⟨by omega, by omega⟩, Int.toNat_natCast, hx]
  simp only [Option.bind_some]
  rw [grd_true (by rw [w64t (by omega) (by omega)]; omega), dig_bits hk h0 h1]
  have hd := dig_lt k l[j]
  generalize dig k l[j] = d at hd ⊢
  generalize l[j] = v at hfit ⊢
  have : d = 0 ∨ d = 1 ∨ d = 2 ∨ d = 3 ∨ d = 4 ∨ d = 5 ∨ d = 6 ∨ d = 7 ∨ d = 8 ∨ d = 9 ∨ d = 10 ∨ d = 11 ∨ d = 12 ∨ d = 13 ∨ d = 14 ∨ d = 15 := by omega
  rcases this with h | h | h | h | h | h | h | h | h | h | h | h | h | h | h | h <;> subst h <;> (
    unfold selN
    rw [if_pos (by omega), Int.toNat_natCast]
    simp only [List.getElem?_cons_zero, List.getElem?_cons_succ, toA]
    exact (grd_true (hfit _)).trans rfl)
theorem slots_eq {k : Nat} (hk : k < 11) {l : List TimerT} (hl : l.length ≤ 1000) (ht : ∀ t ∈ l, 0 ≤ t.At ∧ t.At ≤ 1099511627776) :
    rangeN (wheel_spun_c1 k l) ((l.length : Nat) : Int) (⟨([] : List TimerT), ([] : List TimerT), ([] : List TimerT), ([] : List TimerT), ([] : List TimerT), ([] : List TimerT), ([] : List TimerT), ([] : List TimerT), ([] : List TimerT), ([] : List TimerT), ([] : List TimerT), ([] : List TimerT), ([] : List TimerT), ([] : List TimerT), ([] : List TimerT), ([] : List TimerT)⟩ : A16_List_TimerT) = some (.nxt (toA fun d => l.filter fun t => decide (dig k t = d))) := by
  have e := rangeN_up (body := wheel_spun_c1 k l) (n := ((l.length : Nat) : Int)) (s0 := toA fun _ => []) (by omega) (fun j => toA fun d => (l.take j).filter fun t => decide (dig k t = d)) rfl (fun j hj => by
    have hj' : j < l.length := by omega
    rw [slot_step hk hl ht hj' _ (fun d => by
      have := List.length_filter_le (fun t => decide (dig k t = d)) (l.take j)
      rw [List.length_take] at this
      omega)]
    congr 2
    congr 1
    funext d
    rw [List.take_succ_eq_append_getElem hj', List.filter_append]
    by_cases h : dig k l[j] = d
    · rw [if_pos h, List.filter_cons, if_pos (by simp [h]), List.filter_nil]
    · rw [if_neg h, List.filter_cons, if_neg (by simp [h]), List.filter_nil, List.append_nil])
  rw [show (⟨([] : List TimerT), ([] : List TimerT), ([] : List TimerT), ([] : List TimerT), ([] : List TimerT), ([] : List TimerT), ([] : List TimerT), ([] : List TimerT), ([] : List TimerT), ([] : List TimerT), ([] : List TimerT), ([] : List TimerT), ([] : List TimerT), ([] : List TimerT), ([] : List TimerT), ([] : List TimerT)⟩ : A16_List_TimerT) = toA fun _ => [] from rfl, e, Int.toNat_natCast, List.take_length]
theorem concat_eq {L : List (List TimerT)} (h : L.flatten.length ≤ 1000) (hL : L.length ≤ 1000) : slices_Concat_Timer L = some L.flatten := by
  have sub : ∀ k, (L.take k).flatten.length ≤ L.flatten.length := fun k => by
    have := congrArg (fun q => (List.flatten q).length) (List.take_append_drop k L)
    simp only [List.flatten_append, List.length_append] at this
    omega
  have e1 := rangeL_foldI (ρ := List TimerT) (body := slices_Concat_Timer_c0) (xs := L) (s0 := (0 : Int)) (by omega) (fun q => ((q.flatten.length : Nat) : Int)) rfl (fun k x hx => by
    have ht : L.take (k + 1) = L.take k ++ [x] := by rw [List.take_add_one, hx]; rfl
    have h1 := sub (k + 1)
    rw [ht, List.flatten_append, List.length_append] at h1
    simp only [List.flatten_cons, List.flatten_nil, List.append_nil] at h1
    unfold slices_Concat_Timer_c0
    rw [w64t (x := (((L.take k).flatten.length : Nat) : Int) + ((x.length : Nat) : Int)) (by omega) (by omega), decide_eq_false (show ¬ (((L.take k).flatten.length : Nat) : Int) + ((x.length : Nat) : Int) < 0 by omega)]
    simp only [cond_false]
    congr 2
    rw [List.flatten_append, List.length_append]
    simp only [List.flatten_cons, List.flatten_nil, List.append_nil]
    omega)
  have e2 := rangeL_foldI (ρ := List TimerT) (body := slices_Concat_Timer_c1) (xs := L) (s0 := ([] : List TimerT)) (by omega) (fun q => q.flatten) rfl (fun k x hx => by
    have ht : L.take (k + 1) = L.take k ++ [x] := by rw [List.take_add_one, hx]; rfl
    have h1 := sub (k + 1)
    rw [ht, List.flatten_append] at h1
    simp only [List.flatten_cons, List.flatten_nil, List.append_nil] at h1
    unfold slices_Concat_Timer_c1
    rw [grd_true (fitsT (by omega) (by omega)), List.flatten_append]
    simp only [List.flatten_cons, List.flatten_nil, List.append_nil])
  unfold slices_Concat_Timer
  rw [e1, aft_some_nxt]
  unfold slices_Grow_Timer
  rw [grd_true ⟨by omega, by omega⟩]
  simp only [Option.bind_some]
  rw [e2, aft_some_nxt]
theorem turn_eq {k : Nat} (hk : k < 11) {l : List TimerT} (hl : l.length ≤ 1000) (ht : ∀ t ∈ l, 0 ≤ t.At ∧ t.At ≤ 1099511627776) : wheel_spun_c0 k l = some (.nxt (turnL k l)) := by
  unfold wheel_spun_c0
  rw [slots_eq hk hl ht, aft_some_nxt]
  have hlen := (turn_perm k l).length_eq
  have : slices_Concat_Timer ([(toA fun d => l.filter fun t => decide (dig k t = d)).c0, (toA fun d => l.filter fun t => decide (dig k t = d)).c1, (toA fun d => l.filter fun t => decide (dig k t = d)).c2, (toA fun d => l.filter fun t => decide (dig k t = d)).c3, (toA fun d => l.filter fun t => decide (dig k t = d)).c4, (toA fun d => l.filter fun t => decide (dig k t = d)).c5, (toA fun d => l.filter fun t => decide (dig k t = d)).c6, (toA fun d => l.filter fun t => decide (dig k t = d)).c7, (toA fun d => l.filter fun t => decide (dig k t = d)).c8, (toA fun d => l.filter fun t => decide (dig k t = d)).c9, (toA fun d => l.filter fun t => decide (dig k t = d)).c10, (toA fun d => l.filter fun t => decide (dig k t = d)).c11, (toA fun d => l.filter fun t => decide (dig k t = d)).c12, (toA fun d => l.filter fun t => decide (dig k t = d)).c13, (toA fun d => l.filter fun t => decide (dig k t = d)).c14, (toA fun d => l.filter fun t => decide (dig k t = d)).c15] : List (List TimerT)) = some (turnL k l) :=
    concat_eq (L := (List.range 16).map fun d => l.filter fun t => decide (dig k t = d)) (by
      show (turnL k l).length ≤ 1000
      omega) (by simp)
  rw [this]; rfl
theorem spun_eq {o : List TimerT} (hl : o.length ≤ 1000) (ht : ∀ t ∈ o, 0 ≤ t.At ∧ t.At ≤ 1099511627776) (hn : (o.map (·.ID)).Nodup) : ∃ L, wheel_spun o = some L ∧ L.Perm o ∧ L.Pairwise Bef := by
  have hms := List.mergeSort_perm o (fun x y => decide (x.ID ≤ y.ID))
  have hp0 : (o.mergeSort fun x y => decide (x.ID ≤ y.ID)).Pairwise (Dg 0) := by
    refine (sorted_strict ((hms.map (·.ID)).nodup_iff.2 hn) (mergeT o)).imp fun h => ?_
    unfold Dg
    simp [Nat.mod_one]
    omega
  obtain ⟨s, h1, h2, h3⟩ := rangeN_inv (ρ := List TimerT) (body := wheel_spun_c0) (n := 11) (s0 := o.mergeSort fun x y => decide (x.ID ≤ y.ID)) (by omega) (fun k s => s.Perm o ∧ s.Pairwise (Dg k)) ⟨hms, hp0⟩ (fun k s hk ⟨i1, i2⟩ => by
    refine ⟨_, turn_eq (k := k) (by omega) (by rw [i1.length_eq]; exact hl) (fun t h => ht t (i1.mem_iff.1 h)), (turn_perm k s).trans i1, turn_pair i2⟩)
  unfold wheel_spun slices_Clone_Timer slices_SortFunc_Timer_wheel_spun_1
  rw [grd_true (fitsT (by omega) (by omega))]
  simp only [Option.bind_some]
  rw [grd_true ⟨by omega, hn⟩]
  simp only [Option.bind_some]
  rw [h1, aft_some_nxt]
  refine ⟨s, rfl, h2, ?_⟩
  refine List.Pairwise.imp_of_mem ?_ h3
  intro a b ha hb hab
  have a1 := ht a (h2.mem_iff.1 ha)
  have b1 := ht b (h2.mem_iff.1 hb)
  unfold Dg at hab
  rw [show (Int.toNat 11) = 11 from rfl, Nat.mod_eq_of_lt (show a.At.toNat < 16 ^ 11 by omega), Nat.mod_eq_of_lt (show b.At.toNat < 16 ^ 11 by omega)] at hab
  unfold Bef
  omega

/-! Arming. -/
theorem bef_uniq : ∀ {a b : List TimerT}, a.Pairwise Bef → b.Pairwise Bef → a.Perm b → a = b
  | [], b, _, _, hp => (List.nil_perm.1 hp).symm
  | x :: a, [], _, _, hp => absurd hp.symm (by simp)
  | x :: a, y :: b, ha, hb, hp => by
    have hxy : x = y := by
      rcases List.mem_cons.1 (hp.mem_iff.1 (List.mem_cons_self : x ∈ x :: a)) with h | h
      · exact h
      · rcases List.mem_cons.1 (hp.mem_iff.2 (List.mem_cons_self : y ∈ y :: b)) with h2 | h2
        · exact h2.symm
        · have h3 := List.rel_of_pairwise_cons ha h2
          have h4 := List.rel_of_pairwise_cons hb h
          unfold Bef at h3 h4
          omega
    subst hxy
    rw [bef_uniq (List.Pairwise.of_cons ha) (List.Pairwise.of_cons hb) (List.Perm.cons_inv hp)]
/-- What is armed, in no order. -/
def armU (l : List TimerT) (t : TimerT) : List TimerT := (l.filter fun x => !decide (x.ID = t.ID)) ++ [t]
theorem armU_ok {l : List TimerT} (h : TLOk l) {t : TimerT} (ht : TmOk t) : (∀ x ∈ armU l t, TmOk x) ∧ ((armU l t).map (·.ID)).Nodup := by
  unfold armU
  refine ⟨fun x hx => ?_, ?_⟩
  · rcases List.mem_append.1 hx with hx | hx
    · exact h.1.1 x (List.mem_filter.1 hx).1
    · simp at hx; subst hx; exact ht
  · rw [List.map_append, List.nodup_append]
    refine ⟨((List.filter_sublist : (l.filter fun x => !decide (x.ID = t.ID)).Sublist l).map (·.ID)).nodup h.1.2.1, by simp, fun a ha b hb => ?_⟩
    simp at hb
    subst hb
    obtain ⟨x, hx, rfl⟩ := List.mem_map.1 ha
    have := (List.mem_filter.1 hx).2
    simpa using this
theorem Arm_bad {l : List TimerT} (hl : l.length ≤ 1000) {t : TimerT} (h : ¬ (TLOk l ∧ TmOk t)) : wheel_Arm l t = some ([], 1) := by
  unfold wheel_Arm
  rw [wRight_eq hl, isTimer_eq]
  simp only [Option.bind_some, gd_some]
  by_cases h1 : TLOk l
  · have h2 : ¬ TmOk t := fun h2 => h ⟨h1, h2⟩
    simp [h1, h2]
  · simp [h1]
theorem Arm_eq {l : List TimerT} (h : TLOk l) {t : TimerT} (ht : TmOk t) :
    (64 < (armU l t).length ∧ wheel_Arm l t = some ([], 5)) ∨ ((armU l t).length ≤ 64 ∧ ∃ L, wheel_Arm l t = some (L, 0) ∧ L.Perm (armU l t) ∧ TLOk L) := by
  have hl := h.2
  obtain ⟨u1, u2⟩ := armU_ok h ht
  have hlen : (armU l t).length ≤ 65 := by
    unfold armU
    have := List.length_filter_le (fun x => !decide (x.ID = t.ID)) l
    rw [List.length_append]; simp; omega
  unfold wheel_Arm
  rw [wRight_eq (by omega), isTimer_eq, decide_eq_true h, decide_eq_true ht]
  simp only [Option.bind_some, Bool.not_true, Bool.not_false, gd_true, cond_false]
  rw [twithout_eq (by omega)]
  simp only [Option.bind_some]
  rw [show ((l.filter fun x => !decide (x.ID = t.ID)) ++ ([t] : List TimerT)) = armU l t from rfl, grd_true (fitsT (by omega) (by omega))]
  by_cases h64 : 64 < (armU l t).length
  · left
    refine ⟨h64, ?_⟩
    rw [decide_eq_true (show (64 : Int) < (((armU l t).length : Nat) : Int) by omega)]; rfl
  · right
    refine ⟨by omega, ?_⟩
    obtain ⟨L, l1, l2, l3⟩ := spun_eq (o := armU l t) (by omega) (fun x hx => (u1 x hx).2) u2
    rw [decide_eq_false (show ¬ (64 : Int) < (((armU l t).length : Nat) : Int) by omega), cond_false, l1]
    exact ⟨L, rfl, l2, ⟨fun x hx => u1 x (l2.mem_iff.1 hx), (l2.map (·.ID)).nodup_iff.2 u2, l3⟩, by rw [l2.length_eq]; omega⟩
end Go.RX
