/- Maps as rows of pairs: what is asked behind a put. -/
import Derived.Test.YtknjenjjhdhemaaSeq
set_option linter.unusedVariables false
namespace Go.RX
variable {α β γ ρ σ : Type}
theorem mfind_none_of [DecidableEq α] : ∀ {m : List (α × β)} {k : α}, (∀ (j : Nat) (p : α × β), m[j]? = some p → p.1 ≠ k) → mfind m k = none := fun {m k} h => by
  cases hf : mfind m k with
  | none => rfl
  | some p => obtain ⟨i, v⟩ := p; exact absurd rfl (h i (k, v) (mfind_some hf).1)
theorem mfind_mput_ne [DecidableEq α] {m : List (α × β)} {k k' : α} (hn : k ≠ k') (v : β) : mfind (mput m k v) k' = mfind m k' := by
  cases h : mfind m k with
  | none =>
    rw [mput_none h]
    cases h' : mfind m k' with
    | none =>
      refine mfind_none_of fun j p hp => ?_
      rw [List.getElem?_append] at hp
      split at hp
      · exact mfind_none h' j p hp
      · have := List.mem_of_getElem? hp
        simp only [List.mem_singleton] at this
        rw [this]; exact hn
    | some q =>
      obtain ⟨i, u⟩ := q
      obtain ⟨h1, h2⟩ := mfind_some h'
      have hi := (List.getElem?_eq_some_iff.1 h1).1
      exact mfind_of (by rw [List.getElem?_append_left hi]; exact h1) fun j p hj hp => h2 j p hj (by rwa [List.getElem?_append_left (by omega)] at hp)
  | some p =>
    obtain ⟨i, u⟩ := p
    rw [mput_some h]
    obtain ⟨h1, h2⟩ := mfind_some h
    have hi := (List.getElem?_eq_some_iff.1 h1).1
    cases h' : mfind m k' with
    | none =>
      refine mfind_none_of fun j p hp => ?_
      by_cases e : i = j
      · subst e; rw [List.getElem?_set_self hi] at hp; cases hp; exact hn
      · rw [List.getElem?_set_ne e] at hp; exact mfind_none h' j p hp
    | some q =>
      obtain ⟨l, w⟩ := q
      obtain ⟨h3, h4⟩ := mfind_some h'
      have e : i ≠ l := fun e => by subst e; rw [h1] at h3; exact hn (congrArg Prod.fst (Option.some.inj h3))
      refine mfind_of (by rw [List.getElem?_set_ne e]; exact h3) fun j p hj hp => ?_
      by_cases e2 : i = j
      · subst e2; rw [List.getElem?_set_self hi] at hp; cases hp; exact hn
      · rw [List.getElem?_set_ne e2] at hp; exact h4 j p hj hp
theorem mget_mput_ne [DecidableEq α] {m : List (α × β)} {k k' : α} (hn : k ≠ k') (v d : β) : mget (mput m k v) k' d = mget m k' d := by
  unfold mget; rw [mfind_mput_ne hn]
theorem mget_nil [DecidableEq α] (k : α) (d : β) : mget ([] : List (α × β)) k d = d := rfl
variable {α β γ ρ σ : Type}
theorem gd_some [Inhabited α] (g : Bool) (x : α) : gd g (some x) = some (bif g then x else default) := by cases g <;> rfl
theorem gd_true [Inhabited α] (m : Option α) : gd true m = m := rfl
theorem gd_false [Inhabited α] (m : Option α) : gd false m = some default := rfl
theorem take_mn (l : List α) (n : Nat) : l.take (mn ((l.length : Nat) : Int) (n : Int)).toNat = l.take n := by
  unfold mn
  split
  · rw [Int.toNat_natCast]
  · rw [Int.toNat_natCast, List.take_length, List.take_of_length_le (by omega)]
theorem mn_ok (l : List α) (n : Int) (hn : 0 ≤ n) : (0 : Int) ≤ mn ((l.length : Nat) : Int) n ∧ mn ((l.length : Nat) : Int) n ≤ ((l.length : Nat) : Int) := by
  unfold mn; split <;> omega
theorem fits_of {n b : Nat} (h1 : n ≤ 1000000) (h2 : b ≤ 1000) : fits n b := by
  refine ⟨by omega, ?_⟩
  have := Nat.mul_le_mul h1 h2
  omega
theorem gix_of {l : List α} {n : Int} {x : α} (h0 : 0 ≤ n) (h : l[n.toNat]? = some x) : gix l n = some x := by unfold gix; rw [if_pos h0, h]
theorem gix_lt {l : List α} {k : Nat} (h : k < l.length) : gix l ((k : Nat) : Int) = some l[k] := by rw [gix_nat, List.getElem?_eq_getElem h]
/-- A loop that appends what it makes of each one. -/
theorem rangeL_map {body : Nat → α → List β → Option (Step ρ (List β))} {xs : List α} (hl : xs.length ≤ 1000000) (f : α → β) (hs : ∀ k x s, xs[k]? = some x → s.length = k → body k x s = some (.nxt (s ++ [f x]))) :
    rangeL body xs [] = some (.nxt (xs.map f)) := by
  refine rangeL_foldI hl (fun l => l.map f) rfl fun k x hx => ?_
  rw [hs k x _ hx (by have := (List.getElem?_eq_some_iff.1 hx).1; rw [List.length_map, List.length_take]; omega), List.map_append]; rfl
/-- .. that appends some of them. -/
theorem rangeL_filterMap {body : Nat → α → List β → Option (Step ρ (List β))} {xs : List α} (hl : xs.length ≤ 1000000) (f : Nat → α → Option β) (s0 : List β) (hs0 : s0.length ≤ 1000000)
    (hs : ∀ k x s, xs[k]? = some x → s.length ≤ 2000000 → body k x s = some (.nxt (s ++ (f k x).toList))) :
    rangeL body xs s0 = some (.nxt (s0 ++ (xs.zipIdx.filterMap fun p => f p.2 p.1))) := by
  obtain ⟨s, h1, h2⟩ := rangeL_inv (s0 := s0) hl (fun k s => s = s0 ++ ((xs.take k).zipIdx.filterMap fun p => f p.2 p.1) ∧ s.length ≤ s0.length + k) ⟨by simp, by simp⟩ fun k x s hx ⟨h, hk⟩ => by
    have hlt := (List.getElem?_eq_some_iff.1 hx).1
    refine ⟨_, hs k x s hx (by omega), ?_, ?_⟩
    · rw [h, List.take_add_one, hx, List.append_assoc]
      congr 1
      rw [Option.toList, List.zipIdx_append, List.filterMap_append, List.length_take, Nat.min_eq_left (by omega)]
      congr 1
      simp [List.filterMap_cons]
      cases f k x <;> simp
    · rw [List.length_append]
      cases f k x <;> simp <;> omega
  rw [h1, h2.1, List.take_length]
theorem rangeN_up {body : Nat → σ → Option (Step ρ σ)} {n : Int} {s0 : σ} (hl : n ≤ 1000000) (F : Nat → σ) (h0 : F 0 = s0) (hs : ∀ k : Nat, (k : Int) < n → body k (F k) = some (.nxt (F (k + 1)))) :
    rangeN body n s0 = some (.nxt (F n.toNat)) := by
  obtain ⟨s, h1, h2⟩ := rangeN_inv (s0 := s0) hl (fun k s => s = F k) h0.symm fun k s hk h => by
    subst h; exact ⟨_, hs k hk, rfl⟩
  rw [h1, h2]
/-- A loop that counts up, by its own counter. -/
theorem loopF_up {body : σ → Option (Step ρ σ)} (F : Nat → σ) (n : Nat) (E : σ) (hs : ∀ k, k < n → body (F k) = some (.nxt (F (k + 1)))) (he : body (F n) = some (.brk E)) :
    ∀ (fuel k : Nat), k ≤ n → n - k < fuel → loopF fuel body (F k) = some (.nxt E) := by
  intro fuel
  induction fuel with
  | zero => intro k _ h; omega
  | succ m ih =>
    intro k hk hm
    by_cases e : k = n
    · subst e; simp [loopF, he]
    · simp only [loopF, hs k (by omega), Option.bind_some]
      exact ih (k + 1) (by omega) (by omega)
theorem loopF_count {body : σ → Option (Step ρ σ)} (F : Nat → σ) (n : Nat) (E : σ) {s0 : σ} (h0 : F 0 = s0) (hn : n < 1000000) (hs : ∀ k, k < n → body (F k) = some (.nxt (F (k + 1)))) (he : body (F n) = some (.brk E)) :
    loopF 1000000 body s0 = some (.nxt E) := h0 ▸ loopF_up F n E hs he 1000000 0 (Nat.zero_le _) (by omega)
/-! Bits. -/
theorem bv_nat {a : Int} (h0 : 0 ≤ a) (h1 : a < 18446744073709551616) : (BitVec.ofInt 64 a).toNat = a.toNat := by
  rw [BitVec.toNat_ofInt]
  have : a % ((2 ^ 64 : Nat) : Int) = a := Int.emod_eq_of_lt h0 (by simpa using h1)
  rw [this]
theorem bit_andNot15 {a : Int} (h0 : 0 ≤ a) (h1 : a < 281474976710656) : bitI .andNot .i64 a 15 = a / 16 * 16 := by
  show IntKind.i64.wrap _ = _
  have hx : (BitVec.ofInt 64 a &&& ~~~ BitVec.ofInt 64 15).toNat = a.toNat / 2 ^ 4 * 2 ^ 4 := by
    rw [BitVec.toNat_and, BitVec.toNat_not, bv_nat h0 (by omega), bv_nat (by decide) (by decide)]
    refine Nat.eq_of_testBit_eq fun i => ?_
    rw [Nat.testBit_and, show 2 ^ 64 - 1 - Int.toNat 15 = 2 ^ 64 - (15 + 1) from rfl, Nat.testBit_two_pow_sub_succ (by decide), show (15 : Nat) = 2 ^ 4 - 1 from rfl, Nat.testBit_two_pow_sub_one, Nat.testBit_mul_two_pow, Nat.testBit_div_two_pow]
    by_cases hi : i < 4
    · have : ¬ (4 ≤ i) := by omega
      simp [hi]; intros; omega
    · by_cases hj : i < 64
      · have : i - 4 + 4 = i := by omega
        simp [hi, hj, this]; intros; omega
      · have : a.toNat.testBit i = false := Nat.testBit_lt_two_pow (Nat.lt_of_lt_of_le (show a.toNat < 2 ^ 64 by omega) (Nat.pow_le_pow_right (by decide) (by omega)))
        have e : i - 4 + 4 = i := by omega
        simp [hj, this, e]
  have hk : IntKind.i64.bits = 64 := rfl
  show IntKind.i64.wrap (((BitVec.ofInt 64 a &&& ~~~ BitVec.ofInt 64 15).toNat : Nat) : Int) = _
  rw [hx, w64_in (by omega) (by omega)]
  omega
theorem bit_and1 {a : Int} (h0 : 0 ≤ a) (h1 : a < 281474976710656) : bitI .and .i64 (a.fdiv (2 ^ (min (40 : Int).toNat 64))) 1 = a / 1099511627776 % 2 := by
  have e : a.fdiv (2 ^ (min (40 : Int).toNat 64)) = a / 1099511627776 := by
    rw [show (2 : Int) ^ (min (40 : Int).toNat 64) = 1099511627776 by decide]
    exact Int.fdiv_eq_ediv_of_nonneg _ (by decide)
  rw [e]
  show IntKind.i64.wrap (((BitVec.ofInt 64 (a / 1099511627776) &&& BitVec.ofInt 64 1).toNat : Nat) : Int) = _
  rw [BitVec.toNat_and, bv_nat (by omega) (by omega), bv_nat (by decide) (by decide), show (1 : Int).toNat = 1 from rfl, Nat.and_one_is_mod, w64_in (by omega) (by omega)]
  omega
theorem idx_ok {n : Int} (h1 : 1 ≤ n) (h2 : n ≤ 1000000) (a : Int) : ∃ i : Nat, (IntKind.i64.wrap (a.tmod n + n)).tmod n = (i : Int) ∧ (i : Int) < n := by
  have h3 := Int.tmod_lt_of_pos a (show 0 < n by omega)
  have h4 : -n < a.tmod n := by
    exact Int.lt_tmod_of_pos a (show 0 < n by omega)
  rw [w64_in (by omega) (by omega)]
  have h5 := Int.tmod_nonneg n (show 0 ≤ a.tmod n + n by omega)
  have h6 := Int.tmod_lt_of_pos (a.tmod n + n) (show 0 < n by omega)
  exact ⟨((a.tmod n + n).tmod n).toNat, by omega, by omega⟩

end Go.RX
