/- Maps as rows of pairs: what is asked behind a put. -/
import Derived.Test.YtknjenjjhdhemaaGreatSeq
import Derived.Test.YtknjenjjhdhemaaGreatFp
import Derived.KernelRfl
import Derived.Test.YtknjenjjhdhemaaGreatVi
set_option linter.unusedVariables false
set_option linter.unusedSimpArgs false
namespace Go.RX
section
variable {α β γ ρ σ : Type}
theorem mfind_none_of [DecidableEq α] : ∀ {m : List (α × β)} {k : α}, (∀ (j : Nat) (p : α × β), m[j]? = some p → p.1 ≠ k) → mfind m k = none := fun {m k} h => by
 cases hf : mfind m k with
 | none => rfl
 | some p => obtain ⟨i, v⟩ := p; exact absurd rfl (h i (k, v) (mfind_some hf).1)
theorem mfind_mput_ne [DecidableEq α] {m : List (α × β)} {k k' : α} (hn : k ≠ k') (v : β) : mfind (mput m k v) k' = mfind m k' := by
 cases h : mfind m k with
 | none =>
  rw [mput_none h]
  cases h' : mfind m k' with
  | none =>
   refine mfind_none_of fun j p hp => ?_
   rw [List.getElem?_append] at hp
   split at hp
   ·exact mfind_none h' j p hp
   ·have := List.mem_of_getElem? hp
    simp only [List.mem_singleton] at this
    rw [this]; exact hn
  | some q =>
   obtain ⟨i, u⟩ := q
   obtain ⟨h1, h2⟩ := mfind_some h'
   have hi := (List.getElem?_eq_some_iff.1 h1).1
   exact mfind_of (by rw [List.getElem?_append_left hi]; exact h1) fun j p hj hp => h2 j p hj (by rwa [List.getElem?_append_left (by omega)] at hp)
 | some p =>
  obtain ⟨i, u⟩ := p
  rw [mput_some h]
  obtain ⟨h1, h2⟩ := mfind_some h
  have hi := (List.getElem?_eq_some_iff.1 h1).1
  cases h' : mfind m k' with
  | none =>
   refine mfind_none_of fun j p hp => ?_
   by_cases e : i = j
   ·subst e; rw [List.getElem?_set_self hi] at hp; cases hp; exact hn
   ·rw [List.getElem?_set_ne e] at hp; exact mfind_none h' j p hp
  | some q =>
   obtain ⟨l, w⟩ := q
   obtain ⟨h3, h4⟩ := mfind_some h'
   have e : i ≠ l := fun e => by subst e; rw [h1] at h3; exact hn (congrArg Prod.fst (Option.some.inj h3))
   refine mfind_of (by rw [List.getElem?_set_ne e]; exact h3) fun j p hj hp => ?_
   by_cases e2 : i = j
   ·subst e2; rw [List.getElem?_set_self hi] at hp; cases hp; exact hn
   ·rw [List.getElem?_set_ne e2] at hp; exact h4 j p hj hp
theorem mget_mput_ne [DecidableEq α] {m : List (α × β)} {k k' : α} (hn : k ≠ k') (v d : β) : mget (mput m k v) k' d = mget m k' d := by
 unfold mget; rw [mfind_mput_ne hn]
theorem mget_nil [DecidableEq α] (k : α) (d : β) : mget ([] : List (α × β)) k d = d := rfl
variable {α β γ ρ σ : Type}
theorem gd_some [Inhabited α] (g : Bool) (x : α) : gd g (some x) = some (bif g then x else default) := by cases g <;> rfl
theorem gd_true [Inhabited α] (m : Option α) : gd true m = m := rfl
theorem gd_false [Inhabited α] (m : Option α) : gd false m = some default := rfl
theorem take_mn (l : List α) (n : Nat) : l.take (mn ((l.length : Nat) : Int) (n : Int)).toNat = l.take n := by
 unfold mn
 split
 ·rw [Int.toNat_natCast]
 ·rw [Int.toNat_natCast, List.take_length, List.take_of_length_le (by omega)]
theorem mn_ok (l : List α) (n : Int) (hn : 0 ≤ n) : (0 : Int) ≤ mn ((l.length : Nat) : Int) n ∧ mn ((l.length : Nat) : Int) n ≤ ((l.length : Nat) : Int) := by
 unfold mn; split <;> omega
theorem fits_of {n b : Nat} (h1 : n ≤ 1000000) (h2 : b ≤ 1000) : fits n b := by
 refine ⟨by omega, ?_⟩
 have := Nat.mul_le_mul h1 h2
 omega
theorem gix_of {l : List α} {n : Int} {x : α} (h0 : 0 ≤ n) (h : l[n.toNat]? = some x) : gix l n = some x := by unfold gix; rw [if_pos h0, h]
theorem gix_lt {l : List α} {k : Nat} (h : k < l.length) : gix l ((k : Nat) : Int) = some l[k] := by rw [gix_nat, List.getElem?_eq_getElem h]
theorem rangeL_map {body : Nat → α → List β → Option (Step ρ (List β))} {xs : List α} (hl : xs.length ≤ 1000000) (f : α → β) (hs : ∀ k x s, xs[k]? = some x → s.length = k → body k x s = some (.nxt (s ++ [f x]))) :
  rangeL body xs [] = some (.nxt (xs.map f)) := by
 refine rangeL_foldI hl (fun l => l.map f) rfl fun k x hx => ?_
 rw [hs k x _ hx (by have := (List.getElem?_eq_some_iff.1 hx).1; rw [List.length_map, List.length_take]; omega), List.map_append]; rfl
theorem rangeL_filterMap {body : Nat → α → List β → Option (Step ρ (List β))} {xs : List α} (hl : xs.length ≤ 1000000) (f : Nat → α → Option β) (s0 : List β) (hs0 : s0.length ≤ 1000000)
  (hs : ∀ k x s, xs[k]? = some x → s.length ≤ 2000000 → body k x s = some (.nxt (s ++ (f k x).toList))) :
  rangeL body xs s0 = some (.nxt (s0 ++ (xs.zipIdx.filterMap fun p => f p.2 p.1))) := by
 obtain ⟨s, h1, h2⟩ := rangeL_inv (s0 := s0) hl (fun k s => s = s0 ++ ((xs.take k).zipIdx.filterMap fun p => f p.2 p.1) ∧ s.length ≤ s0.length + k) ⟨by simp, by simp⟩ fun k x s hx ⟨h, hk⟩ => by
  have hlt := (List.getElem?_eq_some_iff.1 hx).1
  refine ⟨_, hs k x s hx (by omega), ?_, ?_⟩
  ·rw [h, List.take_add_one, hx, List.append_assoc]
   congr 1
   rw [Option.toList, List.zipIdx_append, List.filterMap_append, List.length_take, Nat.min_eq_left (by omega)]
   congr 1
   simp [List.filterMap_cons]
   cases f k x <;> simp
  ·rw [List.length_append]
   cases f k x <;> simp <;> omega
 rw [h1, h2.1, List.take_length]
theorem rangeN_up {body : Nat → σ → Option (Step ρ σ)} {n : Int} {s0 : σ} (hl : n ≤ 1000000) (F : Nat → σ) (h0 : F 0 = s0) (hs : ∀ k : Nat, (k : Int) < n → body k (F k) = some (.nxt (F (k + 1)))) :
  rangeN body n s0 = some (.nxt (F n.toNat)) := by
 obtain ⟨s, h1, h2⟩ := rangeN_inv (s0 := s0) hl (fun k s => s = F k) h0.symm fun k s hk h => by
  subst h; exact ⟨_, hs k hk, rfl⟩
 rw [h1, h2]
theorem loopF_up {body : σ → Option (Step ρ σ)} (F : Nat → σ) (n : Nat) (E : σ) (hs : ∀ k, k < n → body (F k) = some (.nxt (F (k + 1)))) (he : body (F n) = some (.brk E)) :
  ∀ (fuel k : Nat), k ≤ n → n - k < fuel → loopF fuel body (F k) = some (.nxt E) := by
 intro fuel
 induction fuel with
 | zero => intro k _ h; omega
 | succ m ih =>
  intro k hk hm
  by_cases e : k = n
  ·subst e; simp [loopF, he]
  ·simp only [loopF, hs k (by omega), Option.bind_some]
   exact ih (k + 1) (by omega) (by omega)
theorem loopF_count {body : σ → Option (Step ρ σ)} (F : Nat → σ) (n : Nat) (E : σ) {s0 : σ} (h0 : F 0 = s0) (hn : n < 1000000) (hs : ∀ k, k < n → body (F k) = some (.nxt (F (k + 1)))) (he : body (F n) = some (.brk E)) :
  loopF 1000000 body s0 = some (.nxt E) := h0 ▸ loopF_up F n E hs he 1000000 0 (Nat.zero_le _) (by omega)
theorem bv_nat {a : Int} (h0 : 0 ≤ a) (h1 : a < 18446744073709551616) : (BitVec.ofInt 64 a).toNat = a.toNat := by
 rw [BitVec.toNat_ofInt]
 have : a % ((2 ^ 64 : Nat) : Int) = a := Int.emod_eq_of_lt h0 (by simpa using h1)
 rw [this]
theorem bit_andNot15 {a : Int} (h0 : 0 ≤ a) (h1 : a < 281474976710656) : bitI .andNot .i64 a 15 = a / 16 * 16 := by
 show IntKind.i64.wrap _ = _
 have hx : (BitVec.ofInt 64 a &&& ~~~ BitVec.ofInt 64 15).toNat = a.toNat / 2 ^ 4 * 2 ^ 4 := by
  rw [BitVec.toNat_and, BitVec.toNat_not, bv_nat h0 (by omega), bv_nat (by decide) (by decide)]
  refine Nat.eq_of_testBit_eq fun i => ?_
  rw [Nat.testBit_and, show 2 ^ 64 - 1 - Int.toNat 15 = 2 ^ 64 - (15 + 1) from rfl, Nat.testBit_two_pow_sub_succ (by decide), show (15 : Nat) = 2 ^ 4 - 1 from rfl, Nat.testBit_two_pow_sub_one, Nat.testBit_mul_two_pow, Nat.testBit_div_two_pow]
  by_cases hi : i < 4
  ·have : ¬ (4 ≤ i) := by omega
   simp [hi]; intros; omega
  ·by_cases hj : i < 64
   ·have : i - 4 + 4 = i := by omega
    simp [hi, hj, this]; intros; omega
   ·have : a.toNat.testBit i = false := Nat.testBit_lt_two_pow (Nat.lt_of_lt_of_le (show a.toNat < 2 ^ 64 by omega) (Nat.pow_le_pow_right (by decide) (by omega)))
    have e : i - 4 + 4 = i := by omega
    simp [hj, this, e]
 have hk : IntKind.i64.bits = 64 := rfl
 show IntKind.i64.wrap (((BitVec.ofInt 64 a &&& ~~~ BitVec.ofInt 64 15).toNat : Nat) : Int) = _
 rw [hx, w64_in (by omega) (by omega)]
 omega
theorem bit_and1 {a : Int} (h0 : 0 ≤ a) (h1 : a < 281474976710656) : bitI .and .i64 (a.fdiv (2 ^ (min (40 : Int).toNat 64))) 1 = a / 1099511627776 % 2 := by
 have e : a.fdiv (2 ^ (min (40 : Int).toNat 64)) = a / 1099511627776 := by
  rw [show (2 : Int) ^ (min (40 : Int).toNat 64) = 1099511627776 by decide]
  exact Int.fdiv_eq_ediv_of_nonneg _ (by decide)
 rw [e]
 show IntKind.i64.wrap (((BitVec.ofInt 64 (a / 1099511627776) &&& BitVec.ofInt 64 1).toNat : Nat) : Int) = _
 rw [BitVec.toNat_and, bv_nat (by omega) (by omega), bv_nat (by decide) (by decide), show (1 : Int).toNat = 1 from rfl, Nat.and_one_is_mod, w64_in (by omega) (by omega)]
 omega
theorem idx_ok {n : Int} (h1 : 1 ≤ n) (h2 : n ≤ 1000000) (a : Int) : ∃ i : Nat, (IntKind.i64.wrap (a.tmod n + n)).tmod n = (i : Int) ∧ (i : Int) < n := by
 have h3 := Int.tmod_lt_of_pos a (show 0 < n by omega)
 have h4 : -n < a.tmod n := by
  exact Int.lt_tmod_of_pos a (show 0 < n by omega)
 rw [w64_in (by omega) (by omega)]
 have h5 := Int.tmod_nonneg n (show 0 ≤ a.tmod n + n by omega)
 have h6 := Int.tmod_lt_of_pos (a.tmod n + n) (show 0 < n by omega)
 exact ⟨((a.tmod n + n).tmod n).toNat, by omega, by omega⟩
end
section
variable {α β γ ρ σ : Type}
def idxG (q : α → Option Bool) (l : List α) : Option Int := aft (rangeL (fun (k : Nat) (x : α) (_ : Unit) => (q x).bind fun y => (bif y then some (Step.ret ((k : Nat) : Int)) else some (.nxt ()))) l ()) fun _ => some (-1)
theorem idxG_eq {q : α → Option Bool} {p : α → Bool} {l : List α} (hl : l.length ≤ 1000000) (hq : ∀ x ∈ l, q x = some (p x)) :
  (∃ k x, l[k]? = some x ∧ p x = true ∧ (∀ j y, j < k → l[j]? = some y → p y = false) ∧ idxG q l = some ((k : Nat) : Int)) ∨ ((∀ x ∈ l, p x = false) ∧ idxG q l = some (-1)) := by
 unfold idxG
 rcases rangeL_find (s0 := ()) (body := fun (k : Nat) (x : α) (_ : Unit) => (q x).bind fun y => (bif y then some (Step.ret ((k : Nat) : Int)) else some (.nxt ()))) hl (fun _ x => p x) (fun k _ => ((k : Nat) : Int)) (fun k x hx => by
  rw [hq x (List.mem_of_getElem? hx), Option.bind_some]; cases p x <;> rfl) with ⟨k, x, hx, hp, hj, h⟩ | ⟨hp, h⟩
 ·exact .inl ⟨k, x, hx, hp, hj, by rw [h]; rfl⟩
 ·exact .inr ⟨fun x hx => by obtain ⟨k, hk⟩ := List.getElem?_of_mem hx; exact hp k x hk, by rw [h]; rfl⟩
def conG (q : α → Option Bool) (l : List α) : Option Bool := (idxG q l).bind fun y => some (decide (0 ≤ y))
theorem conG_eq {q : α → Option Bool} {p : α → Bool} {l : List α} (hl : l.length ≤ 1000000) (hq : ∀ x ∈ l, q x = some (p x)) : conG q l = some (l.any p) := by
 unfold conG
 rcases idxG_eq hl hq with ⟨k, x, hx, hp, _, h⟩ | ⟨hp, h⟩
 ·rw [h, Option.bind_some, show l.any p = true from List.any_eq_true.2 ⟨x, List.mem_of_getElem? hx, hp⟩, decide_eq_true (Int.natCast_nonneg k)]
 ·rw [h, Option.bind_some, show l.any p = false from List.any_eq_false.2 fun x hx => by simp [hp x hx]]; rfl
def delB (q : α → Option Bool) (s : Int × Int × List α) : Option (Step (List α) (Int × Int × List α)) :=
 (bif (decide (s.2.1 < ((s.2.2.length : Nat) : Int))) then
  grd ((0 : Int) ≤ s.2.1 ∧ s.2.1 < ((s.2.2.length : Nat) : Int)) <|
  (gixN s.2.2 (s.2.1 : Int).toNat).bind fun v =>
  (q v).bind fun y =>
  (bif (!y) then
   grd ((0 : Int) ≤ s.1 ∧ s.1 < ((s.2.2.length : Nat) : Int)) <|
   (gixN s.2.2 (s.1 : Int).toNat).bind fun _ =>
   some (.nxt ((IntKind.i64.wrap (s.1 + 1)), (IntKind.i64.wrap (s.2.1 + 1)), (s.2.2.set (s.1 : Int).toNat v)))
  else
   some (.nxt (s.1, (IntKind.i64.wrap (s.2.1 + 1)), s.2.2)))
 else
  some (.brk (s.1, s.2.1, s.2.2)))
def delG (q : α → Option Bool) (l : List α) : Option (List α) :=
 (idxG q l).bind fun y =>
 (bif (decide (y = (-1))) then
  some l
 else
  aft (loopF 1000000 (delB q) (y, (IntKind.i64.wrap (y + 1)), l)) fun s =>
  grd ((0 : Int) ≤ s.1 ∧ s.1 < ((s.2.2.length : Nat) : Int)) <|
  grd ((0 : Int) ≤ s.1 ∧ s.1 ≤ ((s.2.2.length : Nat) : Int)) <|
  some (s.2.2.take (s.1 : Int).toNat))
theorem delG_eq {q : α → Option Bool} {p : α → Bool} {l : List α} (hl : l.length ≤ 900000) (hq : ∀ x ∈ l, q x = some (p x)) : delG q l = some (l.filter fun x => !p x) := by
 unfold delG
 rcases idxG_eq (by omega) hq with ⟨k, x, hx, hp, hj, h⟩ | ⟨hp, h⟩
 ·have hk := (List.getElem?_eq_some_iff.1 hx).1
  have hfk : (l.take k).filter (fun x => !p x) = l.take k := List.filter_eq_self.2 fun y hy => by
   obtain ⟨j, hj'⟩ := List.getElem?_of_mem hy
   have hjk : j < k := by have := (List.getElem?_eq_some_iff.1 hj').1; rw [List.length_take] at this; omega
   rw [List.getElem?_take, if_pos hjk] at hj'
   rw [hj j y hjk hj']; rfl
  rw [h, Option.bind_some, decide_eq_false (show ¬ ((k : Nat) : Int) = -1 by omega), cond_false, w64_in (by omega) (by omega)]
  obtain ⟨o, h1, h2⟩ := loopF_rec (body := delB q) (fun s => l.length - s.2.1.toNat)
   (fun s => ∃ j i : Nat, s.1 = (i : Int) ∧ s.2.1 = (j : Int) ∧ i < j ∧ j ≤ l.length ∧ s.2.2.length = l.length ∧ s.2.2.take i = (l.take j).filter (fun x => !p x) ∧ ∀ m, j ≤ m → s.2.2[m]? = l[m]?)
   (fun _ => False) (fun s => ∃ i : Nat, s.1 = (i : Int) ∧ i < l.length ∧ s.2.2.length = l.length ∧ s.2.2.take i = l.filter (fun x => !p x)) (fun s ⟨j, i, e1, e2, hij, hjl, hlen, ht, hd⟩ => by
    obtain ⟨s1, s2, L⟩ := s
    dsimp only at e1 e2 hlen ht hd
    subst e1; subst e2
    unfold delB
    dsimp only
    by_cases hjn : j < l.length
    ·rw [decide_eq_true (show ((j : Nat) : Int) < ((L.length : Nat) : Int) by omega), cond_true, grd_true ⟨by omega, by omega⟩]
     unfold gixN
     rw [Int.toNat_natCast, Int.toNat_natCast, hd j (Nat.le_refl _), List.getElem?_eq_getElem hjn, Option.bind_some, hq _ (List.getElem_mem hjn), Option.bind_some]
     have hta : l.take (j + 1) = l.take j ++ [l[j]] := by rw [List.take_add_one, List.getElem?_eq_getElem hjn]; rfl
     cases hpj : p l[j] with
     | true =>
      refine ⟨_, rfl, ⟨j + 1, i, rfl, by show IntKind.i64.wrap _ = _; rw [w64_in (by omega) (by omega)]; omega, by omega, by omega, hlen, ?_, fun m hm => hd m (by omega)⟩, ?_⟩
      ·show L.take i = _; rw [ht, hta, List.filter_append]; simp [hpj]
      ·show l.length - (IntKind.i64.wrap _).toNat < _
       rw [w64_in (by omega) (by omega)]; omega
     | false =>
      rw [Bool.not_false, cond_true, grd_true ⟨by omega, by omega⟩, List.getElem?_eq_getElem (show i < L.length by omega), Option.bind_some]
      refine ⟨_, rfl, ⟨j + 1, i + 1, by show IntKind.i64.wrap _ = _; rw [w64_in (by omega) (by omega)]; omega, by show IntKind.i64.wrap _ = _; rw [w64_in (by omega) (by omega)]; omega, by omega, by omega, ?_, ?_, fun m hm => ?_⟩, ?_⟩
      ·show (L.set _ _).length = _; rw [List.length_set, hlen]
      ·show (L.set i l[j]).take (i + 1) = _
       rw [List.take_add_one, List.getElem?_set_self (by omega), List.take_set_of_le (Nat.le_refl i), ht, hta, List.filter_append]
       simp [hpj]
      ·show (L.set i _)[m]? = _
       rw [List.getElem?_set_ne (by omega)]; exact hd m (by omega)
      ·show l.length - (IntKind.i64.wrap _).toNat < _
       rw [w64_in (by omega) (by omega)]; omega
    ·rw [decide_eq_false (show ¬ ((j : Nat) : Int) < ((L.length : Nat) : Int) by omega)]
     refine ⟨_, rfl, i, rfl, by omega, hlen, ?_⟩
     show L.take i = _
     rw [ht, List.take_of_length_le (by omega)]) 1000000 (((k : Nat) : Int), ((k : Nat) : Int) + 1, l) ⟨k + 1, k, rfl, by show ((k : Nat) : Int) + 1 = _; omega, by omega, by omega, rfl, by
    show l.take k = _
    rw [List.take_add_one, hx, List.filter_append, hfk]; simp [hp], fun m hm => rfl⟩ (by show l.length - _ < _; omega)
  cases o with
  | ret r => exact h2.elim
  | brk s => exact h2.elim
  | nxt s =>
   obtain ⟨i, i1, i2, i3, i4⟩ := h2
   rw [h1, aft_some_nxt, i1, grd_true ⟨by omega, by omega⟩, grd_true ⟨by omega, by omega⟩, Int.toNat_natCast, i4]
 ·rw [h, Option.bind_some]
  have : l.filter (fun x => !p x) = l := List.filter_eq_self.2 fun y hy => by rw [hp y hy]; rfl
  rw [this]; rfl
end
section
set_option maxHeartbeats 1000000

theorem w64i {x : Int} (h : -9223372036854775808 ≤ x) (h' : x ≤ 9223372036854775807) : IntKind.i64.wrap x = x := w64_in h h'
theorem u8_wrap (x : Int) : IntKind.u8.wrap x = x % 256 := rfl
theorem u32_wrap (x : Int) : IntKind.u32.wrap x = x % 4294967296 := rfl
theorem bit_xor32 {a b : Nat} (h0 : a < 4294967296) (h1 : b < 4294967296) : bitI .xor .u32 ((a : Nat) : Int) ((b : Nat) : Int) = (((a ^^^ b : Nat)) : Int) := by
 show IntKind.u32.wrap (((BitVec.ofInt 32 (a : Int) ^^^ BitVec.ofInt 32 (b : Int)).toNat : Nat) : Int) = _
 have e : ∀ x : Nat, x < 4294967296 → (BitVec.ofInt 32 (x : Int)).toNat = x := fun x hx => by
  rw [BitVec.toNat_ofInt]
  have : (x : Int) % ((2 ^ 32 : Nat) : Int) = x := Int.emod_eq_of_lt (by omega) (by simpa using (by omega : (x : Int) < 4294967296))
  rw [this]; rfl
 rw [BitVec.toNat_xor, e a h0, e b h1, u32_wrap]
 have : a ^^^ b < 2 ^ 32 := Nat.xor_lt_two_pow (by simpa using h0) (by simpa using h1)
 exact Int.emod_eq_of_lt (by omega) (by omega)

def byt (a k : Nat) : Nat := a / 256 ^ k % 256
def bys (a : Nat) : Nat → List Nat
 | 0 => []
 | k + 1 => byt a k :: bys a k
def btA (l : List Nat) : ByteArray := ⟨(l.map UInt8.ofNat).toArray⟩
theorem bys_lt (a : Nat) : ∀ k, ∀ x ∈ bys a k, x < 256
 | 0, x, h => by cases h
 | k + 1, x, h => by
  rcases List.mem_cons.1 h with rfl | h
  ·exact Nat.mod_lt _ (by decide)
  ·exact bys_lt a k x h
theorem strP_nat {l : List Nat} (h : ∀ x ∈ l, x < 256) : strP (l.map fun x => ((x : Nat) : Int)) = some (btA l) := by
 unfold strP
 have : ((l.map fun x => ((x : Nat) : Int)).all fun x => decide (0 ≤ x) && decide (x < 256)) = true := by
  rw [List.all_eq_true]
  intro x hx
  obtain ⟨y, hy, rfl⟩ := List.mem_map.1 hx
  have := h y hy
  simp; omega
 rw [if_pos this]
 unfold btA
 rw [List.map_map]
 rfl
theorem btA_size (l : List Nat) : (btA l).size = l.length := by
 show ((l.map UInt8.ofNat).toArray).size = _
 simp
theorem btA_get {l : List Nat} (h : ∀ x ∈ l, x < 256) {i x : Nat} (hx : l[i]? = some x) : ∃ v : UInt8, gixS (btA l) ((i : Nat) : Int) = some v ∧ v.toNat = x := by
 have hi := (List.getElem?_eq_some_iff.1 hx).1
 have hs : i < (btA l).size := by rw [btA_size]; exact hi
 refine ⟨(btA l)[i], ?_, ?_⟩
 ·unfold gixS
  rw [if_pos (by omega), Int.toNat_natCast]
  exact getElem?_pos (btA l) i hs
 ·have e : (btA l)[i] = UInt8.ofNat x := by
   obtain ⟨_, h2⟩ := List.getElem?_eq_some_iff.1 hx
   exact (by simp [h2] : (l.map UInt8.ofNat)[i]'(by simpa using hi) = UInt8.ofNat x)
  rw [e]
  have := h x (List.mem_of_getElem? hx)
  simp; omega
theorem mac_Bytes_eq {a : Nat} (h : a < 281474976710656) : mac_Bytes ((a : Nat) : Int) = some (btA (bys a 6), 0) := by
 have hr : mac_Right ((a : Nat) : Int) = some true := by
  unfold mac_Right
  rw [decide_eq_true (show (0 : Int) ≤ (a : Int) by omega), decide_eq_true (show (a : Int) ≤ 281474976710655 by omega)]; rfl
 have fd : ∀ n : Nat, (((a : Nat) : Int)).fdiv (2 ^ n) % 256 = (((a / 2 ^ n % 256 : Nat)) : Int) := fun n => by
  rw [Int.fdiv_eq_ediv_of_nonneg _ (Int.pow_nonneg (by decide)), Int.natCast_emod, Int.natCast_ediv, Int.natCast_pow]; rfl
 have e := rangeN_up (body := mac_Bytes_c0 ((a : Nat) : Int)) (n := 6) (s0 := [0, 0, 0, 0, 0, 0]) (by omega)
  (fun k => match k with
   | 0 => [0, 0, 0, 0, 0, 0]
   | 1 => [((byt a 5 : Nat) : Int), 0, 0, 0, 0, 0]
   | 2 => [((byt a 5 : Nat) : Int), ((byt a 4 : Nat) : Int), 0, 0, 0, 0]
   | 3 => [((byt a 5 : Nat) : Int), ((byt a 4 : Nat) : Int), ((byt a 3 : Nat) : Int), 0, 0, 0]
   | 4 => [((byt a 5 : Nat) : Int), ((byt a 4 : Nat) : Int), ((byt a 3 : Nat) : Int), ((byt a 2 : Nat) : Int), 0, 0]
   | 5 => [((byt a 5 : Nat) : Int), ((byt a 4 : Nat) : Int), ((byt a 3 : Nat) : Int), ((byt a 2 : Nat) : Int), ((byt a 1 : Nat) : Int), 0]
   | _ => [((byt a 5 : Nat) : Int), ((byt a 4 : Nat) : Int), ((byt a 3 : Nat) : Int), ((byt a 2 : Nat) : Int), ((byt a 1 : Nat) : Int), ((byt a 0 : Nat) : Int)]) rfl (fun k hk => by
   have : k = 0 ∨ k = 1 ∨ k = 2 ∨ k = 3 ∨ k = 4 ∨ k = 5 := by omega
   rcases this with rfl | rfl | rfl | rfl | rfl | rfl <;> unfold mac_Bytes_c0
   ·rw [grd_true (by decide), grd_true (by decide), u8_wrap, show min (IntKind.i64.wrap (8 * IntKind.i64.wrap (5 - ((0 : Nat) : Int)))).toNat 64 = 40 by decide, fd]; rfl
   ·rw [grd_true (by decide), grd_true (by decide), u8_wrap, show min (IntKind.i64.wrap (8 * IntKind.i64.wrap (5 - ((1 : Nat) : Int)))).toNat 64 = 32 by decide, fd]; rfl
   ·rw [grd_true (by decide), grd_true (by decide), u8_wrap, show min (IntKind.i64.wrap (8 * IntKind.i64.wrap (5 - ((2 : Nat) : Int)))).toNat 64 = 24 by decide, fd]; rfl
   ·rw [grd_true (by decide), grd_true (by decide), u8_wrap, show min (IntKind.i64.wrap (8 * IntKind.i64.wrap (5 - ((3 : Nat) : Int)))).toNat 64 = 16 by decide, fd]; rfl
   ·rw [grd_true (by decide), grd_true (by decide), u8_wrap, show min (IntKind.i64.wrap (8 * IntKind.i64.wrap (5 - ((4 : Nat) : Int)))).toNat 64 = 8 by decide, fd]; rfl
   ·rw [grd_true (by decide), grd_true (by decide), u8_wrap, show min (IntKind.i64.wrap (8 * IntKind.i64.wrap (5 - ((5 : Nat) : Int)))).toNat 64 = 0 by decide, fd]; rfl)
 unfold mac_Bytes
 rw [hr]
 simp only [Option.bind_some, Bool.not_true, cond_false]
 rw [show rangeN (mac_Bytes_c0 ((a : Nat) : Int)) 6 [0, 0, 0, 0, 0, 0] = some (.nxt [((byt a 5 : Nat) : Int), ((byt a 4 : Nat) : Int), ((byt a 3 : Nat) : Int), ((byt a 2 : Nat) : Int), ((byt a 1 : Nat) : Int), ((byt a 0 : Nat) : Int)]) from e, aft_some_nxt, grd_true (by rfl)]
 have := strP_nat (bys_lt a 6)
 rw [show strP [((byt a 5 : Nat) : Int), ((byt a 4 : Nat) : Int), ((byt a 3 : Nat) : Int), ((byt a 2 : Nat) : Int), ((byt a 1 : Nat) : Int), ((byt a 0 : Nat) : Int)] = _ from this]
 rfl
def stepH (h b : Nat) : Nat := (h ^^^ b) * 16777619 % 4294967296
theorem stepH_cast (h b : Nat) : ((h ^^^ b : Nat) : Int) * 16777619 % 4294967296 = ((stepH h b : Nat) : Int) := by
 unfold stepH
 generalize h ^^^ b = y
 omega
theorem tdiv256 {q : Nat} (h : q < 9223372036854775808) : IntKind.i64.wrap (((q : Nat) : Int).tdiv 256) = ((q / 256 : Nat) : Int) := by
 rw [Int.tdiv_eq_ediv_of_nonneg (by omega), w64i (by omega) (by omega)]; omega
theorem tdiv2 {q : Nat} (h : q < 9223372036854775808) : IntKind.i64.wrap (((q : Nat) : Int).tdiv 2) = ((q / 2 : Nat) : Int) := by
 rw [Int.tdiv_eq_ediv_of_nonneg (by omega), w64i (by omega) (by omega)]; omega
theorem tmod256 (q : Nat) : IntKind.u8.wrap (((q : Nat) : Int).tmod 256) = ((q % 256 : Nat) : Int) := by
 rw [u8_wrap, Int.tmod_eq_emod_of_nonneg (by omega)]; omega
theorem tmod2 (q : Nat) : ((q : Nat) : Int).tmod 2 = ((q % 2 : Nat) : Int) := by
 rw [Int.tmod_eq_emod_of_nonneg (by omega)]; omega
def sumH (a : Nat) : Nat := (bys a 6).foldl stepH 2166136261
theorem stepH_lt (h b : Nat) : stepH h b < 4294967296 := Nat.mod_lt _ (by decide)
theorem foldH_lt : ∀ (l : List Nat) (h : Nat), h < 4294967296 → l.foldl stepH h < 4294967296
 | [], h, hh => hh
 | b :: l, h, hh => foldH_lt l _ (stepH_lt h b)
theorem sumH_lt (a : Nat) : sumH a < 4294967296 := foldH_lt _ _ (by decide)
theorem foldF_lt {f : Nat → Nat → Nat} (hf : ∀ h b, f h b < 4294967296) : ∀ (l : List Nat) (h : Nat), h < 4294967296 → l.foldl f h < 4294967296
 | [], h, hh => hh
 | b :: l, h, hh => foldF_lt hf l _ (hf h b)
theorem hash_loop {f : Nat → Nat → Nat} (hf : ∀ h b, ((h ^^^ b : Nat) : Int) * 16777619 % 4294967296 = ((f h b : Nat) : Int)) (hf2 : ∀ h b, f h b < 4294967296) {z : Nat} (hz : z < 4294967296) {l : List Nat} (hl : l.length = 6) (hb : ∀ x ∈ l, x < 256) :
  rangeN (hash_Sum_c0 (btA l, 0)) ((6 : Nat) : Int) ((z : Nat) : Int) = some (.nxt ((l.foldl f z : Nat) : Int)) := by
 have e := rangeN_up (body := hash_Sum_c0 (btA l, 0)) (n := ((6 : Nat) : Int)) (s0 := ((z : Nat) : Int)) (by omega) (fun k => (((l.take k).foldl f z : Nat) : Int)) rfl (fun k hk => by
  have hk' : k < l.length := by rw [hl]; omega
  obtain ⟨v, h1, h2⟩ := btA_get hb (List.getElem?_eq_getElem hk')
  have hbk := hb _ (List.getElem_mem hk')
  have hp := foldF_lt hf2 (l.take k) z hz
  unfold hash_Sum_c0
  simp only [h1, Option.bind_some, h2]
  rw [u32_wrap ((l[k] : Nat) : Int), Int.emod_eq_of_lt (by omega) (by omega), bit_xor32 hp (by omega), u32_wrap, List.take_succ_eq_append_getElem hk', List.foldl_append]
  simp only [List.foldl_cons, List.foldl_nil]
  rw [hf])
 rw [e, Int.toNat_natCast, List.take_of_length_le (by omega)]
theorem ref_loop {f : Nat → Nat → Nat} (hf : ∀ h b, ((h ^^^ b : Nat) : Int) * 16777619 % 4294967296 = ((f h b : Nat) : Int)) (hf2 : ∀ h b, f h b < 4294967296) (ht : ∀ a b : Nat, a < 4294967296 → b < 4294967296 → ref07_turned ((a : Nat) : Int) ((b : Nat) : Int) = some (((a ^^^ b : Nat)) : Int)) {z : Nat} (hz : z < 4294967296) {l : List Nat} (hl : l.length = 6) (hb : ∀ x ∈ l, x < 256) :
  loopF 1000000 (ref07_Sum_c0 (btA l)) (((z : Nat) : Int), 0) = some (.nxt (((l.foldl f z : Nat) : Int), ((6 : Nat) : Int))) := by
 have e := loopF_count (body := ref07_Sum_c0 (btA l)) (fun k => ((((l.take k).foldl f z : Nat) : Int), ((k : Nat) : Int))) 6 ((((l.take 6).foldl f z : Nat) : Int), ((6 : Nat) : Int)) (s0 := (((z : Nat) : Int), 0)) rfl (by omega) (fun k hk => by
  have hk' : k < l.length := by rw [hl]; omega
  obtain ⟨v, h1, h2⟩ := btA_get hb (List.getElem?_eq_getElem hk')
  have hbk := hb _ (List.getElem_mem hk')
  have hp := foldF_lt hf2 (l.take k) z hz
  have hx : ((l.take k).foldl f z) ^^^ l[k] < 2 ^ 32 := Nat.xor_lt_two_pow (by omega) (by omega)
  unfold ref07_Sum_c0
  simp only [decide_eq_true (show ((k : Nat) : Int) < 6 by omega), cond_true, h1, Option.bind_some, h2]
  rw [w64i (x := ((l[k] : Nat) : Int)) (by omega) (by omega), ht _ _ hp (by omega), Option.bind_some, w64i (x := _ * 16777619) (by omega) (by omega), w64i (x := ((k : Nat) : Int) + 1) (by omega) (by omega), Int.tmod_eq_emod_of_nonneg (by omega), List.take_succ_eq_append_getElem hk', List.foldl_append]
  simp only [List.foldl_cons, List.foldl_nil]
  rw [hf]
  rfl) (by
  unfold ref07_Sum_c0
  simp only [show decide (((6 : Nat) : Int) < 6) = false from rfl, cond_false])
 rw [e, List.take_of_length_le (by omega)]
theorem hash_Sum_eq {a : Nat} (h : a < 281474976710656) : hash_Sum ((a : Nat) : Int) = some (((sumH a : Nat) : Int), 0) := by
 unfold hash_Sum
 rw [mac_Bytes_eq h]
 simp only [Option.bind_some, decide_true, Bool.not_true, cond_false, btA_size]
 have hl : (bys a 6).length = 6 := rfl
 have hb := bys_lt a 6
 have hs := sumH_lt a
 unfold sumH at hs ⊢
 generalize bys a 6 = l at hl hb hs
 have e := hash_loop stepH_cast stepH_lt (z := 2166136261) (by decide) hl hb
 rw [hl]
 rw [show ((2166136261 : Nat) : Int) = (2166136261 : Int) from rfl] at e
 rw [e, aft_some_nxt, w64i (by omega) (by omega)]

theorem ref01_Bytes_eq {a : Nat} (h : a < 281474976710656) : ref01_Bytes ((a : Nat) : Int) = some (btA (bys a 6)) := by
 have app : ∀ k, (btA [byt a k] ++ btA (bys a k)) = btA (bys a (k + 1)) := fun k => by
  apply ByteArray.ext
  simp [btA, bys]
 have hlen : ∀ k, (bys a k).length = k := fun k => by
  induction k with
  | zero => rfl
  | succ k ih => simp [bys, ih]
 have e := loopF_count (body := ref01_Bytes_c0) (fun k => (((a / 256 ^ k : Nat) : Int), btA (bys a k), ((k : Nat) : Int))) 6 (((a / 256 ^ 6 : Nat) : Int), btA (bys a 6), ((6 : Nat) : Int)) (s0 := (((a : Nat) : Int), (⟨#[]⟩ : ByteArray), 0)) (by simp [btA, bys]) (by omega) (fun k hk => by
  have hle : a / 256 ^ k ≤ a := Nat.div_le_self _ _
  unfold ref01_Bytes_c0
  simp only [decide_eq_true (show ((k : Nat) : Int) < 6 by omega), cond_true]
  have hb : IntKind.u8.wrap ((((a / 256 ^ k : Nat)) : Int).tmod 256) = ((byt a k : Nat) : Int) := tmod256 _
  have hs := strP_nat (l := [byt a k]) (by
   intro x hx
   rw [List.mem_singleton] at hx; subst hx
   exact Nat.mod_lt _ (by decide))
  rw [hb, show strP [((byt a k : Nat) : Int)] = _ from hs]
  simp only [Option.bind_some]
  rw [grd_true (by rw [btA_size, btA_size, hlen]; simp; omega), app, w64i (x := ((k : Nat) : Int) + 1) (by omega) (by omega)]
  have hd : IntKind.i64.wrap ((((a / 256 ^ k : Nat)) : Int).tdiv 256) = ((a / 256 ^ (k + 1) : Nat) : Int) := by
   rw [tdiv256 (Nat.lt_of_le_of_lt hle (by omega)), Nat.pow_succ, ← Nat.div_div_eq_div_mul]
  rw [hd]; rfl) (by
  unfold ref01_Bytes_c0
  simp only [show decide (((6 : Nat) : Int) < 6) = false from rfl, cond_false])
 unfold ref01_Bytes
 rw [e, aft_some_nxt]
theorem xor_bit (a b k : Nat) : (a ^^^ b) / 2 ^ k % 2 = if a / 2 ^ k % 2 = b / 2 ^ k % 2 then 0 else 1 := by
 have h := Nat.testBit_xor a b k
 simp only [Nat.testBit_eq_decide_div_mod_eq] at h
 have h1 : (a ^^^ b) / 2 ^ k % 2 < 2 := Nat.mod_lt _ (by decide)
 have h2 : a / 2 ^ k % 2 < 2 := Nat.mod_lt _ (by decide)
 have h3 : b / 2 ^ k % 2 < 2 := Nat.mod_lt _ (by decide)
 generalize (a ^^^ b) / 2 ^ k % 2 = x at h h1
 generalize a / 2 ^ k % 2 = y at h h2
 generalize b / 2 ^ k % 2 = z at h h3
 have e1 : y = 0 ∨ y = 1 := by omega
 have e2 : z = 0 ∨ z = 1 := by omega
 have e3 : x = 0 ∨ x = 1 := by omega
 rcases e1 with rfl | rfl <;> rcases e2 with rfl | rfl <;> rcases e3 with rfl | rfl <;> simp at h ⊢
theorem turned_eq {a b : Nat} (h0 : a < 4294967296) (h1 : b < 4294967296) : ref07_turned ((a : Nat) : Int) ((b : Nat) : Int) = some (((a ^^^ b : Nat)) : Int) := by
 have e := loopF_count (body := ref07_turned_c0) (fun k => (((a / 2 ^ k : Nat) : Int), ((b / 2 ^ k : Nat) : Int), ((((a ^^^ b) % 2 ^ k : Nat)) : Int), ((2 ^ k : Nat) : Int), ((k : Nat) : Int))) 32 (((a / 2 ^ 32 : Nat) : Int), ((b / 2 ^ 32 : Nat) : Int), ((((a ^^^ b) % 2 ^ 32 : Nat)) : Int), ((2 ^ 32 : Nat) : Int), ((32 : Nat) : Int)) (s0 := (((a : Nat) : Int), ((b : Nat) : Int), 0, 1, 0)) (by simp [Nat.mod_one]) (by omega) (fun k hk => by
  have ha : a / 2 ^ k ≤ a := Nat.div_le_self _ _
  have hb : b / 2 ^ k ≤ b := Nat.div_le_self _ _
  have hp : 2 ^ k ≤ 2 ^ 31 := Nat.pow_le_pow_right (by decide) (by omega)
  have hm : (a ^^^ b) % 2 ^ k < 2 ^ k := Nat.mod_lt _ (Nat.pow_pos (by decide))
  have hx : (a ^^^ b) % 2 ^ (k + 1) = (a ^^^ b) % 2 ^ k + 2 ^ k * ((a ^^^ b) / 2 ^ k % 2) := by rw [Nat.pow_succ, Nat.mod_mul]
  have hda : IntKind.i64.wrap ((((a / 2 ^ k : Nat)) : Int).tdiv 2) = ((a / 2 ^ (k + 1) : Nat) : Int) := by
   rw [tdiv2 (Nat.lt_of_le_of_lt (Nat.div_le_self _ _) (by omega)), Nat.pow_succ, ← Nat.div_div_eq_div_mul]
  have hdb : IntKind.i64.wrap ((((b / 2 ^ k : Nat)) : Int).tdiv 2) = ((b / 2 ^ (k + 1) : Nat) : Int) := by
   rw [tdiv2 (Nat.lt_of_le_of_lt (Nat.div_le_self _ _) (by omega)), Nat.pow_succ, ← Nat.div_div_eq_div_mul]
  have hma : (((a / 2 ^ k : Nat)) : Int).tmod 2 = ((a / 2 ^ k % 2 : Nat) : Int) := tmod2 _
  have hmb : (((b / 2 ^ k : Nat)) : Int).tmod 2 = ((b / 2 ^ k % 2 : Nat) : Int) := tmod2 _
  have h2 : IntKind.i64.wrap (2 * ((2 ^ k : Nat) : Int)) = ((2 ^ (k + 1) : Nat) : Int) := by
   rw [w64i (by omega) (by omega), Nat.pow_succ]; omega
  have hk1 : IntKind.i64.wrap (((k : Nat) : Int) + 1) = (((k + 1 : Nat)) : Int) := by rw [w64i (by omega) (by omega)]; omega
  unfold ref07_turned_c0
  simp only [decide_eq_true (show ((k : Nat) : Int) < 32 by omega), cond_true, hda, hdb, hma, hmb, h2, hk1]
  have hbit := xor_bit a b k
  by_cases hc : a / 2 ^ k % 2 = b / 2 ^ k % 2
  ·rw [if_pos hc] at hbit
   rw [hbit, Nat.mul_zero, Nat.add_zero] at hx
   rw [decide_eq_true (show ((a / 2 ^ k % 2 : Nat) : Int) = ((b / 2 ^ k % 2 : Nat) : Int) by omega), hx]
   rfl
  ·rw [if_neg hc] at hbit
   rw [hbit, Nat.mul_one] at hx
   rw [decide_eq_false (show ¬ ((a / 2 ^ k % 2 : Nat) : Int) = ((b / 2 ^ k % 2 : Nat) : Int) by omega), hx]
   simp only [Bool.not_false, cond_true]
   rw [w64i (x := _ + _) (by omega) (by omega)]
   rw [← Int.natCast_add]) (by
  unfold ref07_turned_c0
  simp only [show decide (((32 : Nat) : Int) < 32) = false from rfl, cond_false])
 unfold ref07_turned
 rw [e, aft_some_nxt]
 have : a ^^^ b < 2 ^ 32 := Nat.xor_lt_two_pow (by simpa using h0) (by simpa using h1)
 rw [Nat.mod_eq_of_lt this]
theorem ref07_Sum_eq {a : Nat} (h : a < 281474976710656) : ref07_Sum ((a : Nat) : Int) = some ((sumH a : Nat) : Int) := by
 unfold ref07_Sum
 rw [ref01_Bytes_eq h, Option.bind_some]
 have hl : (bys a 6).length = 6 := rfl
 have hb := bys_lt a 6
 unfold sumH
 generalize bys a 6 = l at hl hb
 have e := ref_loop stepH_cast stepH_lt (fun a b => turned_eq) (z := 2166136261) (by decide) hl hb
 rw [show ((2166136261 : Nat) : Int) = (2166136261 : Int) from rfl] at e
 rw [e, aft_some_nxt]

def Num (n : Int) : Prop := n = 1 ∨ n = 2 ∨ n = 4 ∨ n = 8 ∨ n = 16
instance (n : Int) : Decidable (Num n) := by unfold Num; infer_instance
theorem isNumber_eq (n : Int) : hash_isNumber n = some (decide (Num n)) := by
 unfold hash_isNumber
 by_cases h1 : 1 ≤ n
 ·by_cases h2 : n ≤ 16
  ·have : n = 1 ∨ n = 2 ∨ n = 3 ∨ n = 4 ∨ n = 5 ∨ n = 6 ∨ n = 7 ∨ n = 8 ∨ n = 9 ∨ n = 10 ∨ n = 11 ∨ n = 12 ∨ n = 13 ∨ n = 14 ∨ n = 15 ∨ n = 16 := by omega
   rcases this with h | h | h | h | h | h | h | h | h | h | h | h | h | h | h | h <;> subst h <;> decide
  ·have : ¬ Num n := by unfold Num; omega
   simp [h1, h2, this]
 ·have : ¬ Num n := by unfold Num; omega
  simp [h1, this]
theorem refNumber_eq (n : Int) : ref07_Number n = some (decide (Num n)) := by
 unfold ref07_Number Num
 by_cases h1 : n = 1 <;> by_cases h2 : n = 2 <;> by_cases h3 : n = 4 <;> by_cases h4 : n = 8 <;> by_cases h5 : n = 16 <;> simp [h1, h2, h3, h4, h5]
noncomputable def bkt (a n : Nat) : Nat := Classical.choose (⟨sumH a % n, rfl⟩ : ∃ r, r = sumH a % n)
theorem bkt_eq (a n : Nat) : bkt a n = sumH a % n := Classical.choose_spec (⟨sumH a % n, rfl⟩ : ∃ r, r = sumH a % n)
theorem bit_and_lo {s n : Nat} (hs : s < 4294967296) (hn : Num (n : Int)) : bitI .and .i64 ((s : Nat) : Int) (IntKind.i64.wrap ((n : Int) - 1)) = ((s % n : Nat) : Int) := by
 have hpos : 1 ≤ n ∧ n ≤ 16 := by unfold Num at hn; omega
 rw [w64i (by omega) (by omega), show ((n : Int) - 1) = ((n - 1 : Nat) : Int) by omega]
 show IntKind.i64.wrap (((BitVec.ofInt 64 (s : Int) &&& BitVec.ofInt 64 (((n - 1 : Nat)) : Int)).toNat : Nat) : Int) = _
 rw [BitVec.toNat_and, bv_nat (by omega) (by omega), bv_nat (by omega) (by omega), Int.toNat_natCast, Int.toNat_natCast]
 have e : s &&& (n - 1) = s % n := by
  unfold Num at hn
  have : n = 1 ∨ n = 2 ∨ n = 4 ∨ n = 8 ∨ n = 16 := by omega
  rcases this with h | h | h | h | h <;> subst h
  ·exact Nat.and_two_pow_sub_one_eq_mod s 0
  ·exact Nat.and_two_pow_sub_one_eq_mod s 1
  ·exact Nat.and_two_pow_sub_one_eq_mod s 2
  ·exact Nat.and_two_pow_sub_one_eq_mod s 3
  ·exact Nat.and_two_pow_sub_one_eq_mod s 4
 have hm : s % n < n := Nat.mod_lt _ (by omega)
 rw [e, w64i (by omega) (by omega)]
theorem hash_Bucket_eq {a n : Nat} (h : a < 281474976710656) (hn : Num (n : Int)) : hash_Bucket ((a : Nat) : Int) ((n : Nat) : Int) = some (((bkt a n : Nat) : Int), 0) := by
 unfold hash_Bucket
 rw [isNumber_eq, decide_eq_true hn, hash_Sum_eq h]
 simp only [Option.bind_some, Bool.not_true, cond_false]
 rw [bit_and_lo (sumH_lt a) hn, bkt_eq]
theorem hash_Bucket_bad (a : Int) {n : Int} (hn : ¬ Num n) : hash_Bucket a n = some (0, 2) := by
 unfold hash_Bucket
 rw [isNumber_eq, decide_eq_false hn]; rfl
theorem ref07_Bucket_eq {a n : Nat} (h : a < 281474976710656) (hn : Num (n : Int)) : ref07_Bucket ((a : Nat) : Int) ((n : Nat) : Int) = some ((bkt a n : Nat) : Int) := by
 have hpos : 1 ≤ n ∧ n ≤ 16 := by unfold Num at hn; omega
 unfold ref07_Bucket
 rw [ref07_Sum_eq h, Option.bind_some, grd_true (show ((n : Nat) : Int) ≠ 0 by omega), Int.tmod_eq_emod_of_nonneg (by omega)]
 rw [bkt_eq, Int.natCast_emod]
theorem bkt_lt (a : Nat) {n : Nat} (hn : Num (n : Int)) : bkt a n < n := by
 rw [bkt_eq]; exact Nat.mod_lt _ (by unfold Num at hn; omega)

theorem fin_eq (n a b : Int) : fdb_in n a b = some (decide (a ≤ n ∧ n ≤ b)) := by
 unfold fdb_in
 by_cases h : a ≤ n <;> simp [h]
def Uni (a : Int) : Prop := 0 ≤ a ∧ a < 281474976710656 ∧ a / 16 ≠ 103282638848 ∧ a / 1099511627776 % 2 = 0
instance (a : Int) : Decidable (Uni a) := by unfold Uni; infer_instance
theorem macRight_eq (a : Int) : mac_Right a = some (decide (0 ≤ a ∧ a < 281474976710656)) := by
 unfold mac_Right
 by_cases h : 0 ≤ a
 ·by_cases h2 : a < 281474976710656
  ·have : a ≤ 281474976710655 := by omega
   simp [h, h2, this]
  ·have : ¬ a ≤ 281474976710655 := by omega
   simp [h, h2, this]
 ·simp [h]
theorem isMac_eq (a : Int) : fdb_isMac a = some (decide (Uni a)) := by
 unfold fdb_isMac mac_Class
 rw [macRight_eq, Option.bind_some]
 by_cases h : 0 ≤ a ∧ a < 281474976710656
 ·rw [decide_eq_true h, bit_andNot15 h.1 h.2, bit_and1 h.1 h.2]
  by_cases h2 : a / 16 = 103282638848
  ·have : ¬ Uni a := fun hu => hu.2.2.1 h2
   simp [h2, this]
  ·have h3 : ¬ a / 16 * 16 = 1652522221568 := by omega
   have : Uni a ↔ a / 1099511627776 % 2 = 0 := ⟨fun hu => hu.2.2.2, fun h4 => ⟨h.1, h.2, h2, h4⟩⟩
   by_cases h4 : a / 1099511627776 % 2 = 0
   ·simp [h3, this, h4]
   ·simp [h3, this, h4]
 ·have : ¬ Uni a := fun hu => h ⟨hu.1, hu.2.1⟩
  rw [decide_eq_false h, decide_eq_false this]; rfl
theorem refMac_eq (a : Int) : ref08_Mac a = some (decide (Uni a)) := by
 unfold ref08_Mac ref01_Right ref01_Class
 by_cases hr : 0 ≤ a ∧ a < 281474976710656
 ·rw [decide_eq_true hr.1, decide_eq_true hr.2, Int.tdiv_eq_ediv_of_nonneg hr.1, Int.tdiv_eq_ediv_of_nonneg hr.1, w64_in (by omega) (by omega), w64_in (by omega) (by omega), Int.tmod_eq_emod_of_nonneg (by omega)]
  simp only [cond_true, Option.bind_some]
  by_cases h1 : a / 16 = 103282638848
  ·have : ¬ Uni a := fun hu => hu.2.2.1 h1
   simp [h1, this, gd]
  ·by_cases h2 : a / 1099511627776 % 2 = 1
   ·have : ¬ Uni a := fun hu => by have := hu.2.2.2; omega
    simp [h1, h2, this, gd]
   ·have : Uni a := ⟨hr.1, hr.2, h1, by omega⟩
    simp [h1, h2, this, gd]
 ·have : ¬ Uni a := fun hu => hr ⟨hu.1, hu.2.1⟩
  by_cases h1 : 0 ≤ a
  ·have h2 : ¬ a < 281474976710656 := fun h => hr ⟨h1, h⟩
   simp [h1, h2, this, gd]
  ·simp [h1, this, gd]
theorem isPort_eq (a : Int) : fdb_isPort a = some (decide (0 ≤ a ∧ a ≤ 7)) := by unfold fdb_isPort; rw [fin_eq]; rfl
theorem isTime_eq (a : Int) : fdb_isTime a = some (decide (0 ≤ a ∧ a ≤ 1099511627776)) := by unfold fdb_isTime; rw [fin_eq]; rfl
theorem refPort_eq (a : Int) : ref08_Port a = some (decide (0 ≤ a ∧ a ≤ 7)) := by
 unfold ref08_Port
 by_cases h : 0 ≤ a <;> simp [h]
theorem refTime_eq (a : Int) : ref08_Time a = some (decide (0 ≤ a ∧ a ≤ 1099511627776)) := by
 unfold ref08_Time
 by_cases h : 0 ≤ a <;> simp [h]
def Szs (n slots age : Int) : Prop := Num n ∧ (1 ≤ slots ∧ slots ≤ 4) ∧ (1 ≤ age ∧ age ≤ 1048576)
instance (n slots age : Int) : Decidable (Szs n slots age) := by unfold Szs; infer_instance
theorem sizes_eq (n slots age : Int) : fdb_sizes n slots age = some (decide (Szs n slots age)) := by
 unfold fdb_sizes
 by_cases hn : Num n
 ·obtain ⟨m, rfl⟩ : ∃ m : Nat, n = (m : Int) := ⟨n.toNat, by unfold Num at hn; omega⟩
  rw [show (0 : Int) = ((0 : Nat) : Int) from rfl, hash_Bucket_eq (a := 0) (by omega) hn]
  simp only [Option.bind_some, fin_eq, gd_some]
  have : Szs (m : Int) slots age ↔ (1 ≤ slots ∧ slots ≤ 4) ∧ (1 ≤ age ∧ age ≤ 1048576) := ⟨fun h => h.2, fun h => ⟨hn, h⟩⟩
  by_cases h1 : 1 ≤ slots ∧ slots ≤ 4 <;> by_cases h2 : 1 ≤ age ∧ age ≤ 1048576 <;> simp [this, h1, h2]
 ·have : ¬ Szs n slots age := fun h => hn h.1
  rw [hash_Bucket_bad _ hn, decide_eq_false this]
  rfl
theorem refSizes_eq (n slots age : Int) : ref08_Sizes n slots age = some (decide (Szs n slots age)) := by
 unfold ref08_Sizes
 rw [refNumber_eq, Option.bind_some]
 unfold Szs
 by_cases hn : Num n <;> by_cases h1 : 1 ≤ slots <;> by_cases h2 : slots ≤ 4 <;> by_cases h3 : 1 ≤ age <;> by_cases h4 : age ≤ 1048576 <;> simp [hn, h1, h2, h3, h4]
end
section
set_option maxHeartbeats 1000000

theorem cnt_loopR {α ρ : Type} {r0 : ρ} {body : Nat → α → List (Int × Int) → Option (Step ρ (List (Int × Int)))} {xs : List α} (hl : xs.length ≤ 1000000) (key : α → Int) (ok : α → Prop) [DecidablePred ok]
  (hs : ∀ k x m, xs[k]? = some x → 0 ≤ mget m (key x) 0 → mget m (key x) 0 ≤ 1000000 → body k x m = some (bif decide (0 < mget m (key x) 0 ∨ ¬ ok x) then .ret r0 else .nxt (mput m (key x) (mget m (key x) 0 + 1)))) :
  (((xs.map key).Nodup ∧ ∀ x ∈ xs, ok x) ∧ ∃ s, rangeL body xs [] = some (.nxt s)) ∨ (¬ ((xs.map key).Nodup ∧ ∀ x ∈ xs, ok x) ∧ rangeL body xs [] = some (.ret r0)) := by
 obtain ⟨o, h1, h2⟩ := rangeL_rec (s0 := []) (body := body) hl
  (fun k m => (((xs.take k).map key).Nodup ∧ ∀ x ∈ xs.take k, ok x) ∧ ∀ z, mget m z 0 = if z ∈ (xs.take k).map key then 1 else 0)
  (fun r => r = r0 ∧ ¬ ((xs.map key).Nodup ∧ ∀ x ∈ xs, ok x)) (fun _ => False) (by simp [mget_nil]) (fun k x m hx ⟨⟨i1, i2⟩, i3⟩ => by
   have ht : xs.take (k + 1) = xs.take k ++ [x] := by rw [List.take_add_one, hx]; rfl
   have hr : mget m (key x) 0 = 0 ∨ mget m (key x) 0 = 1 := by rw [i3]; split <;> simp
   refine ⟨_, hs k x m hx (by omega) (by omega), ?_⟩
   by_cases hb : 0 < mget m (key x) 0 ∨ ¬ ok x
   ·rw [decide_eq_true hb]
    refine ⟨rfl, fun ⟨n1, n2⟩ => ?_⟩
    rcases hb with hb | hb
    ·have hmem : key x ∈ (xs.take k).map key := by
      rw [i3] at hb; split at hb
      ·assumption
      ·omega
     have : (xs.take (k + 1)).Sublist xs := List.take_sublist _ _
     have := (this.map key).nodup n1
     rw [ht, List.map_append, List.nodup_append] at this
     exact this.2.2 _ hmem _ (by simp) rfl
    ·exact hb (n2 x (List.mem_of_getElem? hx))
   ·rw [decide_eq_false hb]
    have hb1 : mget m (key x) 0 = 0 := by omega
    have hb2 : ok x := Classical.not_not.1 fun h => hb (.inr h)
    have hn : key x ∉ (xs.take k).map key := fun h => by rw [i3, if_pos h] at hb1; omega
    refine ⟨⟨?_, ?_⟩, fun z => ?_⟩
    ·rw [ht, List.map_append, List.nodup_append]
     exact ⟨i1, by simp, fun a ha b hb => by simp at hb; subst hb; exact fun e => hn (e ▸ ha)⟩
    ·rw [ht]; intro y hy
     rcases List.mem_append.1 hy with hy | hy
     ·exact i2 y hy
     ·simp at hy; subst hy; exact hb2
    ·rw [ht, List.map_append]
     by_cases e : key x = z
     ·subst e; rw [mget_mput, hb1, if_pos (by simp)]; rfl
     ·rw [mget_mput_ne e, i3]
      have : z ∈ List.map key (List.take k xs) ++ List.map key [x] ↔ z ∈ List.map key (List.take k xs) := by simp [Ne.symm e]
      simp only [this])
 cases o with
 | ret r => obtain ⟨rfl, h3⟩ := h2; exact .inr ⟨h3, h1⟩
 | brk s => exact h2.elim
 | nxt s =>
  have := h2.resolve_right id
  rw [List.take_length] at this
  exact .inl ⟨this.1, s, h1⟩

def EOk (n b : Nat) (e : En) : Prop := Uni e.Mac ∧ (0 ≤ e.Port ∧ e.Port ≤ 7) ∧ (0 ≤ e.Seen ∧ e.Seen ≤ 1099511627776) ∧ (e.Static = true → e.Seen = 0) ∧ bkt e.Mac.toNat n = b
noncomputable instance (n b : Nat) (e : En) : Decidable (EOk n b e) := by unfold EOk; infer_instance
def BOk (n : Nat) (slots : Int) (b : Nat) (l : List En) : Prop := ((l.map (·.Mac)).Nodup ∧ ∀ e ∈ l, EOk n b e) ∧ ((l.length : Nat) : Int) ≤ slots
noncomputable instance (n : Nat) (slots : Int) (b : Nat) (l : List En) : Decidable (BOk n slots b l) := by unfold BOk; infer_instance
def TbOk (t : Tb) : Prop := Szs ((t.Buckets.length : Nat) : Int) t.Slots t.Age ∧ ∀ b l, t.Buckets[b]? = some l → BOk t.Buckets.length t.Slots b l
theorem Uni.nat {a : Int} (h : Uni a) : a = ((a.toNat : Nat) : Int) ∧ a.toNat < 281474976710656 := by
 obtain ⟨h1, h2, _⟩ := h
 omega
theorem ent_cond {n b : Nat} {e : En} (hn : Num (n : Int)) :
  (fdb_isMac e.Mac = some (decide (Uni e.Mac))) ∧ (Uni e.Mac → hash_Bucket e.Mac (n : Int) = some (((bkt e.Mac.toNat n : Nat) : Int), 0)) ∧ (Uni e.Mac → ref07_Bucket e.Mac (n : Int) = some ((bkt e.Mac.toNat n : Nat) : Int)) := by
 refine ⟨isMac_eq _, fun h => ?_, fun h => ?_⟩
 ·obtain ⟨h1, h2⟩ := h.nat
  rw [h1]; simp only [Int.toNat_natCast]; exact hash_Bucket_eq h2 hn
 ·obtain ⟨h1, h2⟩ := h.nat
  rw [h1]; simp only [Int.toNat_natCast]; exact ref07_Bucket_eq h2 hn
theorem Right_row {t : Tb} (hn : Num ((t.Buckets.length : Nat) : Int)) {b : Nat} {l : List En} (hl : l.length ≤ 1000) :
  fdb_Right_c0 t b l () = some (bif !decide (BOk t.Buckets.length t.Slots b l) then .ret false else .nxt ()) := by
 unfold fdb_Right_c0
 rcases cnt_loopR (r0 := Step.ret false) (body := fdb_Right_c1 t b) (xs := l) (by omega) (·.Mac) (EOk t.Buckets.length b) (fun k x m hx m1 m2 => by
  obtain ⟨e1, e2, _⟩ := ent_cond (n := t.Buckets.length) (b := b) (e := x) hn
  unfold fdb_Right_c1
  simp only [e1, isPort_eq, isTime_eq, gd_some, Option.bind_some, w64i (x := mget m x.Mac 0 + 1) (by omega) (by omega)]
  by_cases hu : Uni x.Mac
  rotate_left
  ·have : ¬ EOk t.Buckets.length b x := fun h => hu h.1
   simp [hu, this]
  by_cases hp : 0 ≤ x.Port ∧ x.Port ≤ 7
  rotate_left
  ·have : ¬ EOk t.Buckets.length b x := fun h => hp h.2.1
   simp [hu, hp, this]
  by_cases hs : 0 ≤ x.Seen ∧ x.Seen ≤ 1099511627776
  rotate_left
  ·have : ¬ EOk t.Buckets.length b x := fun h => hs h.2.2.1
   simp [hu, hp, hs, this]
  by_cases hst : x.Static = true → x.Seen = 0
  rotate_left
  ·have : ¬ EOk t.Buckets.length b x := fun h => hst h.2.2.2.1
   have h1 : x.Static = true := Classical.byContradiction fun h => hst fun h' => absurd h' h
   have h2 : ¬ x.Seen = 0 := fun h => hst fun _ => h
   simp [hu, hp, hs, this, h1, h2]
  rw [e2 hu]
  have hst' : (bif x.Static then (!((decide True) && ((decide True) && ((decide (x.Seen = 0)) && ((x.Static == true) && true))))) else false) = false := by
   cases hx : x.Static
   ·rfl
   ·simp [hst hx]
  rw [hst']
  simp only [decide_eq_true hu, decide_eq_true hp, decide_eq_true hs, Bool.not_true, cond_false, cond_true, Option.bind_some]
  by_cases hb : bkt x.Mac.toNat t.Buckets.length = b
  ·have : EOk t.Buckets.length b x := ⟨hu, hp, hs, hst, hb⟩
   by_cases hm : 0 < mget m x.Mac 0
   ·have h1 : 1 < mget m x.Mac 0 + 1 := by omega
    simp [hb, hm, h1]
   ·have h1 : ¬ 1 < mget m x.Mac 0 + 1 := by omega
    simp [hb, hm, h1, this]
  ·have : ¬ EOk t.Buckets.length b x := fun h => hb h.2.2.2.2
   have h1 : ¬ ((bkt x.Mac.toNat t.Buckets.length : Nat) : Int) = (b : Int) := by omega
   simp [h1, this]) with ⟨h1, s, h2⟩ | ⟨h1, h2⟩
 ·rw [h2, aft_some_nxt]
  by_cases h3 : ((l.length : Nat) : Int) ≤ t.Slots
  ·have : BOk t.Buckets.length t.Slots b l := ⟨h1, h3⟩
   have h4 : ¬ t.Slots < ((l.length : Nat) : Int) := by omega
   simp [this, h4]
  ·have : ¬ BOk t.Buckets.length t.Slots b l := fun h => h3 h.2
   have h4 : t.Slots < ((l.length : Nat) : Int) := by omega
   simp [this, h4]
 ·have : ¬ BOk t.Buckets.length t.Slots b l := fun h => h1 h.1
  rw [h2, aft_some_ret]
  simp [this]

def plc : List En → Int → Int
 | [], _ => -1
 | e :: l, a => if e.Mac = a then 0 else if plc l a < 0 then -1 else plc l a + 1
theorem plc_none {a : Int} : ∀ {l : List En}, (∀ e ∈ l, e.Mac ≠ a) → plc l a = -1
 | [], _ => rfl
 | e :: l, h => by
  unfold plc
  rw [if_neg (h e List.mem_cons_self), plc_none fun x hx => h x (List.mem_cons_of_mem _ hx)]
  rfl
theorem plc_at {a : Int} : ∀ {l : List En} {k : Nat} {e : En}, l[k]? = some e → e.Mac = a → (∀ j y, j < k → l[j]? = some y → y.Mac ≠ a) → plc l a = (k : Int)
 | [], k, e, h, _, _ => by simp at h
 | x :: l, 0, e, h, he, _ => by
  simp at h; subst h
  unfold plc; rw [if_pos he]; rfl
 | x :: l, k + 1, e, h, he, hj => by
  have hx : x.Mac ≠ a := hj 0 x (by omega) rfl
  have := plc_at (l := l) (k := k) (by simpa using h) he (fun j y hlt hy => hj (j + 1) y (by omega) (by simpa using hy))
  unfold plc
  rw [if_neg hx, this, if_neg (by omega)]
  omega
theorem find_loop {ρ : Type} {body : Nat → En → Unit → Option (Step Int Unit)} {l : List En} {a : Int} (hl : l.length ≤ 1000000) (hb : ∀ k x, l[k]? = some x → body k x () = some (bif decide (x.Mac = a) then .ret ((k : Nat) : Int) else .nxt ())) :
  aft (rangeL body l ()) (fun _ => some (-1)) = some (plc l a) := by
 rcases rangeL_find (s0 := ()) hl (fun _ x => decide (x.Mac = a)) (fun k _ => ((k : Nat) : Int)) hb with ⟨k, x, hx, hp, hj, h⟩ | ⟨hp, h⟩
 ·rw [h, aft_some_ret, plc_at hx (by simpa using hp) (fun j y hlt hy => by simpa using hj j y hlt hy)]
 ·rw [h, aft_some_nxt, plc_none fun x hx => ?_]
  obtain ⟨k, hk⟩ := List.getElem?_of_mem hx
  simpa using hp k x hk
theorem Place_eq {l : List En} (hl : l.length ≤ 1000000) (a : Int) : ref08_Place l a = some (plc l a) :=
 find_loop (ρ := Unit) (body := ref08_Place_c0 a) hl fun k x hx => by unfold ref08_Place_c0; cases decide (x.Mac = a) <;> rfl
theorem Index_eq {l : List En} (hl : l.length ≤ 1000000) (a : Int) : slices_IndexFunc_Entry l (fun x => fdb_place_1 x a) = some (plc l a) :=
 find_loop (ρ := Unit) (body := slices_IndexFunc_Entry_c0 fun x => fdb_place_1 x a) hl fun k x hx => by
  simp only [slices_IndexFunc_Entry_c0, fdb_place_1, Option.bind_some]
  cases decide (x.Mac = a) <;> rfl
theorem plc_get {a : Int} : ∀ {l : List En}, 0 ≤ plc l a → ∃ e, l[(plc l a).toNat]? = some e ∧ e.Mac = a
 | [], h => by simp [plc] at h
 | x :: l, h => by
  unfold plc at h ⊢
  by_cases hx : x.Mac = a
  ·rw [if_pos hx]; exact ⟨x, rfl, hx⟩
  ·rw [if_neg hx] at h ⊢
   by_cases hl : plc l a < 0
   ·rw [if_pos hl] at h; omega
   ·rw [if_neg hl] at h ⊢
    obtain ⟨e, h1, h2⟩ := plc_get (l := l) (a := a) (by omega)
    refine ⟨e, ?_, h2⟩
    rw [show (plc l a + 1).toNat = (plc l a).toNat + 1 by omega]
    simpa using h1
theorem plc_mem {l : List En} {a : Int} : 0 ≤ plc l a ↔ a ∈ l.map (·.Mac) := by
 constructor
 ·intro h
  obtain ⟨e, h1, h2⟩ := plc_get h
  exact List.mem_map.2 ⟨e, List.mem_of_getElem? h1, h2⟩
 ·intro h
  rw [← Int.not_lt]
  intro hn
  have : plc l a = -1 := by
   cases l with
   | nil => rfl
   | cons x l =>
    unfold plc at hn ⊢
    split at hn
    ·omega
    ·rename_i hx
     rw [if_neg hx]
     split at hn
     ·rename_i h1; rw [if_pos h1]
     ·omega
  have key : ∀ {l : List En}, plc l a = -1 → a ∉ l.map (·.Mac) := by
   intro l
   induction l with
   | nil => intro _ h; cases h
   | cons x l ih =>
    intro h hm
    unfold plc at h
    split at h
    ·omega
    ·rename_i hx
     split at h
     ·rename_i hl
      have h2 : plc l a = -1 := by
       cases l with
       | nil => rfl
       | cons y l =>
        unfold plc at hl ⊢
        split at hl
        ·omega
        ·rename_i hy
         rw [if_neg hy]
         split at hl
         ·rename_i h1; rw [if_pos h1]
         ·omega
      rcases List.mem_cons.1 hm with h3 | h3
      ·exact hx h3.symm
      ·exact ih h2 h3
     ·omega
  exact key this h
theorem nodup_take {l : List En} : (l.map (·.Mac)).Nodup ↔ ∀ k x, l[k]? = some x → x.Mac ∉ (l.take k).map (·.Mac) := by
 constructor
 ·intro h k x hx hm
  have ht : l.take (k + 1) = l.take k ++ [x] := by rw [List.take_add_one, hx]; rfl
  have hs : (l.take (k + 1)).Sublist l := List.take_sublist _ _
  have := (hs.map (·.Mac)).nodup h
  rw [ht, List.map_append, List.nodup_append] at this
  exact this.2.2 _ hm _ (by simp) rfl
 ·intro h
  have : ∀ k, k ≤ l.length → ((l.take k).map (·.Mac)).Nodup := by
   intro k
   induction k with
   | zero => simp
   | succ k ih =>
    intro hk
    have hx : l[k]? = some l[k] := List.getElem?_eq_getElem (by omega)
    have ht : l.take (k + 1) = l.take k ++ [l[k]] := by rw [List.take_add_one, hx]; rfl
    rw [ht, List.map_append, List.nodup_append]
    exact ⟨ih (by omega), by simp, fun a ha b hb => by simp at hb; subst hb; exact fun e => h k _ hx (e ▸ ha)⟩
  have := this l.length (Nat.le_refl _)
  rwa [List.take_length] at this
theorem entry_eq {n b : Nat} (hn : Num (n : Int)) (e : En) : ref08_entry e (b : Int) (n : Int) = some (decide (EOk n b e)) := by
 obtain ⟨_, _, e3⟩ := ent_cond (n := n) (b := b) (e := e) hn
 unfold ref08_entry
 simp only [refMac_eq, refPort_eq, refTime_eq, gd_some, Option.bind_some]
 by_cases hu : Uni e.Mac
 rotate_left
 ·have : ¬ EOk n b e := fun h => hu h.1
  simp [hu, this, gd]
 by_cases hp : 0 ≤ e.Port ∧ e.Port ≤ 7
 rotate_left
 ·have : ¬ EOk n b e := fun h => hp h.2.1
  simp [hu, hp, this, gd]
 by_cases hs : 0 ≤ e.Seen ∧ e.Seen ≤ 1099511627776
 rotate_left
 ·have : ¬ EOk n b e := fun h => hs h.2.2.1
  simp [hu, hp, hs, this, gd]
 by_cases hst : e.Static = true → e.Seen = 0
 rotate_left
 ·have : ¬ EOk n b e := fun h => hst h.2.2.2.1
  have h1 : e.Static = true := Classical.byContradiction fun h => hst fun h' => absurd h' h
  have h2 : ¬ e.Seen = 0 := fun h => hst fun _ => h
  simp [hu, hp, hs, this, h1, h2, gd]
 rw [e3 hu]
 have hst' : (bif (!e.Static) then true else (decide (e.Seen = 0))) = true := by
  cases hx : e.Static
  ·rfl
  ·simp [hst hx]
 simp only [hst', decide_eq_true hu, decide_eq_true hp, decide_eq_true hs, cond_true, gd, Option.bind_some]
 by_cases hb : bkt e.Mac.toNat n = b
 ·have : EOk n b e := ⟨hu, hp, hs, hst, hb⟩
  simp [hb, this]
 ·have : ¬ EOk n b e := fun h => hb h.2.2.2.2
  have h1 : ¬ ((bkt e.Mac.toNat n : Nat) : Int) = (b : Int) := by omega
  simp [h1, this]
theorem ref_row {t : Tb} (hn : Num ((t.Buckets.length : Nat) : Int)) {b : Nat} {l : List En} (hl : l.length ≤ 1000) :
  ref08_Right_c0 t b l () = some (bif !decide (BOk t.Buckets.length t.Slots b l) then .ret false else .nxt ()) := by
 unfold ref08_Right_c0
 by_cases h3 : ((l.length : Nat) : Int) ≤ t.Slots
 rotate_left
 ·have : ¬ BOk t.Buckets.length t.Slots b l := fun h => h3 h.2
  have h4 : t.Slots < ((l.length : Nat) : Int) := by omega
  simp [this, h4]
 have h4 : ¬ t.Slots < ((l.length : Nat) : Int) := by omega
 simp only [decide_eq_false h4, cond_false]
 rcases rangeL_find (s0 := ()) (body := ref08_Right_c1 t b l) (xs := l) (by omega) (fun k x => !decide (EOk t.Buckets.length b x) || decide (0 ≤ plc (l.take k) x.Mac)) (fun _ _ => Step.ret false) (fun k x hx => by
  have hk := (List.getElem?_eq_some_iff.1 hx).1
  unfold ref08_Right_c1
  rw [entry_eq hn, Option.bind_some, grd_true (fun _ => ⟨by omega, by omega⟩)]
  simp only [Int.toNat_natCast]
  rw [Place_eq (by rw [List.length_take]; omega)]
  simp only [gd_some, Option.bind_some]
  cases decide (EOk t.Buckets.length b x)
  ·rfl
  ·simp only [Bool.not_true, Bool.not_false, cond_false, cond_true, Bool.false_or]
   cases decide (0 ≤ plc (l.take k) x.Mac) <;> rfl) with ⟨k, x, hx, hp, hj, h⟩ | ⟨hp, h⟩
 ·have : ¬ BOk t.Buckets.length t.Slots b l := fun hb => by
   rw [Bool.or_eq_true] at hp
   rcases hp with hp | hp
   ·simp [hb.1.2 x (List.mem_of_getElem? hx)] at hp
   ·exact nodup_take.1 hb.1.1 k x hx (plc_mem.1 (by simpa using hp))
  rw [h, aft_some_ret]
  simp [this]
 ·have : BOk t.Buckets.length t.Slots b l := by
   refine ⟨⟨nodup_take.2 fun k x hx hm => ?_, fun e he => ?_⟩, h3⟩
   ·have := hp k x hx
    simp [plc_mem.2 hm] at this
   ·obtain ⟨k, hk⟩ := List.getElem?_of_mem he
    have := hp k e hk
    simpa using (Bool.or_eq_false_iff.1 this).1
  rw [h, aft_some_nxt]
  simp [this]
def Small (t : Tb) : Prop := t.Buckets.length ≤ 100 ∧ ∀ l ∈ t.Buckets, l.length ≤ 100
theorem Right_both {t : Tb} (hs : Small t) : ∃ b, fdb_Right t = some b ∧ ref08_Right t = some b ∧ (b = true ↔ TbOk t) := by
 unfold fdb_Right ref08_Right
 rw [sizes_eq, refSizes_eq]
 by_cases hz : Szs ((t.Buckets.length : Nat) : Int) t.Slots t.Age
 rotate_left
 ·exact ⟨false, by simp [hz], by simp [hz], by simp [TbOk, hz]⟩
 have hlen : ∀ (b : Nat) (l : List En), t.Buckets[b]? = some l → l.length ≤ 1000 := fun b l h => Nat.le_trans (hs.2 l (List.mem_of_getElem? h)) (by omega)
 simp only [decide_eq_true hz, Option.bind_some, Bool.not_true, cond_false]
 have f1 := rangeL_find (s0 := ()) (body := fdb_Right_c0 t) (xs := t.Buckets) (by have := hs.1; omega) (fun b l => !decide (BOk t.Buckets.length t.Slots b l)) (fun _ _ => false) (fun b l h => Right_row hz.1 (hlen b l h))
 have f2 := rangeL_find (s0 := ()) (body := ref08_Right_c0 t) (xs := t.Buckets) (by have := hs.1; omega) (fun b l => !decide (BOk t.Buckets.length t.Slots b l)) (fun _ _ => false) (fun b l h => ref_row hz.1 (hlen b l h))
 rcases f1 with ⟨k, x, hx, hp, hj, h⟩ | ⟨hp, h⟩
 ·refine ⟨false, by rw [h, aft_some_ret], ?_, ?_⟩
  ·rcases f2 with ⟨k', x', hx', hp', hj', h'⟩ | ⟨hp', h'⟩
   ·rw [h', aft_some_ret]
   ·rw [hp' k x hx] at hp; cases hp
  ·refine ⟨fun h => (by cases h), fun ht => ?_⟩
   simp [ht.2 k x hx] at hp
 ·refine ⟨true, by rw [h, aft_some_nxt], ?_, ?_⟩
  ·rcases f2 with ⟨k', x', hx', hp', hj', h'⟩ | ⟨hp', h'⟩
   ·rw [hp k' x' hx'] at hp'; cases hp'
   ·rw [h', aft_some_nxt]
  ·exact ⟨fun _ => ⟨hz, fun b l h => by simpa using hp b l h⟩, fun _ => rfl⟩

noncomputable def bk (t : Tb) (a : Int) : List En := t.Buckets.getD (bkt a.toNat t.Buckets.length) []
theorem TbOk.bucket {t : Tb} (h : TbOk t) (a : Int) : t.Buckets[bkt a.toNat t.Buckets.length]? = some (bk t a) := by
 have := bkt_lt a.toNat (n := t.Buckets.length) h.1.1
 unfold bk
 simp [List.getD_eq_getElem?_getD, this]
theorem TbOk.bok {t : Tb} (h : TbOk t) (a : Int) : BOk t.Buckets.length t.Slots (bkt a.toNat t.Buckets.length) (bk t a) := h.2 _ _ (h.bucket a)
theorem TbOk.len4 {t : Tb} (h : TbOk t) (a : Int) : (bk t a).length ≤ 4 := by
 have := (h.bok a).2
 have := h.1.2.1.2
 omega
theorem place_eq {t : Tb} (h : TbOk t) {a : Int} (ha : Uni a) : fdb_place t a = some (((bkt a.toNat t.Buckets.length : Nat) : Int), plc (bk t a) a) := by
 obtain ⟨h1, h2⟩ := ha.nat
 have hb := hash_Bucket_eq (a := a.toNat) (n := t.Buckets.length) h2 h.1.1
 rw [← h1] at hb
 unfold fdb_place
 rw [hb]
 simp only [Option.bind_some]
 rw [gix_nat, h.bucket a]
 simp only [Option.bind_some]
 have := h.len4 a
 rw [Index_eq (by omega)]
 rfl
theorem refbucket_eq {t : Tb} (h : TbOk t) {a : Int} (ha : Uni a) : ref08_bucket t a = some (bk t a) := by
 obtain ⟨h1, h2⟩ := ha.nat
 have hb := ref07_Bucket_eq (a := a.toNat) (n := t.Buckets.length) h2 h.1.1
 rw [← h1] at hb
 unfold ref08_bucket
 rw [hb]
 simp only [Option.bind_some]
 rw [gix_nat, h.bucket a]
 rfl
noncomputable def fnd (t : Tb) (a now : Int) : Int := match (bk t a)[(plc (bk t a) a).toNat]? with
 | some e => if plc (bk t a) a < 0 then -1 else if e.Static = true ∨ now - e.Seen ≤ t.Age then e.Port else -1
 | none => -1
theorem Find_bad {t : Tb} (hs : Small t) {a now : Int} (h : ¬ (TbOk t ∧ Uni a ∧ (0 ≤ now ∧ now ≤ 1099511627776))) : fdb_Find t a now = some (0, 1) := by
 obtain ⟨b, h1, _, h3⟩ := Right_both hs
 unfold fdb_Find
 rw [h1, isMac_eq, isTime_eq]
 simp only [Option.bind_some, gd_some]
 cases b
 ·rfl
 ·have ht := h3.1 rfl
  by_cases hu : Uni a
  ·have hn : ¬ (0 ≤ now ∧ now ≤ 1099511627776) := fun hh => h ⟨ht, hu, hh⟩
   simp [hu, hn]
  ·simp [hu]
end
section
set_option maxHeartbeats 1000000

theorem fitsS {n b : Nat} (h : n ≤ 1000000) (hb : b ≤ 100) : fits n b := ⟨by omega, by
 have : n * b ≤ 1000000 * 100 := Nat.mul_le_mul h hb
 omega⟩
def ord (n : Nat) : List Int := (List.range n).map fun k => ((k : Nat) : Int)
theorem ord_len (n : Nat) : (ord n).length = n := by simp [ord]
theorem ord_mem {n : Nat} {z : Int} : z ∈ ord n ↔ 0 ≤ z ∧ z < (n : Int) := by
 unfold ord
 simp only [List.mem_map, List.mem_range]
 constructor
 ·rintro ⟨k, hk, rfl⟩; omega
 ·intro ⟨h1, h2⟩; exact ⟨z.toNat, by omega, by omega⟩
theorem ord_succ (n : Nat) : ord (n + 1) = ord n ++ [((n : Nat) : Int)] := by simp [ord, List.range_succ]
theorem ord_nodup (n : Nat) : (ord n).Nodup := by
 unfold ord
 exact List.Pairwise.map _ (fun a b h => by omega) List.nodup_range
theorem ord_get {n k : Nat} (h : k < n) : (ord n)[k]? = some ((k : Nat) : Int) := by
 unfold ord; rw [List.getElem?_map, List.getElem?_range h]; rfl
theorem ord_take {n k : Nat} (h : k ≤ n) : (ord n).take k = ord k := by
 unfold ord
 rw [← List.map_take, List.take_range, Nat.min_eq_left h]

theorem lruRight_eq {o : List Int} (hl : o.length ≤ 64) (hn : o.Nodup) (h0 : ∀ z ∈ o, 0 ≤ z) : lru_Right o = some true := by
 unfold lru_Right
 rcases cnt_loopR (r0 := false) (body := lru_Right_c0) (xs := o) (by omega) (fun z => z) (fun z => 0 ≤ z) (fun k x m hx m1 m2 => by
  unfold lru_Right_c0
  simp only [w64i (x := mget m x 0 + 1) (by omega) (by omega)]
  by_cases hx0 : 0 ≤ x
  ·have h1 : ¬ x < 0 := by omega
   by_cases hm : 0 < mget m x 0
   ·have h2 : 1 < mget m x 0 + 1 := by omega
    simp [h1, hm, h2]
   ·have h2 : ¬ 1 < mget m x 0 + 1 := by omega
    simp [h1, hm, h2, hx0]
  ·have h1 : x < 0 := by omega
   simp [h1, hx0]) with ⟨h1, s, h2⟩ | ⟨h1, h2⟩
 ·rw [h2, aft_some_nxt, decide_eq_true (by omega)]
 ·exact absurd ⟨by simpa using hn, h0⟩ h1
theorem without_eq {o : List Int} (hl : o.length ≤ 100) (w : Int) : _lru_order_without o w = some (o.filter fun z => !decide (z = w)) := by
 unfold _lru_order_without slices_Clone_order
 rw [grd_true (fitsS (by omega) (by omega)), Option.bind_some]
 have : slices_DeleteFunc_order o (fun x0_ => _lru_order_without_1 x0_ w) = some (o.filter fun z => !decide (z = w)) :=
  (show slices_DeleteFunc_order o (fun x0_ => _lru_order_without_1 x0_ w) = delG (fun x0_ => _lru_order_without_1 x0_ w) o from rfl).trans (delG_eq (p := fun z => decide (z = w)) (by omega) (fun x _ => rfl))
 rw [this]; rfl
theorem Use_eq {o : List Int} (hl : o.length ≤ 50) (hn : o.Nodup) (h0 : ∀ z ∈ o, 0 ≤ z) {w : Int} (hw : 0 ≤ w) : lru_Use o w = some (w :: o.filter (fun z => !decide (z = w)), 0) := by
 have hf := List.length_filter_le (fun z => !decide (z = w)) o
 unfold lru_Use _lru_order_use
 rw [lruRight_eq (by omega) hn h0, without_eq (by omega)]
 simp only [Option.bind_some, Bool.not_true, cond_false, decide_eq_false (show ¬ w < 0 by omega)]
 rw [grd_true (fitsS (by rw [List.length_append]; simp; omega) (by omega))]
 simp only [Option.bind_some, List.cons_append, List.nil_append]
 rw [decide_eq_false (show ¬ 64 < (((w :: o.filter (fun z => !decide (z = w))).length : Nat) : Int) by simp; omega)]
 rfl
theorem Drop_eq {o : List Int} (hl : o.length ≤ 50) (hn : o.Nodup) (h0 : ∀ z ∈ o, 0 ≤ z) {w : Int} (hw : w ∈ o) : lru_Drop o w = some (o.filter (fun z => !decide (z = w)), 0) := by
 have hlt : (o.filter (fun z => !decide (z = w))).length < o.length := by
  rw [List.length_filter_lt_length_iff_exists]
  exact ⟨w, hw, by simp⟩
 have hw0 := h0 w hw
 unfold lru_Drop
 rw [lruRight_eq (by omega) hn h0, without_eq (by omega)]
 simp only [Option.bind_some, Bool.not_true, cond_false, decide_eq_false (show ¬ w < 0 by omega)]
 rw [decide_eq_false (show ¬ (((o.filter (fun z => !decide (z = w))).length : Nat) : Int) = ((o.length : Nat) : Int) by omega)]
 rfl

def zE : En := ⟨0, 0, 0, false⟩
def atP (l : List En) (z : Int) : En := l.getD z.toNat zE
theorem gd_get {α : Type} {l : List α} {k : Nat} {d : α} (h : k < l.length) : l[k]? = some (l.getD k d) := by simp [List.getD_eq_getElem?_getD, h]
theorem all_places (l : List En) : (ord l.length).map (atP l) = l := by
 apply List.ext_getElem?
 intro i
 rw [List.getElem?_map]
 by_cases h : i < l.length
 ·rw [ord_get h, Option.map_some, gd_get (d := zE) h]; rfl
 ·rw [List.getElem?_eq_none (by rw [ord_len]; omega), List.getElem?_eq_none (by omega)]; rfl
theorem but_one {l : List En} (hn : (l.map (·.Mac)).Nodup) {i : Nat} {x : En} (hx : l[i]? = some x) : l.filter (fun y => !decide (y.Mac = x.Mac)) = ((ord l.length).filter fun z => !decide (z = (i : Int))).map (atP l) := by
 have hi := (List.getElem?_eq_some_iff.1 hx).1
 have h1 : l.filter (fun y => !decide (y.Mac = x.Mac)) = ((ord l.length).map (atP l)).filter (fun y => !decide (y.Mac = x.Mac)) := by rw [all_places]
 rw [h1, List.filter_map]
 congr 1
 apply List.filter_congr
 intro z hz
 obtain ⟨z0, z1⟩ := ord_mem.1 hz
 have hg : l[z.toNat]? = some (atP l z) := gd_get (by omega)
 show (!decide ((atP l z).Mac = x.Mac)) = _
 congr 1
 rw [decide_eq_decide]
 constructor
 ·intro h
  have e1 : (l.map (·.Mac))[z.toNat]? = some x.Mac := by rw [List.getElem?_map, hg, Option.map_some, h]
  have e2 : (l.map (·.Mac))[i]? = some x.Mac := by rw [List.getElem?_map, hx, Option.map_some]
  have hz' : z.toNat < (l.map (·.Mac)).length := (List.getElem?_eq_some_iff.1 e1).1
  have hi' : i < (l.map (·.Mac)).length := (List.getElem?_eq_some_iff.1 e2).1
  have e3 : (l.map (·.Mac))[z.toNat] = (l.map (·.Mac))[i] := by
   rw [(List.getElem?_eq_some_iff.1 e1).2, (List.getElem?_eq_some_iff.1 e2).2]
  have hp := List.pairwise_iff_getElem.1 hn
  rcases Nat.lt_trichotomy z.toNat i with hlt | heq | hlt
  ·exact absurd e3 (hp _ _ hz' hi' hlt)
  ·omega
  ·exact absurd e3.symm (hp _ _ hi' hz' hlt)
 ·intro h
  have : z.toNat = i := by omega
  rw [this, hx] at hg
  rw [← Option.some.inj hg]
theorem pick_loop {ρ : Type} {body : Nat → Int → List En → Option (Step ρ (List En))} (L : List En) {xs : List Int} (hl : xs.length ≤ 100) (hx : ∀ z ∈ xs, 0 ≤ z ∧ z < ((L.length : Nat) : Int))
  (hb : ∀ k x s, body k x s = grd ((0 : Int) ≤ x ∧ x < ((L.length : Nat) : Int)) ((gixN L (x : Int).toNat).bind fun v => grd (fits ((s ++ ([v] : (List En))) : List En).length 32) <| some (.nxt (s ++ ([v] : (List En)))))) : rangeL body xs [] = some (.nxt (xs.map (atP L))) :=
 rangeL_map (by omega) (atP L) fun k x s hk hs => by
  obtain ⟨h1, h2⟩ := hx x (List.mem_of_getElem? hk)
  have hkl := (List.getElem?_eq_some_iff.1 hk).1
  rw [hb, grd_true ⟨h1, h2⟩, show gixN L (x : Int).toNat = some (atP L x) from gd_get (by omega), Option.bind_some, grd_true (fitsS (by rw [List.length_append]; simp; omega) (by omega))]
theorem order_loop {ρ : Type} {body : Nat → List Int → Option (Step ρ (List Int))} (n : Nat) (hn : n ≤ 100) (hb : ∀ k s, body k s = grd (fits ((s ++ ([((k : Nat) : Int)] : (List Int))) : List Int).length 8) (some (.nxt (s ++ ([((k : Nat) : Int)] : (List Int)))))) : rangeN body ((n : Nat) : Int) [] = some (.nxt (ord n)) := by
 have := rangeN_up (body := body) (n := ((n : Nat) : Int)) (s0 := []) (by omega) (fun k => ord k) rfl (fun k hk => by
  rw [hb, grd_true (fitsS (by rw [List.length_append, ord_len]; simp; omega) (by omega)), ord_succ])
 rw [this, Int.toNat_natCast]
theorem own_eq {t : Tb} (h : t.Buckets.length ≤ 1000) : fdb_own_x t = some t := by
 unfold fdb_own_x
 rw [grd_true ⟨by omega, Int.le_refl _, fitsS (by rw [Int.toNat_natCast]; omega) (by omega)⟩]
 simp
def Lst (l : List En) (j : Nat) : Prop := j ≤ l.length ∧ (∀ (k : Nat) (e : En), j ≤ k → l[k]? = some e → e.Static = true) ∧ (j = 0 ∨ ∃ e, l[j - 1]? = some e ∧ e.Static = false)
theorem strip_loop {ρ : Type} {body : List Int → Option (Step ρ (List Int))} (L : List En) (l : List En) (hL : ∀ (k : Nat) (e : En), l[k]? = some e → L[k]? = some e) (hl : l.length ≤ 100) (hLl : l.length ≤ L.length)
  (hb : ∀ s, body s = grd (((decide (0 < ((s.length : Nat) : Int))) = true → (0 : Int) ≤ (IntKind.i64.wrap (((s.length : Nat) : Int) - 1)) ∧ (IntKind.i64.wrap (((s.length : Nat) : Int) - 1)) < ((s.length : Nat) : Int))) (
 (bif (decide (0 < ((s.length : Nat) : Int))) then
  (gixN s ((IntKind.i64.wrap (((s.length : Nat) : Int) - 1)) : Int).toNat).bind fun v62 =>
  grd (((decide (0 < ((s.length : Nat) : Int))) = true → (0 : Int) ≤ v62 ∧ v62 < ((L.length : Nat) : Int))) <|
  (gixN L (v62 : Int).toNat).bind fun v65 =>
  (bif (bif (decide (0 < ((s.length : Nat) : Int))) then v65.Static else false) then
   grd ((0 : Int) ≤ (IntKind.i64.wrap (((s.length : Nat) : Int) - 1)) ∧ (IntKind.i64.wrap (((s.length : Nat) : Int) - 1)) ≤ ((s.length : Nat) : Int)) <|
   some (.nxt (s.take ((IntKind.i64.wrap (((s.length : Nat) : Int) - 1)) : Int).toNat))
  else
   some (.brk s))
 else
  some (.brk s)))) : ∃ j, loopF 1000000 body (ord l.length) = some (.nxt (ord j)) ∧ Lst l j := by
 obtain ⟨o, h1, h2⟩ := loopF_rec (body := body) (fun s => s.length) (fun s => ∃ j : Nat, s = ord j ∧ j ≤ l.length ∧ ∀ (k : Nat) (e : En), j ≤ k → l[k]? = some e → e.Static = true) (fun _ => False) (fun s => ∃ j, s = ord j ∧ Lst l j) (fun s ⟨j, hs, hj, hst⟩ => by
  subst hs
  rw [hb, ord_len]
  by_cases h0 : j = 0
  ·subst h0
   rw [grd_true (by intro h; simp at h)]
   exact ⟨_, rfl, 0, rfl, by omega, hst, .inl rfl⟩
  have hw : IntKind.i64.wrap (((j : Nat) : Int) - 1) = ((j - 1 : Nat) : Int) := by rw [w64i (by omega) (by omega)]; omega
  have hd : decide (0 < ((j : Nat) : Int)) = true := decide_eq_true (by omega)
  have hlj : l[j - 1]? = some (l.getD (j - 1) zE) := gd_get (by omega)
  have hLj := hL _ _ hlj
  rw [hw, hd, grd_true (fun _ => ⟨by omega, by omega⟩)]
  simp only [cond_true, Int.toNat_natCast]
  rw [show gixN (ord j) (j - 1) = some ((j - 1 : Nat) : Int) from ord_get (by omega)]
  simp only [Option.bind_some, Int.toNat_natCast]
  rw [grd_true (fun _ => ⟨by omega, by omega⟩), show gixN L (j - 1) = some (l.getD (j - 1) zE) from hLj]
  simp only [Option.bind_some]
  cases hs : (l.getD (j - 1) zE).Static
  ·exact ⟨_, rfl, j, rfl, hj, hst, .inr ⟨_, hlj, hs⟩⟩
  ·simp only [cond_true]
   rw [grd_true ⟨by omega, by omega⟩, ord_take (by omega)]
   refine ⟨_, rfl, ⟨j - 1, rfl, by omega, fun k e hk he => ?_⟩, by simp only [ord_len]; omega⟩
   by_cases hk' : k = j - 1
   ·subst hk'
    rw [hlj] at he
    cases he; exact hs
   ·exact hst k e (by omega) he) 1000000 (ord l.length) ⟨l.length, rfl, Nat.le_refl _, fun k e hk he => by
    have := (List.getElem?_eq_some_iff.1 he).1; omega⟩ (by rw [ord_len]; omega)
 cases o with
 | ret r => exact h2.elim
 | brk s => exact h2.elim
 | nxt s => obtain ⟨j, rfl, hj⟩ := h2; exact ⟨j, h1, hj⟩
theorem last_eq {l : List En} (hl : l.length ≤ 1000) {j : Nat} (hj : Lst l j) : ref08_last l = some (((j : Nat) : Int) - 1) := by
 obtain ⟨s, h1, i, h2, h3, h4⟩ := rangeL_inv (s0 := (-1 : Int)) (body := ref08_last_c0) (xs := l) (by omega) (fun k s => ∃ i : Nat, s = ((i : Nat) : Int) - 1 ∧ i ≤ k ∧ (∀ (m : Nat) (e : En), i ≤ m → m < k → l[m]? = some e → e.Static = true) ∧ (i = 0 ∨ ∃ e, l[i - 1]? = some e ∧ e.Static = false)) ⟨0, rfl, Nat.le_refl _, fun m e h1 h2 => by omega, .inl rfl⟩ (fun k x s hx ⟨i, hs, hi, ha, hb⟩ => by
  unfold ref08_last_c0
  cases hst : x.Static
  ·exact ⟨_, rfl, k + 1, by omega, Nat.le_refl _, fun m e h1 h2 => by omega, .inr ⟨x, by simpa using hx, hst⟩⟩
  ·refine ⟨_, rfl, i, hs, by omega, fun m e h1 h2 he => ?_, hb⟩
   by_cases hm : m = k
   ·subst hm; rw [hx] at he; cases he; exact hst
   ·exact ha m e h1 (by omega) he)
 unfold ref08_last
 rw [h1, aft_some_nxt, h2]
 have : i = j := by
  obtain ⟨g1, g2, g3⟩ := hj
  obtain ⟨h4, h5⟩ := h4
  rcases Nat.lt_trichotomy i j with h | h | h
  ·rcases g3 with g3 | ⟨e, g3, g4⟩
   ·omega
   ·have := h4 (j - 1) e (by omega) (by omega) g3
    rw [g4] at this; cases this
  ·exact h
  ·rcases h5 with h5 | ⟨e, h5, h6⟩
   ·omega
   ·have := g2 (i - 1) e (by omega) h5
    rw [h6] at this; cases this
 rw [this]
theorem refwithout_eq {l : List En} (hl : l.length ≤ 1000) (a : Int) : ref08_without l a = some (l.filter fun y => !decide (y.Mac = a)) := by
 obtain ⟨s, h1, h2⟩ := rangeL_inv (s0 := ([] : List En)) (body := ref08_without_c0 a) (xs := l) (by omega) (fun k s => s = (l.take k).filter fun y => !decide (y.Mac = a)) (by simp) (fun k x s hx hs => by
  have hk := (List.getElem?_eq_some_iff.1 hx).1
  have hlen : s.length ≤ k := by
   rw [hs]
   have := List.length_filter_le (fun y => !decide (y.Mac = a)) (l.take k)
   rw [List.length_take] at this
   omega
  have ht : l.take (k + 1) = l.take k ++ [x] := by rw [List.take_add_one, hx]; rfl
  unfold ref08_without_c0
  rw [ht, List.filter_append, ← hs]
  by_cases hm : x.Mac = a
  ·exact ⟨s, by simp [hm], by simp [hm]⟩
  ·refine ⟨s ++ [x], ?_, by simp [hm]⟩
   simp only [decide_eq_false hm, Bool.not_false, cond_true]
   rw [grd_true (fitsS (by rw [List.length_append]; simp; omega) (by omega))])
 unfold ref08_without
 rw [h1, aft_some_nxt, h2, List.take_length]
theorem refwith_eq {t : Tb} (h : TbOk t) {a : Int} (ha : Uni a) (L : List En) : ref08_with t a L = some ⟨t.Buckets.set (bkt a.toNat t.Buckets.length) L, t.Slots, t.Age⟩ := by
 obtain ⟨h1, h2⟩ := ha.nat
 have hb := ref07_Bucket_eq (a := a.toNat) (n := t.Buckets.length) h2 h.1.1
 rw [← h1] at hb
 have hn : t.Buckets.length ≤ 16 := by have := h.1.1; unfold Num at this; omega
 obtain ⟨st, e1, e2⟩ := rangeL_inv (s0 := ([] : List (List En))) (body := ref08_with_c0 t a L) (xs := t.Buckets) (by omega) (fun k st => st = (t.Buckets.set (bkt a.toNat t.Buckets.length) L).take k) (by simp) (fun k y st hy hst => by
  have hk := (List.getElem?_eq_some_iff.1 hy).1
  subst hst
  have ht : ((t.Buckets.set (bkt a.toNat t.Buckets.length) L).take k).length ≤ k := by rw [List.length_take]; omega
  refine ⟨(t.Buckets.set (bkt a.toNat t.Buckets.length) L).take (k + 1), ?_, rfl⟩
  rw [List.take_add_one]
  unfold ref08_with_c0
  rw [hb, Option.bind_some]
  by_cases hkp : k = bkt a.toNat t.Buckets.length
  ·rw [← hkp, List.getElem?_set_self hk]
   simp only [decide_true, cond_true, Option.toList_some]
   rw [grd_true (fitsS (by rw [List.length_append]; simp; omega) (by omega))]
  ·have : decide (((k : Nat) : Int) = ((bkt a.toNat t.Buckets.length : Nat) : Int)) = false := decide_eq_false (by omega)
   rw [List.getElem?_set_ne (fun h => hkp h.symm), hy]
   simp only [this, cond_false, Option.toList_some]
   rw [grd_true (fitsS (by rw [List.length_append]; simp; omega) (by omega))])
 unfold ref08_with
 rw [e1, aft_some_nxt, e2, List.take_of_length_le (by simp)]
end
section
set_option maxHeartbeats 1000000

theorem clone_eq {l : List En} (h : l.length ≤ 1000) : slices_Clone_Entry l = some l := by
 unfold slices_Clone_Entry; rw [grd_true (fitsS (by omega) (by omega))]
theorem cloneI_eq {l : List Int} (h : l.length ≤ 1000) : slices_Clone_int l = some l := by
 unfold slices_Clone_int; rw [grd_true (fitsS (by omega) (by omega))]
noncomputable def wth (t : Tb) (a : Int) (L : List En) : Tb := ⟨t.Buckets.set (bkt a.toNat t.Buckets.length) L, t.Slots, t.Age⟩
theorem bucket_len {t : Tb} (h : TbOk t) (a : Int) : bkt a.toNat t.Buckets.length < t.Buckets.length := bkt_lt a.toNat h.1.1
theorem n16 {t : Tb} (h : TbOk t) : t.Buckets.length ≤ 16 := by have := h.1.1; unfold Num at this; omega
theorem wth_tail {t : Tb} (h : TbOk t) (a : Int) (L : List En) : ((fdb_own_x t).bind fun y =>
  grd ((0 : Int) ≤ ((bkt a.toNat t.Buckets.length : Nat) : Int) ∧ ((bkt a.toNat t.Buckets.length : Nat) : Int) < ((y.Buckets.length : Nat) : Int)) <|
  (gixN y.Buckets (((bkt a.toNat t.Buckets.length : Nat) : Int) : Int).toNat).bind fun v =>
  some ((⟨(y.Buckets.set (((bkt a.toNat t.Buckets.length : Nat) : Int) : Int).toNat L), y.Slots, y.Age⟩ : Tb), true)) = some (wth t a L, true) := by
 have hb := bucket_len h a
 have := n16 h
 rw [own_eq (by omega)]
 simp only [Option.bind_some, Int.toNat_natCast]
 rw [grd_true ⟨by omega, by omega⟩, show gixN t.Buckets (bkt a.toNat t.Buckets.length) = _ from h.bucket a]
 rfl
theorem small_of {t : Tb} (h : TbOk t) : Small t := ⟨by have := n16 h; omega, fun l hl => by
 obtain ⟨k, hk⟩ := List.getElem?_of_mem hl
 have h1 := (h.2 k l hk).2
 have h2 := h.1.2.1.2
 omega⟩
theorem small_wth {t : Tb} (h : TbOk t) (a : Int) {L : List En} (hL : L.length ≤ 100) : Small (wth t a L) := ⟨by simp only [wth, List.length_set]; have := n16 h; omega, fun l hl => by
 rcases List.mem_or_eq_of_mem_set hl with h1 | h1
 ·exact (small_of h).2 l h1
 ·rw [h1]; exact hL⟩
theorem Put_both {t : Tb} (h : TbOk t) {e : En} (he : Uni e.Mac) : ∃ r, fdb_put t e = some r ∧ ref08_put t e = some r ∧ Small r.1 := by
 have hl4 := h.len4 e.Mac
 have hbo := h.bok e.Mac
 have hbk := h.bucket e.Mac
 have hslots := h.1.2.1
 have htail := wth_tail h e.Mac
 have hrw := fun L => refwith_eq h he L
 have hrb := refbucket_eq h he
 have hsm := fun L => small_wth h e.Mac (L := L)
 unfold fdb_put ref08_put
 rw [place_eq h he, hrb]
 simp only [Option.bind_some]
 rw [gix_nat, hbk]
 generalize bk t e.Mac = l at *
 obtain ⟨⟨hn, hent⟩, hsl⟩ := hbo
 rw [refwithout_eq (by omega)]
 simp only [Option.bind_some]
 rw [clone_eq (by omega)]
 simp only [Option.bind_some]
 rw [order_loop (body := fdb_put_c0) l.length (by omega) (fun k s => rfl), aft_some_nxt]
 have hon := ord_nodup l.length
 have ho0 : ∀ z ∈ ord l.length, 0 ≤ z := fun z hz => (ord_mem.1 hz).1
 by_cases hp : plc l e.Mac < 0
 ·have hno : ∀ y ∈ l, y.Mac ≠ e.Mac := fun y hy hm => by
   have := plc_mem.2 (List.mem_map.2 ⟨y, hy, hm⟩)
   omega
  have hfl : (l.filter fun y => !decide (y.Mac = e.Mac)) = l := List.filter_eq_self.2 fun y hy => by simp [hno y hy]
  have hfo : ((ord l.length).filter fun z => !decide (z = ((l.length : Nat) : Int))) = ord l.length := List.filter_eq_self.2 fun z hz => by
   have := (ord_mem.1 hz).2
   simp; omega
  have hset : (l ++ [e]).set (((l.length : Nat) : Int)).toNat e = l ++ [e] := by
   rw [Int.toNat_natCast, List.set_append_right _ _ (Nat.le_refl _)]; simp
  have hat : ∀ z ∈ ord l.length, atP (l ++ [e]) z = atP l z := fun z hz => by
   obtain ⟨z0, z1⟩ := ord_mem.1 hz
   unfold atP
   rw [List.getD_eq_getElem?_getD, List.getD_eq_getElem?_getD, List.getElem?_append_left (by omega)]
  have hae : atP (l ++ [e]) ((l.length : Nat) : Int) = e := by
   unfold atP
   rw [Int.toNat_natCast, List.getD_eq_getElem?_getD]; simp
  simp only [decide_eq_true hp, cond_true]
  rw [grd_true (fitsS (by rw [List.length_append]; simp; omega) (by omega)), grd_true ⟨by omega, by rw [List.length_append]; simp; omega⟩, show gixN (l ++ [e]) (((l.length : Nat) : Int)).toNat = some e by unfold gixN; rw [Int.toNat_natCast]; simp]
  simp only [Option.bind_some]
  rw [Use_eq (by rw [ord_len]; omega) hon ho0 (by omega), hfo, hfl]
  simp only [Option.bind_some, List.length_cons, ord_len]
  by_cases hfull : t.Slots < (((l.length + 1 : Nat)) : Int)
  ·have heq : ((l.length : Nat) : Int) = t.Slots := by omega
   simp only [decide_eq_true hfull, decide_eq_true heq, cond_true]
   rw [grd_true ⟨by omega, by omega⟩, show List.drop (Int.toNat 1) (((l.length : Nat) : Int) :: ord l.length) = ord l.length from rfl, cloneI_eq (by rw [ord_len]; omega)]
   simp only [Option.bind_some]
   obtain ⟨j, hj1, hj2⟩ := strip_loop (body := fdb_put_c1 e l) ((l ++ [e]).set (((l.length : Nat) : Int)).toNat e) l (fun k x hk => by
    have := (List.getElem?_eq_some_iff.1 hk).1
    rw [hset, List.getElem?_append_left this]; exact hk) (by omega) (by rw [hset]; simp) (fun s => rfl)
   rw [hj1, aft_some_nxt, last_eq (by omega) hj2]
   simp only [Option.bind_some, ord_len]
   by_cases hj0 : j = 0
   ·subst hj0
    refine ⟨(t, false), ?_, ?_, small_of h⟩
    ·simp
    ·simp
   ·have hjl := hj2.1
    have hw : IntKind.i64.wrap (((j : Nat) : Int) - 1) = ((j - 1 : Nat) : Int) := by rw [w64i (by omega) (by omega)]; omega
    have hx : l[j - 1]? = some (l.getD (j - 1) zE) := gd_get (by omega)
    have hbut := but_one hn hx
    simp only [decide_eq_false (show ¬ ((j : Nat) : Int) = 0 by omega), decide_eq_false (show ¬ ((j : Nat) : Int) - 1 < 0 by omega), cond_false, hw]
    rw [grd_true ⟨by omega, by omega⟩, Int.toNat_natCast, show gixN (ord j) (j - 1) = some ((j - 1 : Nat) : Int) from ord_get (by omega), show ((j : Nat) : Int) - 1 = ((j - 1 : Nat) : Int) by omega, gix_nat, hx]
    simp only [Option.bind_some]
    rw [Drop_eq (o := ((l.length : Nat) : Int) :: ord l.length) (by simp [ord_len]; omega) (by
     rw [List.nodup_cons]; exact ⟨fun hm => by have := (ord_mem.1 hm).2; omega, hon⟩) (by
     intro z hz
     rcases List.mem_cons.1 hz with rfl | hz
     ·omega
     ·exact ho0 z hz) (List.mem_cons_of_mem _ (ord_mem.2 ⟨by omega, by omega⟩)), refwithout_eq (by omega), hbut]
    have hfc : ((((l.length : Nat) : Int) :: ord l.length).filter fun z => !decide (z = ((j - 1 : Nat) : Int))) = ((l.length : Nat) : Int) :: ((ord l.length).filter fun z => !decide (z = ((j - 1 : Nat) : Int))) := by
     rw [List.filter_cons, if_pos (by simp; omega)]
    have hle := List.length_filter_le (fun z => !decide (z = ((j - 1 : Nat) : Int))) (ord l.length)
    rw [ord_len] at hle
    have hmap : ((((l.length : Nat) : Int) :: ((ord l.length).filter fun z => !decide (z = ((j - 1 : Nat) : Int))))).map (atP (l ++ [e])) = [e] ++ ((ord l.length).filter fun z => !decide (z = ((j - 1 : Nat) : Int))).map (atP l) := by
     rw [List.map_cons, hae]
     exact congrArg (e :: ·) (List.map_congr_left fun z hz => hat z (List.mem_filter.1 hz).1)
    simp only [Option.bind_some]
    rw [hfc, pick_loop (body := fdb_put_c2 e l) ((l ++ [e]).set (((l.length : Nat) : Int)).toNat e) (by simp; omega) (fun z hz => by
     rw [hset]
     rcases List.mem_cons.1 hz with rfl | hz
     ·exact ⟨by omega, by simp; omega⟩
     ·have := ord_mem.1 (List.mem_filter.1 hz).1
      exact ⟨this.1, by simp; omega⟩) (fun k x s => rfl), aft_some_nxt, hset, hmap, htail, grd_true (fitsS (by simp; omega) (by omega)), hrw]
    exact ⟨_, rfl, rfl, hsm _ (by simp; omega)⟩
  ·have hne : ¬ ((l.length : Nat) : Int) = t.Slots := by omega
   simp only [decide_eq_false hfull, decide_eq_false hne, cond_false]
   have hmap : (((l.length : Nat) : Int) :: ord l.length).map (atP (l ++ [e])) = [e] ++ l := by
    rw [List.map_cons, hae]
    refine congrArg (e :: ·) ((List.map_congr_left fun z hz => hat z hz).trans (all_places l))
   rw [pick_loop (body := fdb_put_c3 e l) ((l ++ [e]).set (((l.length : Nat) : Int)).toNat e) (by simp [ord_len]; omega) (fun z hz => by
     rw [hset]
     rcases List.mem_cons.1 hz with rfl | hz
     ·exact ⟨by omega, by simp; omega⟩
     ·have := ord_mem.1 hz
      exact ⟨this.1, by simp; omega⟩) (fun k x s => rfl), aft_some_nxt, hset, hmap, htail, grd_true (fitsS (by simp; omega) (by omega)), hrw]
   exact ⟨_, rfl, rfl, hsm _ (by simp; omega)⟩
 ·obtain ⟨x, hx, hxm⟩ := plc_get (l := l) (a := e.Mac) (by omega)
  obtain ⟨i, hi⟩ : ∃ i : Nat, plc l e.Mac = (i : Int) := ⟨(plc l e.Mac).toNat, by omega⟩
  rw [hi, Int.toNat_natCast] at hx
  have hil := (List.getElem?_eq_some_iff.1 hx).1
  have hbut := but_one hn hx
  rw [hxm] at hbut
  have hiord : (i : Int) ∈ ord l.length := ord_mem.2 ⟨by omega, by omega⟩
  have hlt : ((ord l.length).filter (fun z => !decide (z = (i : Int)))).length < l.length := by
   have : ((ord l.length).filter (fun z => !decide (z = (i : Int)))).length < (ord l.length).length := by
    rw [List.length_filter_lt_length_iff_exists]
    exact ⟨(i : Int), hiord, by simp⟩
   rwa [ord_len] at this
  have hat : ∀ z ∈ (ord l.length).filter (fun z => !decide (z = (i : Int))), atP (l.set ((i : Int)).toNat e) z = atP l z := fun z hz => by
   obtain ⟨z1, z2⟩ := List.mem_filter.1 hz
   obtain ⟨z3, z4⟩ := ord_mem.1 z1
   have : z ≠ (i : Int) := by simpa using z2
   unfold atP
   rw [List.getD_eq_getElem?_getD, List.getD_eq_getElem?_getD, Int.toNat_natCast, List.getElem?_set_ne (by omega)]
  have hae : atP (l.set ((i : Int)).toNat e) (i : Int) = e := by
   unfold atP
   rw [List.getD_eq_getElem?_getD, Int.toNat_natCast, List.getElem?_set_self hil]; rfl
  simp only [hi, decide_eq_false (show ¬ (i : Int) < 0 by omega), cond_false]
  rw [grd_true ⟨by omega, by omega⟩, show gixN l ((i : Int)).toNat = some x from hx]
  simp only [Option.bind_some]
  rw [Use_eq (by rw [ord_len]; omega) hon ho0 (by omega)]
  simp only [Option.bind_some, List.length_cons]
  rw [hbut, List.length_map, decide_eq_false (show ¬ t.Slots < ((((ord l.length).filter (fun z => !decide (z = (i : Int)))).length + 1 : Nat) : Int) by omega), decide_eq_false (show ¬ ((((ord l.length).filter (fun z => !decide (z = (i : Int)))).length : Nat) : Int) = t.Slots by omega)]
  simp only [cond_false]
  have hmap : ((i : Int) :: ((ord l.length).filter fun z => !decide (z = (i : Int)))).map (atP (l.set ((i : Int)).toNat e)) = [e] ++ ((ord l.length).filter fun z => !decide (z = (i : Int))).map (atP l) := by
   rw [List.map_cons, hae]
   exact congrArg (e :: ·) (List.map_congr_left hat)
  rw [pick_loop (body := fdb_put_c6 e (((bkt e.Mac.toNat t.Buckets.length : Nat) : Int), (i : Int)) l) (l.set ((i : Int)).toNat e) (by simp; omega) (fun z hz => by
   rw [List.length_set]
   rcases List.mem_cons.1 hz with rfl | hz
   ·exact ⟨by omega, by omega⟩
   ·have := ord_mem.1 (List.mem_filter.1 hz).1
    exact ⟨this.1, by omega⟩) (fun k x s => rfl), aft_some_nxt, hmap, htail, grd_true (fitsS (by simp; omega) (by omega)), hrw]
  exact ⟨_, rfl, rfl, hsm _ (by simp; omega)⟩

theorem Learn_bad {t : Tb} (hs : Small t) {a port now : Int} (h : ¬ (TbOk t ∧ Uni a ∧ (0 ≤ port ∧ port ≤ 7) ∧ (0 ≤ now ∧ now ≤ 1099511627776))) : fdb_Learn t a port now = some (⟨[], 0, 0⟩, 1) := by
 obtain ⟨b, h1, _, h3⟩ := Right_both hs
 unfold fdb_Learn
 rw [h1, isMac_eq, isPort_eq, isTime_eq]
 simp only [Option.bind_some, gd_some]
 cases b
 ·rfl
 ·have ht := h3.1 rfl
  by_cases hu : Uni a
  ·by_cases hp : 0 ≤ port ∧ port ≤ 7
   ·have hn : ¬ (0 ≤ now ∧ now ≤ 1099511627776) := fun hh => h ⟨ht, hu, hp, hh⟩
    simp [hu, hp, hn]
   ·simp [hu, hp]
  ·simp [hu]
theorem row_ok {α ρ : Type} {body : Nat → α → Unit → Option (Step ρ Unit)} {l : List α} (hl : l.length ≤ 1000000) (hb : ∀ k x, l[k]? = some x → body k x () = some (.nxt ())) : rangeL body l () = some (.nxt ()) := by
 obtain ⟨s, h1, _⟩ := rangeL_inv (s0 := ()) (body := body) hl (fun _ _ => True) trivial (fun k x s hx _ => ⟨(), hb k x hx, trivial⟩)
 exact h1
theorem rows_self (l : List En) (h : l.length ≤ 100000) : ref08_rows l l = some true := by
 unfold ref08_rows
 rw [row_ok (ρ := Bool) (by omega) (fun k x hx => by simp [ref08_rows_c0, gix_nat, hx])]
 simp
theorem Same_self {t : Tb} (hs : Small t) : ref08_Same t t = some true := by
 unfold ref08_Same
 rw [row_ok (ρ := Bool) (by have := hs.1; omega) (fun k x hx => by
  have := hs.2 x (List.mem_of_getElem? hx)
  simp [ref08_Same_c0, gix_nat, hx, rows_self x (by omega)])]
 simp
theorem small_rep (n : Nat) (hn : n ≤ 100) (slots age : Int) : Small ⟨List.replicate n [], slots, age⟩ := ⟨by simp; omega, fun l hl => by
 have := (List.mem_replicate.1 hl).2
 subst this; simp⟩
def fewT (t : Tb) : Tb := ⟨(t.Buckets.take 20).map (·.take 8), t.Slots, t.Age⟩
theorem few_small (t : Tb) : Small (fewT t) := ⟨by simp [fewT]; omega, fun l hl => by
 obtain ⟨x, hx, rfl⟩ := List.mem_map.1 hl
 rw [List.length_take]; omega⟩
end
section
set_option maxHeartbeats 1000000

theorem fitsT {n b : Nat} (h : n ≤ 1000000) (hb : b ≤ 100) : fits n b := ⟨by omega, by
 have : n * b ≤ 1000000 * 100 := Nat.mul_le_mul h hb
 omega⟩
theorem w64t {x : Int} (h : -9223372036854775808 ≤ x) (h' : x ≤ 9223372036854775807) : IntKind.i64.wrap x = x := w64_in h h'

def TmOk (t : Tm) : Prop := 0 ≤ t.ID ∧ 0 ≤ t.At ∧ t.At ≤ 1099511627776
instance (t : Tm) : Decidable (TmOk t) := by unfold TmOk; infer_instance
theorem isTimer_eq (t : Tm) : wheel_isTimer t = some (decide (TmOk t)) := by
 unfold wheel_isTimer TmOk
 by_cases h1 : 0 ≤ t.ID <;> by_cases h2 : 0 ≤ t.At <;> simp [h1, h2]
def Bef (a b : Tm) : Prop := a.At < b.At ∨ (a.At = b.At ∧ a.ID < b.ID)
instance (a b : Tm) : Decidable (Bef a b) := by unfold Bef; infer_instance
theorem Bef.trans {a b c : Tm} (h : Bef a b) (g : Bef b c) : Bef a c := by unfold Bef at *; omega
theorem compare_eq (x y : Int) : cmp_Compare_int x y = some (if x < y then -1 else if y < x then 1 else 0) := by
 unfold cmp_Compare_int cmp_isNaN_int
 by_cases h1 : x < y
 ·simp [h1]
 ·by_cases h2 : y < x <;> simp [h1, h2]
theorem order_eq (a b : Tm) : ∃ c, wheel_order a b = some c ∧ (0 ≤ c ↔ ¬ Bef a b) := by
 have hor : ∀ p q : Int, cmp_Or_int [p, q] = some (if p = 0 then q else p) := by
  intro p q
  by_cases hp : p = 0
  ·subst hp
   by_cases hq : q = 0
   ·subst hq; rfl
   ·simp [cmp_Or_int, rangeL, forR, cmp_Or_int_c0, hq, aft, aftM]
  ·simp [cmp_Or_int, rangeL, forR, cmp_Or_int_c0, hp, aft, aftM]
 unfold wheel_order
 rw [compare_eq, compare_eq]
 simp only [Option.bind_some]
 rw [hor]
 refine ⟨_, rfl, ?_⟩
 unfold Bef
 by_cases h1 : a.At < b.At
 ·simp [h1]
 ·by_cases h2 : b.At < a.At
  ·have : ¬ a.At = b.At := by omega
   simp [h1, h2, this]
  ·have h3 : a.At = b.At := by omega
   by_cases h4 : a.ID < b.ID
   ·simp [h3, h4]
   ·by_cases h5 : b.ID < a.ID <;> simp [h3, h4, h5]

def TLOk (l : List Tm) : Prop := ((∀ t ∈ l, TmOk t) ∧ (l.map (·.ID)).Nodup ∧ l.Pairwise Bef) ∧ l.length ≤ 64
instance (l : List Tm) : Decidable (TLOk l) := by unfold TLOk; infer_instance
theorem wRight_eq {l : List Tm} (hl : l.length ≤ 1000) : wheel_Right l = some (decide (TLOk l)) := by
 obtain ⟨o, h1, h2⟩ := rangeL_rec (s0 := ([] : List (Int × Int))) (body := wheel_Right_c0 l) (xs := l) (by omega)
  (fun k m => (∀ t ∈ l.take k, TmOk t) ∧ ((l.take k).map (·.ID)).Nodup ∧ (l.take k).Pairwise Bef ∧ ∀ z, mget m z 0 = if z ∈ (l.take k).map (·.ID) then 1 else 0)
  (fun r => r = false ∧ ¬ ((∀ t ∈ l, TmOk t) ∧ (l.map (·.ID)).Nodup ∧ l.Pairwise Bef)) (fun _ => False) (by simp [mget_nil]) (fun k x m hx ⟨i1, i2, i3, i4⟩ => by
   have hk := (List.getElem?_eq_some_iff.1 hx).1
   have ht : l.take (k + 1) = l.take k ++ [x] := by rw [List.take_add_one, hx]; rfl
   have hr : mget m x.ID 0 = 0 ∨ mget m x.ID 0 = 1 := by rw [i4]; split <;> simp
   unfold wheel_Right_c0
   rw [isTimer_eq]
   simp only [Option.bind_some]
   rw [w64t (x := mget m x.ID 0 + 1) (by omega) (by omega)]
   have sub : (l.take (k + 1)).Sublist l := List.take_sublist _ _
   by_cases hbad : ¬ TmOk x ∨ 1 < mget m x.ID 0 + 1
   ·have e1 : (bif !decide (TmOk x) then true else decide (1 < mget m x.ID 0 + 1)) = true := by
     by_cases h : TmOk x
     ·have : 1 < mget m x.ID 0 + 1 := hbad.resolve_left (fun g => g h)
      simp [h, this]
     ·simp [h]
    simp only [e1, Bool.not_true, cond_false, gd_false, Option.bind_some, cond_true]
    refine ⟨_, rfl, rfl, fun ⟨n1, n2, n3⟩ => ?_⟩
    rcases hbad with hb | hb
    ·exact hb (n1 x (List.mem_of_getElem? hx))
    ·have hm : x.ID ∈ (l.take k).map (·.ID) := by
      apply Classical.byContradiction
      intro hn
      rw [i4, if_neg hn] at hb
      omega
     have := (sub.map (·.ID)).nodup n2
     rw [ht, List.map_append, List.nodup_append] at this
     exact this.2.2 _ hm _ (by simp) rfl
   ·have hok : TmOk x := Classical.not_not.1 fun h => hbad (.inl h)
    have hm0 : mget m x.ID 0 = 0 := by
     rcases hr with h | h
     ·exact h
     ·exact absurd (.inr (by omega)) hbad
    have hnm : x.ID ∉ (l.take k).map (·.ID) := fun h => by rw [i4, if_pos h] at hm0; omega
    have e1 : (bif !decide (TmOk x) then true else decide (1 < mget m x.ID 0 + 1)) = false := by simp [hok, hm0]
    simp only [e1, Bool.not_false, cond_true, cond_false]
    have good : (∀ y ∈ l.take k, Bef y x) → (∀ t ∈ l.take (k + 1), TmOk t) ∧ ((l.take (k + 1)).map (·.ID)).Nodup ∧ (l.take (k + 1)).Pairwise Bef ∧ ∀ z, mget (mput m x.ID (mget m x.ID 0 + 1)) z 0 = if z ∈ (l.take (k + 1)).map (·.ID) then 1 else 0 := fun hb => by
     rw [ht]
     refine ⟨fun t h => ?_, ?_, ?_, fun z => ?_⟩
     ·rcases List.mem_append.1 h with h | h
      ·exact i1 t h
      ·simp at h; subst h; exact hok
     ·rw [List.map_append, List.nodup_append]
      exact ⟨i2, by simp, fun a ha b hb => by simp at hb; subst hb; exact fun e => hnm (e ▸ ha)⟩
     ·rw [List.pairwise_append]
      exact ⟨i3, by simp, fun a ha b hb' => by simp at hb'; subst hb'; exact hb a ha⟩
     ·rw [List.map_append]
      by_cases e : x.ID = z
      ·subst e; rw [mget_mput, hm0, if_pos (by simp)]; rfl
      ·rw [mget_mput_ne e, i4]
       have : z ∈ List.map (·.ID) (l.take k) ++ List.map (·.ID) [x] ↔ z ∈ List.map (·.ID) (l.take k) := by simp [Ne.symm e]
       simp only [this]
    cases k with
    | zero =>
     simp only [show decide ((0 : Int) < ((0 : Nat) : Int)) = false from rfl, gd_false, Option.bind_some, cond_false]
     exact ⟨_, rfl, good (by simp)⟩
    | succ j =>
     have hj : l[j]? = some l[j] := List.getElem?_eq_getElem (by omega)
     rw [decide_eq_true (show (0 : Int) < ((j + 1 : Nat) : Int) by omega), w64t (x := ((j + 1 : Nat) : Int) - 1) (by omega) (by omega), show ((j + 1 : Nat) : Int) - 1 = ((j : Nat) : Int) by omega, gix_nat, hj]
     obtain ⟨c, hc1, hc2⟩ := order_eq l[j] x
     simp only [gd_true, Option.bind_some, hc1, cond_true]
     by_cases hb : Bef l[j] x
     ·have : ¬ 0 ≤ c := fun h => hc2.1 h hb
      rw [decide_eq_false this]
      refine ⟨_, rfl, good fun y hy => ?_⟩
      obtain ⟨q, hq⟩ := List.getElem?_of_mem hy
      have hq1 : q < j + 1 := by
       have := (List.getElem?_eq_some_iff.1 hq).1
       rw [List.length_take] at this; omega
      by_cases hqj : q = j
      ·subst hqj
       rw [List.getElem?_take_of_lt (by omega), hj] at hq
       rw [← Option.some.inj hq]; exact hb
      ·have hp := List.pairwise_iff_getElem.1 i3 q j (by rw [List.length_take]; omega) (by rw [List.length_take]; omega) (by omega)
       rw [List.getElem_take, List.getElem_take] at hp
       have hy' : y = l[q] := by
        rw [List.getElem?_take_of_lt hq1, List.getElem?_eq_getElem (by omega)] at hq
        exact (Option.some.inj hq).symm
       rw [hy']; exact hp.trans hb
     ·rw [decide_eq_true (hc2.2 hb)]
      refine ⟨_, rfl, rfl, fun ⟨n1, n2, n3⟩ => hb ?_⟩
      have hx' : x = l[j + 1] := (List.getElem?_eq_some_iff.1 hx).2.symm
      rw [hx']
      exact List.pairwise_iff_getElem.1 n3 j (j + 1) (by omega) hk (by omega))
 unfold wheel_Right
 rw [h1]
 cases o with
 | ret r =>
  obtain ⟨rfl, h3⟩ := h2
  rw [aft_some_ret, decide_eq_false (fun h => h3 h.1)]
 | brk s => exact h2.elim
 | nxt s =>
  have := h2.resolve_right id
  rw [List.take_length] at this
  rw [aft_some_nxt]
  congr 1
  rw [decide_eq_decide]
  exact ⟨fun h => ⟨⟨this.1, this.2.1, this.2.2.1⟩, by omega⟩, fun h => by have := h.2; omega⟩

theorem Advance_bad {l : List Tm} (hl : l.length ≤ 1000) {now : Int} (h : ¬ (TLOk l ∧ 0 ≤ now ∧ now ≤ 1099511627776)) : wheel_Advance l now = some ([], [], 1) := by
 unfold wheel_Advance
 rw [wRight_eq hl]
 simp only [Option.bind_some]
 by_cases h1 : TLOk l
 ·by_cases h2 : now < 0
  ·simp [h1, h2]
  ·have h3 : 1099511627776 < now := by
    rw [← Int.not_le]; exact fun h3 => h ⟨h1, by omega, h3⟩
   simp [h1, h2, h3]
 ·simp [h1]
theorem Advance_eq {l : List Tm} (h : TLOk l) {now : Int} (h0 : 0 ≤ now) (h1 : now ≤ 1099511627776) :
  ∃ k, k ≤ l.length ∧ wheel_Advance l now = some (l.drop k, l.take k, 0) ∧ (∀ x ∈ l.take k, x.At ≤ now) ∧ (∀ x ∈ l.drop k, now < x.At) := by
 have hl := h.2
 unfold wheel_Advance
 rw [wRight_eq (by omega), decide_eq_true h]
 have hi : slices_IndexFunc_Timer l (fun x0_ => wheel_Advance_1 x0_ now) = idxG (fun x0_ => wheel_Advance_1 x0_ now) l := rfl
 rw [hi]
 simp only [Option.bind_some, Bool.not_true, cond_false, decide_eq_false (show ¬ now < 0 by omega), decide_eq_false (show ¬ 1099511627776 < now by omega)]
 rcases idxG_eq (q := fun x0_ => wheel_Advance_1 x0_ now) (p := fun x => decide (now < x.At)) (l := l) (by omega) (fun x _ => rfl) with ⟨k, x, hx, hp, hj, h2⟩ | ⟨hp, h2⟩
 ·have hk := (List.getElem?_eq_some_iff.1 hx).1
  rw [h2]
  simp only [Option.bind_some, decide_eq_false (show ¬ ((k : Nat) : Int) < 0 by omega), cond_false, Int.toNat_natCast]
  rw [grd_true ⟨by omega, by omega⟩, grd_true ⟨by omega, by omega, by omega⟩]
  refine ⟨k, by omega, rfl, fun y hy => ?_, fun y hy => ?_⟩
  ·obtain ⟨q, hq⟩ := List.getElem?_of_mem hy
   have hqk : q < k := by
    have := (List.getElem?_eq_some_iff.1 hq).1
    rw [List.length_take] at this; omega
   rw [List.getElem?_take_of_lt hqk] at hq
   have := hj q y hqk hq
   simpa using this
  ·have hx0 : now < x.At := by simpa using hp
   obtain ⟨q, hq⟩ := List.getElem?_of_mem hy
   rw [List.getElem?_drop] at hq
   by_cases hq0 : q = 0
   ·subst hq0
    rw [Nat.add_zero, hx] at hq
    rw [← Option.some.inj hq]; exact hx0
   ·have hq1 := (List.getElem?_eq_some_iff.1 hq).1
    have hpw := List.pairwise_iff_getElem.1 h.1.2.2 k (k + q) hk hq1 (by omega)
    rw [(List.getElem?_eq_some_iff.1 hx).2, (List.getElem?_eq_some_iff.1 hq).2] at hpw
    unfold Bef at hpw
    omega
 ·rw [h2]
  simp only [Option.bind_some, show decide ((-1 : Int) < 0) = true from rfl, cond_true]
  rw [grd_true ⟨by omega, by omega⟩, grd_true ⟨by omega, by omega, by omega⟩, Int.toNat_natCast]
  refine ⟨l.length, Nat.le_refl _, rfl, fun y hy => ?_, fun y hy => ?_⟩
  ·rw [List.take_length] at hy
   have := hp y hy
   simpa using this
  ·rw [List.drop_length] at hy; cases hy

theorem twithout_eq {l : List Tm} (hl : l.length ≤ 1000) (id : Int) : wheel_without_x l id = some (l.filter fun t => !decide (t.ID = id)) := by
 unfold wheel_without_x slices_Clone_Timer
 rw [grd_true (fitsT (by omega) (by omega))]
 simp only [Option.bind_some]
 have : slices_DeleteFunc_Timer l (fun x0_ => wheel_without_1 x0_ id) = some (l.filter fun t => !decide (t.ID = id)) :=
  (show slices_DeleteFunc_Timer l (fun x0_ => wheel_without_1 x0_ id) = delG (fun x0_ => wheel_without_1 x0_ id) l from rfl).trans (delG_eq (l := l) (p := fun t : Tm => decide (t.ID = id)) (by omega) (fun x _ => rfl))
 rw [this]; rfl

def dig (k : Nat) (t : Tm) : Nat := t.At.toNat / 16 ^ k % 16
def Dg (k : Nat) (a b : Tm) : Prop := a.At.toNat % 16 ^ k < b.At.toNat % 16 ^ k ∨ (a.At.toNat % 16 ^ k = b.At.toNat % 16 ^ k ∧ a.ID < b.ID)
def turnL (k : Nat) (l : List Tm) : List Tm := ((List.range 16).map fun d => l.filter fun t => decide (dig k t = d)).flatten
theorem dig_lt (k : Nat) (t : Tm) : dig k t < 16 := Nat.mod_lt _ (by decide)
theorem turn_perm (k : Nat) (l : List Tm) : (turnL k l).Perm l := by
 have key : ∀ n, ((List.range n).map fun d => l.filter fun t => decide (dig k t = d)).flatten.Perm (l.filter fun t => decide (dig k t < n)) := by
  intro n
  induction n with
  | zero => simp
  | succ n ih =>
   rw [List.range_succ, List.map_append, List.flatten_append]
   simp only [List.map_cons, List.map_nil, List.flatten_cons, List.flatten_nil, List.append_nil]
   refine (ih.append_right _).trans ?_
   have h1 := List.filter_append_perm (fun t => decide (dig k t < n)) (l.filter fun t => decide (dig k t < n + 1))
   rw [List.filter_filter, List.filter_filter] at h1
   have e1 : (l.filter fun a => decide (dig k a < n) && decide (dig k a < n + 1)) = l.filter fun t => decide (dig k t < n) := List.filter_congr fun t _ => by
    by_cases h : dig k t < n
    ·have : dig k t < n + 1 := by omega
     simp [h, this]
    ·simp [h]
   have e2 : (l.filter fun a => !decide (dig k a < n) && decide (dig k a < n + 1)) = l.filter fun t => decide (dig k t = n) := List.filter_congr fun t _ => by
    by_cases h : dig k t = n
    ·simp [h]
    ·by_cases h2 : dig k t < n
     ·simp [h, h2]
     ·have : ¬ dig k t < n + 1 := by omega
      simp [h, this]
   rw [e1, e2] at h1
   exact h1
 have := key 16
 have e : (l.filter fun t => decide (dig k t < 16)) = l := List.filter_eq_self.2 fun t _ => by simp [dig_lt k t]
 rw [e] at this
 exact this
theorem at_succ (k : Nat) (t : Tm) : t.At.toNat % 16 ^ (k + 1) = t.At.toNat % 16 ^ k + 16 ^ k * dig k t := by
 rw [Nat.pow_succ, Nat.mod_mul]; rfl
theorem turn_pair {k : Nat} {l : List Tm} (h : l.Pairwise (Dg k)) : (turnL k l).Pairwise (Dg (k + 1)) := by
 unfold turnL
 rw [List.pairwise_flatten]
 constructor
 ·intro m hm
  obtain ⟨d, _, rfl⟩ := List.mem_map.1 hm
  have := (h.filter fun t => decide (dig k t = d))
  refine List.Pairwise.imp_of_mem ?_ this
  intro a b ha hb hab
  have h1 : dig k a = d := by simpa using (List.mem_filter.1 ha).2
  have h2 : dig k b = d := by simpa using (List.mem_filter.1 hb).2
  unfold Dg at hab ⊢
  rw [at_succ, at_succ, h1, h2]
  omega
 ·rw [List.pairwise_map]
  refine List.Pairwise.imp ?_ (List.pairwise_lt_range (n := 16))
  intro d e hde a ha b hb
  have h1 : dig k a = d := by simpa using (List.mem_filter.1 ha).2
  have h2 : dig k b = e := by simpa using (List.mem_filter.1 hb).2
  have h3 : a.At.toNat % 16 ^ k < 16 ^ k := Nat.mod_lt _ (Nat.pow_pos (by decide))
  have h4 : 16 ^ k * (d + 1) ≤ 16 ^ k * e := Nat.mul_le_mul_left _ hde
  rw [Nat.mul_succ] at h4
  unfold Dg
  rw [at_succ, at_succ, h1, h2]
  omega

def toA (f : Nat → List Tm) : A16_List_TimerT := ⟨f 0, f 1, f 2, f 3, f 4, f 5, f 6, f 7, f 8, f 9, f 10, f 11, f 12, f 13, f 14, f 15⟩
theorem bit_and15 {a : Nat} (h : a < 9223372036854775808) : bitI .and .i64 ((a : Nat) : Int) 15 = ((a % 16 : Nat) : Int) := by
 show IntKind.i64.wrap (((BitVec.ofInt 64 (a : Int) &&& BitVec.ofInt 64 15).toNat : Nat) : Int) = _
 rw [BitVec.toNat_and, bv_nat (by omega) (by omega), bv_nat (by omega) (by omega), Int.toNat_natCast]
 have e : a &&& (15 : Int).toNat = a % 16 := Nat.and_two_pow_sub_one_eq_mod a 4
 rw [e, w64t (by omega) (by omega)]
theorem dig_bits {k : Nat} (hk : k < 11) {t : Tm} (h0 : 0 ≤ t.At) (h1 : t.At ≤ 1099511627776) :
  bitI .and IntKind.i64 ((t.At).fdiv (2 ^ (min ((IntKind.i64.wrap (4 * ((k : Nat) : Int))) : Int).toNat 64))) 15 = ((dig k t : Nat) : Int) := by
 obtain ⟨a, ha⟩ : ∃ a : Nat, t.At = (a : Int) := ⟨t.At.toNat, by omega⟩
 rw [w64t (by omega) (by omega), show (4 * ((k : Nat) : Int)).toNat = 4 * k by omega, Nat.min_eq_left (by omega), ha]
 rw [Int.fdiv_eq_ediv_of_nonneg _ (Int.pow_nonneg (by decide))]
 have e : ((a : Nat) : Int) / (2 ^ (4 * k) : Int) = ((a / 16 ^ k : Nat) : Int) := by
  rw [Int.natCast_ediv, Int.natCast_pow, show ((16 : Nat) : Int) = 2 ^ 4 from rfl, ← Int.pow_mul]
 have hle : a / 16 ^ k ≤ a := Nat.div_le_self _ _
 rw [e, bit_and15 (by omega)]
 unfold dig
 rw [ha, Int.toNat_natCast]
theorem slot_step {k : Nat} (hk : k < 11) {l : List Tm} (hl : l.length ≤ 1000) (ht : ∀ t ∈ l, 0 ≤ t.At ∧ t.At ≤ 1099511627776) {j : Nat} (hj : j < l.length) (f : Nat → List Tm) (hf : ∀ d, (f d).length ≤ j) :
  wheel_spun_c1 k l j (toA f) = some (.nxt (toA fun d => if dig k l[j] = d then f d ++ [l[j]] else f d)) := by
 have hx : gixN l j = some l[j] := List.getElem?_eq_getElem hj
 obtain ⟨h0, h1⟩ := ht _ (List.getElem_mem hj)
 have hfit : ∀ d, fits (f d ++ ([l[j]] : List Tm)).length 16 := fun d => fitsT (by rw [List.length_append]; have := hf d; simp; omega) (by omega)
 unfold wheel_spun_c1
 rw [grd_true ⟨by omega, by omega⟩, Int.toNat_natCast, hx]
 simp only [Option.bind_some]
 rw [grd_true (by rw [w64t (by omega) (by omega)]; omega), dig_bits hk h0 h1]
 have hd := dig_lt k l[j]
 generalize dig k l[j] = d at hd ⊢
 generalize l[j] = v at hfit ⊢
 have : d = 0 ∨ d = 1 ∨ d = 2 ∨ d = 3 ∨ d = 4 ∨ d = 5 ∨ d = 6 ∨ d = 7 ∨ d = 8 ∨ d = 9 ∨ d = 10 ∨ d = 11 ∨ d = 12 ∨ d = 13 ∨ d = 14 ∨ d = 15 := by omega
 rcases this with h | h | h | h | h | h | h | h | h | h | h | h | h | h | h | h <;> subst h <;> (
  unfold selN
  rw [if_pos (by omega), Int.toNat_natCast]
  simp only [List.getElem?_cons_zero, List.getElem?_cons_succ, toA]
  exact (grd_true (hfit _)).trans rfl)
theorem slots_eq {k : Nat} (hk : k < 11) {l : List Tm} (hl : l.length ≤ 1000) (ht : ∀ t ∈ l, 0 ≤ t.At ∧ t.At ≤ 1099511627776) :
  rangeN (wheel_spun_c1 k l) ((l.length : Nat) : Int) (⟨([] : List Tm), ([] : List Tm), ([] : List Tm), ([] : List Tm), ([] : List Tm), ([] : List Tm), ([] : List Tm), ([] : List Tm), ([] : List Tm), ([] : List Tm), ([] : List Tm), ([] : List Tm), ([] : List Tm), ([] : List Tm), ([] : List Tm), ([] : List Tm)⟩ : A16_List_TimerT) = some (.nxt (toA fun d => l.filter fun t => decide (dig k t = d))) := by
 have e := rangeN_up (body := wheel_spun_c1 k l) (n := ((l.length : Nat) : Int)) (s0 := toA fun _ => []) (by omega) (fun j => toA fun d => (l.take j).filter fun t => decide (dig k t = d)) rfl (fun j hj => by
  have hj' : j < l.length := by omega
  rw [slot_step hk hl ht hj' _ (fun d => by
   have := List.length_filter_le (fun t => decide (dig k t = d)) (l.take j)
   rw [List.length_take] at this
   omega)]
  congr 2
  congr 1
  funext d
  rw [List.take_succ_eq_append_getElem hj', List.filter_append]
  by_cases h : dig k l[j] = d
  ·rw [if_pos h, List.filter_cons, if_pos (by simp [h]), List.filter_nil]
  ·rw [if_neg h, List.filter_cons, if_neg (by simp [h]), List.filter_nil, List.append_nil])
 rw [show (⟨([] : List Tm), ([] : List Tm), ([] : List Tm), ([] : List Tm), ([] : List Tm), ([] : List Tm), ([] : List Tm), ([] : List Tm), ([] : List Tm), ([] : List Tm), ([] : List Tm), ([] : List Tm), ([] : List Tm), ([] : List Tm), ([] : List Tm), ([] : List Tm)⟩ : A16_List_TimerT) = toA fun _ => [] from rfl, e, Int.toNat_natCast, List.take_length]
theorem concat_eq {L : List (List Tm)} (h : L.flatten.length ≤ 1000) (hL : L.length ≤ 1000) : slices_Concat_Timer L = some L.flatten := by
 have sub : ∀ k, (L.take k).flatten.length ≤ L.flatten.length := fun k => by
  have := congrArg (fun q => (List.flatten q).length) (List.take_append_drop k L)
  simp only [List.flatten_append, List.length_append] at this
  omega
 have e1 := rangeL_foldI (ρ := List Tm) (body := slices_Concat_Timer_c0) (xs := L) (s0 := (0 : Int)) (by omega) (fun q => ((q.flatten.length : Nat) : Int)) rfl (fun k x hx => by
  have ht : L.take (k + 1) = L.take k ++ [x] := by rw [List.take_add_one, hx]; rfl
  have h1 := sub (k + 1)
  rw [ht, List.flatten_append, List.length_append] at h1
  simp only [List.flatten_cons, List.flatten_nil, List.append_nil] at h1
  unfold slices_Concat_Timer_c0
  rw [w64t (x := (((L.take k).flatten.length : Nat) : Int) + ((x.length : Nat) : Int)) (by omega) (by omega), decide_eq_false (show ¬ (((L.take k).flatten.length : Nat) : Int) + ((x.length : Nat) : Int) < 0 by omega)]
  simp only [cond_false]
  congr 2
  rw [List.flatten_append, List.length_append]
  simp only [List.flatten_cons, List.flatten_nil, List.append_nil]
  omega)
 have e2 := rangeL_foldI (ρ := List Tm) (body := slices_Concat_Timer_c1) (xs := L) (s0 := ([] : List Tm)) (by omega) (fun q => q.flatten) rfl (fun k x hx => by
  have ht : L.take (k + 1) = L.take k ++ [x] := by rw [List.take_add_one, hx]; rfl
  have h1 := sub (k + 1)
  rw [ht, List.flatten_append] at h1
  simp only [List.flatten_cons, List.flatten_nil, List.append_nil] at h1
  unfold slices_Concat_Timer_c1
  rw [grd_true (fitsT (by omega) (by omega)), List.flatten_append]
  simp only [List.flatten_cons, List.flatten_nil, List.append_nil])
 unfold slices_Concat_Timer
 rw [e1, aft_some_nxt]
 unfold slices_Grow_Timer
 rw [grd_true ⟨by omega, by omega⟩]
 simp only [Option.bind_some]
 rw [e2, aft_some_nxt]
theorem turn_eq {k : Nat} (hk : k < 11) {l : List Tm} (hl : l.length ≤ 1000) (ht : ∀ t ∈ l, 0 ≤ t.At ∧ t.At ≤ 1099511627776) : wheel_spun_c0 k l = some (.nxt (turnL k l)) := by
 unfold wheel_spun_c0
 rw [slots_eq hk hl ht, aft_some_nxt]
 have hlen := (turn_perm k l).length_eq
 have : slices_Concat_Timer ([(toA fun d => l.filter fun t => decide (dig k t = d)).c0, (toA fun d => l.filter fun t => decide (dig k t = d)).c1, (toA fun d => l.filter fun t => decide (dig k t = d)).c2, (toA fun d => l.filter fun t => decide (dig k t = d)).c3, (toA fun d => l.filter fun t => decide (dig k t = d)).c4, (toA fun d => l.filter fun t => decide (dig k t = d)).c5, (toA fun d => l.filter fun t => decide (dig k t = d)).c6, (toA fun d => l.filter fun t => decide (dig k t = d)).c7, (toA fun d => l.filter fun t => decide (dig k t = d)).c8, (toA fun d => l.filter fun t => decide (dig k t = d)).c9, (toA fun d => l.filter fun t => decide (dig k t = d)).c10, (toA fun d => l.filter fun t => decide (dig k t = d)).c11, (toA fun d => l.filter fun t => decide (dig k t = d)).c12, (toA fun d => l.filter fun t => decide (dig k t = d)).c13, (toA fun d => l.filter fun t => decide (dig k t = d)).c14, (toA fun d => l.filter fun t => decide (dig k t = d)).c15] : List (List Tm)) = some (turnL k l) :=
  concat_eq (L := (List.range 16).map fun d => l.filter fun t => decide (dig k t = d)) (by
   show (turnL k l).length ≤ 1000
   omega) (by simp)
 rw [this]; rfl
theorem spun_eq {o : List Tm} (hl : o.length ≤ 1000) (ht : ∀ t ∈ o, 0 ≤ t.At ∧ t.At ≤ 1099511627776) (hn : (o.map (·.ID)).Nodup) : ∃ L, wheel_spun o = some L ∧ L.Perm o ∧ L.Pairwise Bef := by
 have hms := List.mergeSort_perm o (fun x y => decide (x.ID ≤ y.ID))
 have hp0 : (o.mergeSort fun x y => decide (x.ID ≤ y.ID)).Pairwise (Dg 0) := by
  refine (sorted_strict ((hms.map (·.ID)).nodup_iff.2 hn) (mergeT o)).imp fun h => ?_
  unfold Dg
  simp [Nat.mod_one]
  omega
 obtain ⟨s, h1, h2, h3⟩ := rangeN_inv (ρ := List Tm) (body := wheel_spun_c0) (n := 11) (s0 := o.mergeSort fun x y => decide (x.ID ≤ y.ID)) (by omega) (fun k s => s.Perm o ∧ s.Pairwise (Dg k)) ⟨hms, hp0⟩ (fun k s hk ⟨i1, i2⟩ => by
  refine ⟨_, turn_eq (k := k) (by omega) (by rw [i1.length_eq]; exact hl) (fun t h => ht t (i1.mem_iff.1 h)), (turn_perm k s).trans i1, turn_pair i2⟩)
 unfold wheel_spun slices_Clone_Timer slices_SortFunc_Timer_wheel_spun_1
 rw [grd_true (fitsT (by omega) (by omega))]
 simp only [Option.bind_some]
 rw [grd_true ⟨by omega, hn⟩]
 simp only [Option.bind_some]
 rw [h1, aft_some_nxt]
 refine ⟨s, rfl, h2, ?_⟩
 refine List.Pairwise.imp_of_mem ?_ h3
 intro a b ha hb hab
 have a1 := ht a (h2.mem_iff.1 ha)
 have b1 := ht b (h2.mem_iff.1 hb)
 unfold Dg at hab
 rw [show (Int.toNat 11) = 11 from rfl, Nat.mod_eq_of_lt (show a.At.toNat < 16 ^ 11 by omega), Nat.mod_eq_of_lt (show b.At.toNat < 16 ^ 11 by omega)] at hab
 unfold Bef
 omega

theorem bef_uniq : ∀ {a b : List Tm}, a.Pairwise Bef → b.Pairwise Bef → a.Perm b → a = b
 | [], b, _, _, hp => (List.nil_perm.1 hp).symm
 | x :: a, [], _, _, hp => absurd hp.symm (by simp)
 | x :: a, y :: b, ha, hb, hp => by
  have hxy : x = y := by
   rcases List.mem_cons.1 (hp.mem_iff.1 (List.mem_cons_self : x ∈ x :: a)) with h | h
   ·exact h
   ·rcases List.mem_cons.1 (hp.mem_iff.2 (List.mem_cons_self : y ∈ y :: b)) with h2 | h2
    ·exact h2.symm
    ·have h3 := List.rel_of_pairwise_cons ha h2
     have h4 := List.rel_of_pairwise_cons hb h
     unfold Bef at h3 h4
     omega
  subst hxy
  rw [bef_uniq (List.Pairwise.of_cons ha) (List.Pairwise.of_cons hb) (List.Perm.cons_inv hp)]
def armU (l : List Tm) (t : Tm) : List Tm := (l.filter fun x => !decide (x.ID = t.ID)) ++ [t]
theorem armU_ok {l : List Tm} (h : TLOk l) {t : Tm} (ht : TmOk t) : (∀ x ∈ armU l t, TmOk x) ∧ ((armU l t).map (·.ID)).Nodup := by
 unfold armU
 refine ⟨fun x hx => ?_, ?_⟩
 ·rcases List.mem_append.1 hx with hx | hx
  ·exact h.1.1 x (List.mem_filter.1 hx).1
  ·simp at hx; subst hx; exact ht
 ·rw [List.map_append, List.nodup_append]
  refine ⟨((List.filter_sublist : (l.filter fun x => !decide (x.ID = t.ID)).Sublist l).map (·.ID)).nodup h.1.2.1, by simp, fun a ha b hb => ?_⟩
  simp at hb
  subst hb
  obtain ⟨x, hx, rfl⟩ := List.mem_map.1 ha
  have := (List.mem_filter.1 hx).2
  simpa using this
theorem Arm_bad {l : List Tm} (hl : l.length ≤ 1000) {t : Tm} (h : ¬ (TLOk l ∧ TmOk t)) : wheel_Arm l t = some ([], 1) := by
 unfold wheel_Arm
 rw [wRight_eq hl, isTimer_eq]
 simp only [Option.bind_some, gd_some]
 by_cases h1 : TLOk l
 ·have h2 : ¬ TmOk t := fun h2 => h ⟨h1, h2⟩
  simp [h1, h2]
 ·simp [h1]
theorem Arm_eq {l : List Tm} (h : TLOk l) {t : Tm} (ht : TmOk t) :
  (64 < (armU l t).length ∧ wheel_Arm l t = some ([], 5)) ∨ ((armU l t).length ≤ 64 ∧ ∃ L, wheel_Arm l t = some (L, 0) ∧ L.Perm (armU l t) ∧ TLOk L) := by
 have hl := h.2
 obtain ⟨u1, u2⟩ := armU_ok h ht
 have hlen : (armU l t).length ≤ 65 := by
  unfold armU
  have := List.length_filter_le (fun x => !decide (x.ID = t.ID)) l
  rw [List.length_append]; simp; omega
 unfold wheel_Arm
 rw [wRight_eq (by omega), isTimer_eq, decide_eq_true h, decide_eq_true ht]
 simp only [Option.bind_some, Bool.not_true, Bool.not_false, gd_true, cond_false]
 rw [twithout_eq (by omega)]
 simp only [Option.bind_some]
 rw [show ((l.filter fun x => !decide (x.ID = t.ID)) ++ ([t] : List Tm)) = armU l t from rfl, grd_true (fitsT (by omega) (by omega))]
 by_cases h64 : 64 < (armU l t).length
 ·left
  refine ⟨h64, ?_⟩
  rw [decide_eq_true (show (64 : Int) < (((armU l t).length : Nat) : Int) by omega)]; rfl
 ·right
  refine ⟨by omega, ?_⟩
  obtain ⟨L, l1, l2, l3⟩ := spun_eq (o := armU l t) (by omega) (fun x hx => (u1 x hx).2) u2
  rw [decide_eq_false (show ¬ (64 : Int) < (((armU l t).length : Nat) : Int) by omega), cond_false, l1]
  exact ⟨L, rfl, l2, ⟨fun x hx => u1 x (l2.mem_iff.1 hx), (l2.map (·.ID)).nodup_iff.2 u2, l3⟩, by rw [l2.length_eq]; omega⟩
end
end Go.RX
