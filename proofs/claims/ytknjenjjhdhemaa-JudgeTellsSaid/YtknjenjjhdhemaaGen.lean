/- The library's functions on rows, for every type. -/
import Derived.Test.YtknjenjjhdhemaaMp
set_option linter.unusedVariables false
namespace Go.RX
variable {α β γ ρ σ : Type}
def idxG (q : α → Option Bool) (l : List α) : Option Int := aft (rangeL (fun (k : Nat) (x : α) (_ : Unit) => (q x).bind fun y => (bif y then some (Step.ret ((k : Nat) : Int)) else some (.nxt ()))) l ()) fun _ => some (-1)
theorem idxG_eq {q : α → Option Bool} {p : α → Bool} {l : List α} (hl : l.length ≤ 1000000) (hq : ∀ x ∈ l, q x = some (p x)) :
    (∃ k x, l[k]? = some x ∧ p x = true ∧ (∀ j y, j < k → l[j]? = some y → p y = false) ∧ idxG q l = some ((k : Nat) : Int)) ∨ ((∀ x ∈ l, p x = false) ∧ idxG q l = some (-1)) := by
  unfold idxG
  rcases rangeL_find (s0 := ()) (body := fun (k : Nat) (x : α) (_ : Unit) => (q x).bind fun y => (bif y then some (Step.ret ((k : Nat) : Int)) else some (.nxt ()))) hl (fun _ x => p x) (fun k _ => ((k : Nat) : Int)) (fun k x hx => by
    rw [hq x (List.mem_of_getElem? hx), Option.bind_some]; cases p x <;> rfl) with ⟨k, x, hx, hp, hj, h⟩ | ⟨hp, h⟩
  · exact .inl ⟨k, x, hx, hp, hj, by rw [h]; rfl⟩
  · exact .inr ⟨fun x hx => by obtain ⟨k, hk⟩ := List.getElem?_of_mem hx; exact hp k x hk, by rw [h]; rfl⟩
def conG (q : α → Option Bool) (l : List α) : Option Bool := (idxG q l).bind fun y => some (decide (0 ≤ y))
theorem conG_eq {q : α → Option Bool} {p : α → Bool} {l : List α} (hl : l.length ≤ 1000000) (hq : ∀ x ∈ l, q x = some (p x)) : conG q l = some (l.any p) := by
  unfold conG
  rcases idxG_eq hl hq with ⟨k, x, hx, hp, _, h⟩ | ⟨hp, h⟩
  · rw [h, Option.bind_some, show l.any p = true from List.any_eq_true.2 ⟨x, List.mem_of_getElem? hx, hp⟩, decide_eq_true (Int.natCast_nonneg k)]
  · rw [h, Option.bind_some, show l.any p = false from List.any_eq_false.2 fun x hx => by simp [hp x hx]]; rfl
def delB (q : α → Option Bool) (s : Int × Int × List α) : Option (Step (List α) (Int × Int × List α)) :=
  (bif (decide (s.2.1 < ((s.2.2.length : Nat) : Int))) then
    grd ((0 : Int) ≤ s.2.1 ∧ s.2.1 < ((s.2.2.length : Nat) : Int)) <|
    (gixN s.2.2 (s.2.1 : Int).toNat).bind fun v =>
    (q v).bind fun y =>
    (bif (!y) then
      grd ((0 : Int) ≤ s.1 ∧ s.1 < ((s.2.2.length : Nat) : Int)) <|
      (gixN s.2.2 (s.1 : Int).toNat).bind fun _ =>
      some (.nxt ((IntKind.i64.wrap (s.1 + 1)), (IntKind.i64.wrap (s.2.1 + 1)), (s.2.2.set (s.1 : Int).toNat v)))
    else
      some (.nxt (s.1, (IntKind.i64.wrap (s.2.1 + 1)), s.2.2)))
  else
    some (.brk (s.1, s.2.1, s.2.2)))
def delG (q : α → Option Bool) (l : List α) : Option (List α) :=
  (idxG q l).bind fun y =>
  (bif (decide (y = (-1))) then
    some l
  else
    aft (loopF 1000000 (delB q) (y, (IntKind.i64.wrap (y + 1)), l)) fun s =>
    grd ((0 : Int) ≤ s.1 ∧ s.1 < ((s.2.2.length : Nat) : Int)) <|
    grd ((0 : Int) ≤ s.1 ∧ s.1 ≤ ((s.2.2.length : Nat) : Int)) <|
    some (s.2.2.take (s.1 : Int).toNat))
theorem delG_eq {q : α → Option Bool} {p : α → Bool} {l : List α} (hl : l.length ≤ 900000) (hq : ∀ x ∈ l, q x = some (p x)) : delG q l = some (l.filter fun x => !p x) := by
  unfold delG
  rcases idxG_eq (by omega) hq with ⟨k, x, hx, hp, hj, h⟩ | ⟨hp, h⟩
  · have hk := (List.getElem?_eq_some_iff.1 hx).1
    have hfk : (l.take k).filter (fun x => !p x) = l.take k := List.filter_eq_self.2 fun y hy => by
      obtain ⟨j, hj'⟩ := List.getElem?_of_mem hy
      have hjk : j < k := by have := (List.getElem?_eq_some_iff.1 hj').1; rw [List.length_take] at this; omega
      rw [List.getElem?_take, if_pos hjk] at hj'
      rw [hj j y hjk hj']; rfl
    rw [h, Option.bind_some, decide_eq_false (show ¬ ((k : Nat) : Int) = -1 by omega), cond_false, w64_in (by omega) (by omega)]
    obtain ⟨o, h1, h2⟩ := loopF_rec (body := delB q) (fun s => l.length - s.2.1.toNat)
      (fun s => ∃ j i : Nat, s.1 = (i : Int) ∧ s.2.1 = (j : Int) ∧ i < j ∧ j ≤ l.length ∧ s.2.2.length = l.length ∧ s.2.2.take i = (l.take j).filter (fun x => !p x) ∧ ∀ m, j ≤ m → s.2.2[m]? = l[m]?)
      (fun _ => False) (fun s => ∃ i : Nat, s.1 = (i : Int) ∧ i < l.length ∧ s.2.2.length = l.length ∧ s.2.2.take i = l.filter (fun x => !p x)) (fun s ⟨j, i, e1, e2, hij, hjl, hlen, ht, hd⟩ => by
        obtain ⟨s1, s2, L⟩ := s
        dsimp only at e1 e2 hlen ht hd
        subst e1; subst e2
        unfold delB
        dsimp only
        by_cases hjn : j < l.length
        · rw [decide_eq_true (show ((j : Nat) : Int) < ((L.length : Nat) : Int) by omega), cond_true, grd_true ⟨by omega, by omega⟩]
          unfold gixN
          rw [Int.toNat_natCast, Int.toNat_natCast, hd j (Nat.le_refl _), List.getElem?_eq_getElem hjn, Option.bind_some, hq _ (List.getElem_mem hjn), Option.bind_some]
          have hta : l.take (j + 1) = l.take j ++ [l[j]] := by rw [List.take_add_one, List.getElem?_eq_getElem hjn]; rfl
          cases hpj : p l[j] with
          | true =>
            refine ⟨_, rfl, ⟨j + 1, i, rfl, by show IntKind.i64.wrap _ = _; rw [w64_in (by omega) (by omega)]; omega, by omega, by omega, hlen, ?_, fun m hm => hd m (by omega)⟩, ?_⟩
            · show L.take i = _; rw [ht, hta, List.filter_append]; simp [hpj]
            · show l.length - (IntKind.i64.wrap _).toNat < _
              rw [w64_in (by omega) (by omega)]; omega
          | false =>
            rw [Bool.not_false, cond_true, grd_true ⟨by omega, by omega⟩, List.getElem?_eq_getElem (show i < L.length by omega), Option.bind_some]
            refine ⟨_, rfl, ⟨j + 1, i + 1, by show IntKind.i64.wrap _ = _; rw [w64_in (by omega) (by omega)]; omega, by show IntKind.i64.wrap _ = _; rw [w64_in (by omega) (by omega)]; omega, by omega, by omega, ?_, ?_, fun m hm => ?_⟩, ?_⟩
            · show (L.set _ _).length = _; rw [List.length_set, hlen]
            · show (L.set i l[j]).take (i + 1) = _
              rw [List.take_add_one, List.getElem?_set_self (by omega), List.take_set_of_le (Nat.le_refl i), ht, hta, List.filter_append]
              simp [hpj]
            · show (L.set i _)[m]? = _
              rw [List.getElem?_set_ne (by omega)]; exact hd m (by omega)
            · show l.length - (IntKind.i64.wrap _).toNat < _
              rw [w64_in (by omega) (by omega)]; omega
        · rw [decide_eq_false (show ¬ ((j : Nat) : Int) < ((L.length : Nat) : Int) by omega)]
          refine ⟨_, rfl, i, rfl, by omega, hlen, ?_⟩
          show L.take i = _
          rw [ht, List.take_of_length_le (by omega)]) 1000000 (((k : Nat) : Int), ((k : Nat) : Int) + 1, l) ⟨k + 1, k, rfl, by show ((k : Nat) : Int) + 1 = _; omega, by omega, by omega, rfl, by
        show l.take k = _
        rw [List.take_add_one, hx, List.filter_append, hfk]; simp [hp], fun m hm => rfl⟩ (by show l.length - _ < _; omega)
    cases o with
    | ret r => exact h2.elim
    | brk s => exact h2.elim
    | nxt s =>
      obtain ⟨i, i1, i2, i3, i4⟩ := h2
      rw [h1, aft_some_nxt, i1, grd_true ⟨by omega, by omega⟩, grd_true ⟨by omega, by omega⟩, Int.toNat_natCast, i4]
  · rw [h, Option.bind_some]
    have : l.filter (fun x => !p x) = l := List.filter_eq_self.2 fun y hy => by rw [hp y hy]; rfl
    rw [this]; rfl

end Go.RX
