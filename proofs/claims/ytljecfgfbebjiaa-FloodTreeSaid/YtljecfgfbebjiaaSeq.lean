/- SE: rules for the loops of plain functions. -/
import Derived.Test.YtljecfgfbebjiaaSea
set_option linter.unusedVariables false
namespace Go.RX
variable {α β γ ρ σ : Type}
theorem forR_rec {body : Nat → α → σ → Option (Step ρ σ)} {xs : List α} (I : Nat → σ → Prop) (R : ρ → Prop) (B : σ → Prop)
    (hs : ∀ k x s, xs[k]? = some x → I k s → ∃ o, body k x s = some o ∧ match o with | .nxt s' => I (k + 1) s' | .ret r => R r | .brk s' => B s') :
    ∀ (t : List α) (k : Nat) (s : σ), k + t.length = xs.length → (∀ i x, t[i]? = some x → xs[k + i]? = some x) → I k s →
      ∃ o, forR body t k s = some o ∧ match o with | .ret r => R r | .nxt s => I xs.length s ∨ B s | .brk _ => False := by
  intro t
  induction t with
  | nil => intro k s hk _ h; exact ⟨.nxt s, rfl, .inl (by have : k = xs.length := by simpa using hk
                                                          subst this; exact h)⟩
  | cons x t ih =>
    intro k s hk hx h
    obtain ⟨o, h1, h2⟩ := hs k x s (by simpa using hx 0 x rfl) h
    cases o with
    | ret r => exact ⟨.ret r, by simp [forR, h1], h2⟩
    | brk s' => exact ⟨.nxt s', by simp [forR, h1], .inr h2⟩
    | nxt s' =>
      obtain ⟨o, h3, h4⟩ := ih (k + 1) s' (by simp at hk; omega) (fun i y hy => by have := hx (i + 1) y (by simpa using hy); rwa [show k + (i + 1) = k + 1 + i by omega] at this) h2
      exact ⟨o, by simp [forR, h1, h3], h4⟩
theorem rangeL_rec {body : Nat → α → σ → Option (Step ρ σ)} {xs : List α} {s0 : σ} (hl : xs.length ≤ 1000000) (I : Nat → σ → Prop) (R : ρ → Prop) (B : σ → Prop) (h0 : I 0 s0)
    (hs : ∀ k x s, xs[k]? = some x → I k s → ∃ o, body k x s = some o ∧ match o with | .nxt s' => I (k + 1) s' | .ret r => R r | .brk s' => B s') :
    ∃ o, rangeL body xs s0 = some o ∧ match o with | .ret r => R r | .nxt s => I xs.length s ∨ B s | .brk _ => False := by
  unfold rangeL
  rw [if_pos hl]
  exact forR_rec I R B hs xs 0 s0 (by simp) (fun i x h => by simpa using h) h0
theorem rangeL_inv {body : Nat → α → σ → Option (Step ρ σ)} {xs : List α} {s0 : σ} (hl : xs.length ≤ 1000000) (I : Nat → σ → Prop) (h0 : I 0 s0)
    (hs : ∀ k x s, xs[k]? = some x → I k s → ∃ s', body k x s = some (.nxt s') ∧ I (k + 1) s') : ∃ s, rangeL body xs s0 = some (.nxt s) ∧ I xs.length s := by
  obtain ⟨o, h1, h2⟩ := rangeL_rec hl I (fun _ => False) (fun _ => False) h0 fun k x s hx h => by
    obtain ⟨s', h3, h4⟩ := hs k x s hx h; exact ⟨_, h3, h4⟩
  cases o with
  | ret r => exact h2.elim
  | brk s => exact h2.elim
  | nxt s => exact ⟨s, h1, h2.resolve_right id⟩
theorem rangeL_fold {body : Nat → α → σ → Option (Step ρ σ)} {xs : List α} {s0 : σ} (hl : xs.length ≤ 1000000) (f : σ → α → σ) (hs : ∀ k x s, xs[k]? = some x → body k x s = some (.nxt (f s x))) :
    rangeL body xs s0 = some (.nxt (xs.foldl f s0)) := by
  obtain ⟨s, h1, h2⟩ := rangeL_inv (s0 := s0) hl (fun k s => s = (xs.take k).foldl f s0) rfl fun k x s hx h => by
    refine ⟨_, hs k x s hx, ?_⟩
    rw [List.take_add_one, hx, h]; simp
  rw [h1, h2, List.take_length]
theorem rangeL_foldI {body : Nat → α → σ → Option (Step ρ σ)} {xs : List α} {s0 : σ} (hl : xs.length ≤ 1000000) (F : List α → σ) (h0 : F [] = s0) (hs : ∀ k x, xs[k]? = some x → body k x (F (xs.take k)) = some (.nxt (F (xs.take k ++ [x])))) :
    rangeL body xs s0 = some (.nxt (F xs)) := by
  obtain ⟨s, h1, h2⟩ := rangeL_inv (s0 := s0) hl (fun k s => s = F (xs.take k)) (by simp [h0]) fun k x s hx h => by
    subst h
    refine ⟨_, hs k x hx, ?_⟩
    rw [List.take_add_one, hx]; rfl
  rw [h1, h2, List.take_length]
theorem rangeL_find {body : Nat → α → σ → Option (Step ρ σ)} {xs : List α} {s0 : σ} (hl : xs.length ≤ 1000000) (p : Nat → α → Bool) (g : Nat → α → ρ)
    (hs : ∀ k x, xs[k]? = some x → body k x s0 = some (bif p k x then .ret (g k x) else .nxt s0)) :
    (∃ k x, xs[k]? = some x ∧ p k x = true ∧ (∀ j y, j < k → xs[j]? = some y → p j y = false) ∧ rangeL body xs s0 = some (.ret (g k x))) ∨
    ((∀ k x, xs[k]? = some x → p k x = false) ∧ rangeL body xs s0 = some (.nxt s0)) := by
  obtain ⟨o, h1, h2⟩ := rangeL_rec (s0 := s0) hl (fun k s => s = s0 ∧ ∀ j y, j < k → xs[j]? = some y → p j y = false)
    (fun r => ∃ k x, xs[k]? = some x ∧ p k x = true ∧ (∀ j y, j < k → xs[j]? = some y → p j y = false) ∧ r = g k x) (fun _ => False) ⟨rfl, fun j y h => absurd h (Nat.not_lt_zero _)⟩ fun k x s hx ⟨hs0, hj⟩ => by
    subst hs0
    refine ⟨_, hs k x hx, ?_⟩
    cases hp : p k x with
    | true => exact ⟨k, x, hx, hp, hj, rfl⟩
    | false =>
      refine ⟨rfl, fun j y hjk hy => ?_⟩
      rcases Nat.lt_succ_iff_lt_or_eq.1 hjk with h | h
      · exact hj j y h hy
      · subst h; rw [hx] at hy; cases hy; exact hp
  cases o with
  | ret r => obtain ⟨k, x, a, b, c, rfl⟩ := h2; exact .inl ⟨k, x, a, b, c, h1⟩
  | brk s => exact h2.elim
  | nxt s =>
    obtain ⟨rfl, h3⟩ := h2.resolve_right id
    exact .inr ⟨fun k x hx => h3 k x (List.getElem?_eq_some_iff.1 hx).1 hx, h1⟩
theorem rangeL_all {body : Nat → α → Unit → Option (Step ρ Unit)} {xs : List α} (hl : xs.length ≤ 1000000) (p : α → Bool) (r : ρ)
    (hs : ∀ k x, xs[k]? = some x → body k x () = some (bif p x then .nxt () else .ret r)) : rangeL body xs () = some (bif xs.all p then .nxt () else .ret r) := by
  rcases rangeL_find (s0 := ()) (body := body) hl (fun _ x => !p x) (fun _ _ => r) (fun k x hx => by rw [hs k x hx]; cases p x <;> rfl) with ⟨k, x, hx, hp, _, h⟩ | ⟨hp, h⟩
  · rw [h, show xs.all p = false by rw [List.all_eq_false]; exact ⟨x, List.mem_of_getElem? hx, by simpa using hp⟩]; rfl
  · rw [h, show xs.all p = true by rw [List.all_eq_true]; intro x hx; obtain ⟨k, hk⟩ := List.getElem?_of_mem hx; simpa using hp k x hk]; rfl
theorem rangeN_rec {body : Nat → σ → Option (Step ρ σ)} {n : Int} {s0 : σ} (hl : n ≤ 1000000) (I : Nat → σ → Prop) (R : ρ → Prop) (B : σ → Prop) (h0 : I 0 s0)
    (hs : ∀ (k : Nat) (s : σ), (k : Int) < n → I k s → ∃ o, body k s = some o ∧ match o with | .nxt s' => I (k + 1) s' | .ret r => R r | .brk s' => B s') :
    ∃ o, rangeN body n s0 = some o ∧ match o with | .ret r => R r | .nxt s => I n.toNat s ∨ B s | .brk _ => False := by
  unfold rangeN
  have := rangeL_rec (xs := List.replicate n.toNat ()) (body := fun k _ s => body k s) (s0 := s0) (by rw [List.length_replicate]; omega) I R B h0 fun k x s hx h => hs k s (by have := (List.getElem?_eq_some_iff.1 hx).1; rw [List.length_replicate] at this; omega) h
  rwa [List.length_replicate] at this
theorem rangeN_inv {body : Nat → σ → Option (Step ρ σ)} {n : Int} {s0 : σ} (hl : n ≤ 1000000) (I : Nat → σ → Prop) (h0 : I 0 s0)
    (hs : ∀ (k : Nat) (s : σ), (k : Int) < n → I k s → ∃ s', body k s = some (.nxt s') ∧ I (k + 1) s') : ∃ s, rangeN body n s0 = some (.nxt s) ∧ I n.toNat s := by
  obtain ⟨o, h1, h2⟩ := rangeN_rec hl I (fun _ => False) (fun _ => False) h0 fun k s hx h => by
    obtain ⟨s', h3, h4⟩ := hs k s hx h; exact ⟨_, h3, h4⟩
  cases o with
  | ret r => exact h2.elim
  | brk s => exact h2.elim
  | nxt s => exact ⟨s, h1, h2.resolve_right id⟩
theorem loopF_rec {body : σ → Option (Step ρ σ)} (μ : σ → Nat) (I : σ → Prop) (R : ρ → Prop) (B : σ → Prop)
    (hs : ∀ s, I s → ∃ o, body s = some o ∧ match o with | .nxt s' => I s' ∧ μ s' < μ s | .ret r => R r | .brk s' => B s') :
    ∀ (fuel : Nat) (s : σ), I s → μ s < fuel → ∃ o, loopF fuel body s = some o ∧ match o with | .ret r => R r | .nxt s => B s | .brk _ => False := by
  intro fuel
  induction fuel with
  | zero => intro s _ h; omega
  | succ n ih =>
    intro s hI hm
    obtain ⟨o, h1, h2⟩ := hs s hI
    cases o with
    | ret r => exact ⟨.ret r, by simp [loopF, h1], h2⟩
    | brk s' => exact ⟨.nxt s', by simp [loopF, h1], h2⟩
    | nxt s' =>
      obtain ⟨o, h3, h4⟩ := ih s' h2.1 (by have := h2.2; omega)
      exact ⟨o, by simp [loopF, h1, h3], h4⟩
@[simp] theorem aft_some_ret {r : γ} {k : σ → Option γ} : aft (some (.ret r)) k = some r := rfl
@[simp] theorem aft_some_nxt {s : σ} {k : σ → Option γ} : aft (some (.nxt s)) k = k s := rfl
@[simp] theorem grd_true {p : Prop} [Decidable p] {m : Option α} (h : p) : grd p m = m := if_pos h
theorem gix_nat {l : List α} {k : Nat} : gix l ((k : Nat) : Int) = l[k]? := by unfold gix; rw [if_pos (Int.natCast_nonneg k), Int.toNat_natCast]
end Go.RX
