/- Maps as rows of pairs: what is asked behind a put. -/
import Derived.Test.YtoahcombdhgmhaaSeq
set_option linter.unusedVariables false
namespace Go.RX
variable {α β γ ρ σ : Type}
theorem mfind_none_of [DecidableEq α] : ∀ {m : List (α × β)} {k : α}, (∀ (j : Nat) (p : α × β), m[j]? = some p → p.1 ≠ k) → mfind m k = none := fun {m k} h => by
  cases hf : mfind m k with
  | none => rfl
  | some p => obtain ⟨i, v⟩ := p; exact absurd rfl (h i (k, v) (mfind_some hf).1)
theorem mfind_mput_ne [DecidableEq α] {m : List (α × β)} {k k' : α} (hn : k ≠ k') (v : β) : mfind (mput m k v) k' = mfind m k' := by
  cases h : mfind m k with
  | none =>
    rw [mput_none h]
    cases h' : mfind m k' with
    | none =>
      refine mfind_none_of fun j p hp => ?_
      rw [List.getElem?_append] at hp
      split at hp
      · exact mfind_none h' j p hp
      · have := List.mem_of_getElem? hp
        simp only [List.mem_singleton] at this
        rw [this]; exact hn
    | some q =>
      obtain ⟨i, u⟩ := q
      obtain ⟨h1, h2⟩ := mfind_some h'
      have hi := (List.getElem?_eq_some_iff.1 h1).1
      exact mfind_of (by rw [List.getElem?_append_left hi]; exact h1) fun j p hj hp => h2 j p hj (by rwa [List.getElem?_append_left (by omega)] at hp)
  | some p =>
    obtain ⟨i, u⟩ := p
    rw [mput_some h]
    obtain ⟨h1, h2⟩ := mfind_some h
    have hi := (List.getElem?_eq_some_iff.1 h1).1
    cases h' : mfind m k' with
    | none =>
      refine mfind_none_of fun j p hp => ?_
      by_cases e : i = j
      · subst e; rw [List.getElem?_set_self hi] at hp; cases hp; exact hn
      · rw [List.getElem?_set_ne e] at hp; exact mfind_none h' j p hp
    | some q =>
      obtain ⟨l, w⟩ := q
      obtain ⟨h3, h4⟩ := mfind_some h'
      have e : i ≠ l := fun e => by subst e; rw [h1] at h3; exact hn (congrArg Prod.fst (Option.some.inj h3))
      refine mfind_of (by rw [List.getElem?_set_ne e]; exact h3) fun j p hj hp => ?_
      by_cases e2 : i = j
      · subst e2; rw [List.getElem?_set_self hi] at hp; cases hp; exact hn
      · rw [List.getElem?_set_ne e2] at hp; exact h4 j p hj hp
theorem mget_mput_ne [DecidableEq α] {m : List (α × β)} {k k' : α} (hn : k ≠ k') (v d : β) : mget (mput m k v) k' d = mget m k' d := by
  unfold mget; rw [mfind_mput_ne hn]
theorem mget_nil [DecidableEq α] (k : α) (d : β) : mget ([] : List (α × β)) k d = d := rfl
end Go.RX
