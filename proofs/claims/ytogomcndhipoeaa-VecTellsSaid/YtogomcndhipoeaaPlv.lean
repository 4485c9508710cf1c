/- Sorting, plainly: rows that are put in order. -/
namespace Go.RX
variable {α : Type} {le : α → α → Prop}
/-- In order. -/
abbrev Srt (le : α → α → Prop) (l : List α) : Prop := l.Pairwise le
theorem srt_append {a b : List α} (h1 : Srt le a) (h2 : Srt le b) (h3 : ∀ x ∈ a, ∀ y ∈ b, le x y) : Srt le (a ++ b) := List.pairwise_append.2 ⟨h1, h2, h3⟩
/-- What a merge of two neighbours comes to. -/
structure Mrg (le : α → α → Prop) (A B S : List α) : Prop where
  perm : S.Perm (A ++ B)
  srt : Srt le A → Srt le B → Srt le S
theorem Mrg.len {A B S : List α} (h : Mrg le A B S) : S.length = A.length + B.length := by rw [h.perm.length_eq, List.length_append]
theorem Mrg.nilL {B : List α} : Mrg le [] B B := ⟨by simp, fun _ h => h⟩
theorem Mrg.nilR {A : List α} : Mrg le A [] A := ⟨by simp, fun h _ => h⟩
/-- Two halves, each merged, of which all of one are ahead of all of the other. -/
theorem Mrg.two {A1 A2 B1 B2 S1 S2 : List α} (h1 : Mrg le A1 B1 S1) (h2 : Mrg le A2 B2 S2)
    (hab : Srt le (A1 ++ A2) → Srt le (B1 ++ B2) → (∀ x ∈ A1, ∀ y ∈ B2, le x y) ∧ (∀ x ∈ B1, ∀ y ∈ A2, le x y)) : Mrg le (A1 ++ A2) (B1 ++ B2) (S1 ++ S2) := by
  refine ⟨?_, fun hA hB => ?_⟩
  · refine (h1.perm.append h2.perm).trans ?_
    have : (B1 ++ A2).Perm (A2 ++ B1) := List.perm_append_comm
    have h3 : (A1 ++ B1 ++ (A2 ++ B2)).Perm (A1 ++ (A2 ++ B1) ++ B2) := by
      rw [List.append_assoc, ← List.append_assoc B1, List.append_assoc A1 (A2 ++ B1)]
      exact List.Perm.append_left _ (List.Perm.append_right _ this)
    refine h3.trans (List.Perm.of_eq ?_)
    simp [List.append_assoc]
  · obtain ⟨a1, a2, a3⟩ := List.pairwise_append.1 hA
    obtain ⟨b1, b2, b3⟩ := List.pairwise_append.1 hB
    obtain ⟨c1, c2⟩ := hab hA hB
    refine srt_append (h1.srt a1 b1) (h2.srt a2 b2) fun x hx y hy => ?_
    rcases List.mem_append.1 ((h1.perm.mem_iff).1 hx) with hx | hx <;> rcases List.mem_append.1 ((h2.perm.mem_iff).1 hy) with hy | hy
    · exact a3 x hx y hy
    · exact c1 x hx y hy
    · exact c2 x hx y hy
    · exact b3 x hx y hy
/-- One that is put among others, that are in order. -/
theorem Mrg.insL {x : α} {B1 B2 : List α} (h1 : Srt le (B1 ++ B2) → ∀ y ∈ B1, le y x) (h2 : Srt le (B1 ++ B2) → ∀ y ∈ B2, le x y) : Mrg le [x] (B1 ++ B2) (B1 ++ x :: B2) := by
  refine ⟨?_, fun _ hB => ?_⟩
  · exact List.perm_middle
  · obtain ⟨b1, b2, b3⟩ := List.pairwise_append.1 hB
    refine srt_append b1 (List.pairwise_cons.2 ⟨fun y hy => h2 hB y hy, b2⟩) fun u hu v hv => ?_
    rcases List.mem_cons.1 hv with rfl | hv
    · exact h1 hB u hu
    · exact b3 u hu v hv
theorem Mrg.insR {x : α} {A1 A2 : List α} (h1 : Srt le (A1 ++ A2) → ∀ y ∈ A1, le y x) (h2 : Srt le (A1 ++ A2) → ∀ y ∈ A2, le x y) : Mrg le (A1 ++ A2) [x] (A1 ++ x :: A2) := by
  refine ⟨?_, fun hA _ => ?_⟩
  · exact (List.perm_middle).trans ((List.perm_append_singleton x (A1 ++ A2)).symm)
  · obtain ⟨b1, b2, b3⟩ := List.pairwise_append.1 hA
    refine srt_append b1 (List.pairwise_cons.2 ⟨fun y hy => h2 hA y hy, b2⟩) fun u hu v hv => ?_
    rcases List.mem_cons.1 hv with rfl | hv
    · exact h1 hA u hu
    · exact b3 u hu v hv
/-- What is in order, and made of the same, is the same. -/
theorem srt_unique (anti : ∀ a b, le a b → le b a → a = b) : ∀ {l l' : List α}, l.Perm l' → Srt le l → Srt le l' → l = l'
  | [], l', h, _, _ => (List.Perm.eq_nil h.symm).symm
  | x :: r, [], h, _, _ => by have := h.length_eq; simp at this
  | x :: r, y :: s, h, h1, h2 => by
    obtain ⟨a1, a2⟩ := List.pairwise_cons.1 h1
    obtain ⟨b1, b2⟩ := List.pairwise_cons.1 h2
    have hxy : x = y := by
      rcases List.mem_cons.1 ((h.mem_iff).1 List.mem_cons_self) with h3 | h3
      · exact h3
      · rcases List.mem_cons.1 ((h.mem_iff).2 List.mem_cons_self) with h4 | h4
        · exact h4.symm
        · exact anti x y (a1 y h4) (b1 x h3)
    subst hxy
    rw [srt_unique anti (List.perm_cons x |>.1 h) a2 b2]
end Go.RX
