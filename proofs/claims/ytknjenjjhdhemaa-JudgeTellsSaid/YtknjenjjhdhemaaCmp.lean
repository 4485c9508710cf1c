/- Parts of a plan, plainly: the closure of a relation, and how many classes it has. -/
set_option linter.unusedVariables false
namespace Go.RX
/-- What is joined by steps. -/
inductive Eqv (G : Int → Int → Prop) (a : Int) : Int → Prop where
  | refl : Eqv G a a
  | step {b c : Int} : Eqv G a b → G b c → Eqv G a c
namespace Eqv
variable {G H : Int → Int → Prop} {a b c : Int}
theorem one (h : G a b) : Eqv G a b := .step .refl h
theorem trans (h1 : Eqv G a b) (h2 : Eqv G b c) : Eqv G a c := by
  induction h2 with
  | refl => exact h1
  | step _ h ih => exact .step ih h
theorem symm (hs : ∀ x y, G x y → G y x) (h : Eqv G a b) : Eqv G b a := by
  induction h with
  | refl => exact .refl
  | step _ h ih => exact (one (hs _ _ h)).trans ih
theorem mono (hm : ∀ x y, G x y → Eqv H x y) (h : Eqv G a b) : Eqv H a b := by
  induction h with
  | refl => exact .refl
  | step _ h ih => exact ih.trans (hm _ _ h)
theorem iff_of (h1 : ∀ x y, G x y → Eqv H x y) (h2 : ∀ x y, H x y → Eqv G x y) : Eqv G a b ↔ Eqv H a b := ⟨mono h1, mono h2⟩
/-- What is closed under steps holds all that is joined. -/
theorem closed {p : Int → Prop} (hp : ∀ x y, p x → G x y → p y) (h : Eqv G a b) (ha : p a) : p b := by
  induction h with
  | refl => exact ha
  | step _ h ih => exact hp _ _ ih h
end Eqv
/-- One step more. -/
def Jo (R : Int → Int → Prop) (a b x y : Int) : Prop := R x y ∨ (R x a ∧ R b y) ∨ (R x b ∧ R a y)
theorem Eqv.join {G : Int → Int → Prop} (hs : ∀ x y, G x y → G y x) {a b x y : Int} :
    Eqv (fun u v => G u v ∨ (u = a ∧ v = b) ∨ (u = b ∧ v = a)) x y ↔ Jo (Eqv G) a b x y := by
  constructor
  · intro h
    induction h with
    | refl => exact .inl .refl
    | step _ h ih =>
      rename_i u v _
      rcases h with h | ⟨rfl, rfl⟩ | ⟨rfl, rfl⟩
      · rcases ih with i | ⟨i, j⟩ | ⟨i, j⟩
        · exact .inl (.step i h)
        · exact .inr (.inl ⟨i, .step j h⟩)
        · exact .inr (.inr ⟨i, .step j h⟩)
      · rcases ih with i | ⟨i, j⟩ | ⟨i, j⟩
        · exact .inr (.inl ⟨i, .refl⟩)
        · exact .inr (.inl ⟨i, .refl⟩)
        · exact .inl i
      · rcases ih with i | ⟨i, j⟩ | ⟨i, j⟩
        · exact .inr (.inr ⟨i, .refl⟩)
        · exact .inl i
        · exact .inr (.inr ⟨i, .refl⟩)
  · have m : ∀ {u v}, Eqv G u v → Eqv (fun u v => G u v ∨ (u = a ∧ v = b) ∨ (u = b ∧ v = a)) u v := fun h => Eqv.mono (fun x y h => .one (.inl h)) h
    rintro (h | ⟨h, k⟩ | ⟨h, k⟩)
    · exact m h
    · exact (Eqv.step (m h) (.inr (.inl ⟨rfl, rfl⟩))).trans (m k)
    · exact (Eqv.step (m h) (.inr (.inr ⟨rfl, rfl⟩))).trans (m k)
/-- The least of its class. -/
def Lst (R : Int → Int → Prop) (s : Nat) : Prop := ∀ t : Nat, t < s → ¬ R t s
open Classical in
/-- How many classes there are below n. -/
noncomputable def cnt (R : Int → Int → Prop) : Nat → Nat
  | 0 => 0
  | n + 1 => cnt R n + (if Lst R n then 1 else 0)
theorem cnt_congr {R S : Int → Int → Prop} : ∀ (n : Nat), (∀ s t : Nat, s < n → t < n → (R t s ↔ S t s)) → cnt R n = cnt S n
  | 0, _ => rfl
  | n + 1, h => by
    have h1 : Lst R n ↔ Lst S n := forall_congr' fun t => forall_congr' fun ht => not_congr (h n t (Nat.lt_succ_self n) (by omega))
    simp only [cnt, cnt_congr n (fun s t hs ht => h s t (by omega) (by omega))]
    by_cases h2 : Lst R n
    · rw [if_pos h2, if_pos (h1.1 h2)]
    · rw [if_neg h2, if_neg fun h3 => h2 (h1.2 h3)]
theorem cnt_eq : ∀ n, cnt (fun a b => a = b) n = n
  | 0 => rfl
  | n + 1 => by
    have : Lst (fun a b => a = b) n := fun t ht e => by have : (t : Int) = n := e; omega
    simp only [cnt, cnt_eq n, this, if_true]
theorem lst_ex {R : Int → Int → Prop} (hr : ∀ x, R x x) (ht : ∀ x y z, R x y → R y z → R x z) : ∀ s : Nat, ∃ t : Nat, t ≤ s ∧ R t s ∧ Lst R t := by
  intro s
  induction s using Nat.strongRecOn with
  | _ s ih =>
    by_cases h : Lst R s
    · exact ⟨s, Nat.le_refl _, hr _, h⟩
    · simp only [Lst, Classical.not_forall, Classical.not_not] at h
      obtain ⟨t, h1, h2⟩ := h
      obtain ⟨u, h3, h4, h5⟩ := ih t h1
      exact ⟨u, by omega, ht _ _ _ h4 h2, h5⟩
theorem cnt_join_aux {R : Int → Int → Prop} (hr : ∀ x, R x x) (hs : ∀ x y, R x y → R y x) (ht : ∀ x y z, R x y → R y z → R x z) {a b : Int} {la lb : Nat}
    (h1 : R la a) (h2 : Lst R la) (h3 : R lb b) (h4 : Lst R lb) (h : la < lb) (n : Nat) : cnt (Jo R a b) n + (if lb < n then 1 else 0) = cnt R n := by
  have key : ∀ s : Nat, Lst (Jo R a b) s ↔ Lst R s ∧ s ≠ lb := by
    intro s
    constructor
    · intro hl
      refine ⟨fun t hts hR => hl t hts (.inl hR), fun e => ?_⟩
      subst e
      exact hl la h (.inr (.inl ⟨h1, hs _ _ h3⟩))
    · rintro ⟨hl, hn⟩ t hts (hR | ⟨hR, hR'⟩ | ⟨hR, hR'⟩)
      · exact hl t hts hR
      · rcases Nat.lt_trichotomy s lb with h' | h' | h'
        · exact h4 s h' (ht _ _ _ (hs _ _ hR') (hs _ _ h3))
        · exact hn h'
        · exact hl lb h' (ht _ _ _ h3 hR')
      · have hsla : s = la := by
          rcases Nat.lt_trichotomy s la with h' | h' | h'
          · exact absurd (ht _ _ _ (hs _ _ hR') (hs _ _ h1)) (h2 s h')
          · exact h'
          · exact absurd (ht _ _ _ h1 hR') (hl la h')
        subst hsla
        exact h4 t (by omega) (ht _ _ _ hR (hs _ _ h3))
  induction n with
  | zero => simp [cnt]
  | succ n ih =>
    simp only [cnt]
    by_cases e : n = lb
    · subst e
      rw [if_neg (Nat.lt_irrefl n)] at ih
      rw [if_neg (fun k => ((key n).1 k).2 rfl), if_pos (Nat.lt_succ_self n), if_pos h4, ← ih]
    · by_cases hl : Lst R n
      · rw [if_pos ((key n).2 ⟨hl, e⟩), if_pos hl]
        by_cases hlt : lb < n
        · rw [if_pos hlt] at ih; rw [if_pos (show lb < n + 1 by omega)]; omega
        · rw [if_neg hlt] at ih; rw [if_neg (show ¬ lb < n + 1 by omega)]; omega
      · rw [if_neg (fun k => hl ((key n).1 k).1), if_neg hl]
        by_cases hlt : lb < n
        · rw [if_pos hlt] at ih; rw [if_pos (show lb < n + 1 by omega)]; omega
        · rw [if_neg hlt] at ih; rw [if_neg (show ¬ lb < n + 1 by omega)]; omega
theorem Jo.comm {R : Int → Int → Prop} {a b x y : Int} : Jo R a b x y ↔ Jo R b a x y := by unfold Jo; exact ⟨fun h => h.elim .inl fun h => h.elim (fun h => .inr (.inr h)) fun h => .inr (.inl h), fun h => h.elim .inl fun h => h.elim (fun h => .inr (.inr h)) fun h => .inr (.inl h)⟩
open Classical in
/-- A step more joins two classes, or none. -/
theorem cnt_join {R : Int → Int → Prop} (hr : ∀ x, R x x) (hs : ∀ x y, R x y → R y x) (ht : ∀ x y z, R x y → R y z → R x z) {a b n : Nat} (ha : a < n) (hb : b < n) :
    cnt (Jo R a b) n + (if R a b then 0 else 1) = cnt R n := by
  by_cases h : R a b
  · rw [if_pos h, Nat.add_zero]
    refine cnt_congr n fun s t _ _ => ⟨?_, .inl⟩
    rintro (h1 | ⟨h1, h2⟩ | ⟨h1, h2⟩)
    · exact h1
    · exact ht _ _ _ h1 (ht _ _ _ h h2)
    · exact ht _ _ _ h1 (ht _ _ _ (hs _ _ h) h2)
  · rw [if_neg h]
    obtain ⟨la, h1, h2, h3⟩ := lst_ex hr ht a
    obtain ⟨lb, h4, h5, h6⟩ := lst_ex hr ht b
    rcases Nat.lt_trichotomy la lb with h' | h' | h'
    · have := cnt_join_aux hr hs ht h2 h3 h5 h6 h' n
      rwa [if_pos (show lb < n by omega)] at this
    · subst h'; exact absurd (ht _ _ _ (hs _ _ h2) h5) h
    · have := cnt_join_aux hr hs ht h5 h6 h2 h3 h' n
      rw [if_pos (show la < n by omega)] at this
      rw [← this]
      congr 1
      exact cnt_congr n fun s t _ _ => Jo.comm
/-! Rows of rows: who is in one row is joined. -/
def Jn (E : List (List Int)) (a b : Int) : Prop := ∃ p ∈ E, a ∈ p ∧ b ∈ p
theorem Jn.symm {E : List (List Int)} (a b : Int) (h : Jn E a b) : Jn E b a := by obtain ⟨p, h1, h2, h3⟩ := h; exact ⟨p, h1, h3, h2⟩
abbrev Rc (E : List (List Int)) (a b : Int) : Prop := Eqv (Jn E) a b
theorem Rc.symm {E : List (List Int)} {a b : Int} (h : Rc E a b) : Rc E b a := Eqv.symm Jn.symm h
theorem Rc.congr {E F : List (List Int)} (h : ∀ a b, Jn E a b ↔ Jn F a b) {a b : Int} : Rc E a b ↔ Rc F a b := Eqv.iff_of (fun x y k => .one ((h x y).1 k)) (fun x y k => .one ((h x y).2 k))
/-- A place more in a row joins it with another one of that row. -/
theorem Rc.more {A B : List (List Int)} {xs ys : List Int} {c y : Int} (hc : c ∈ xs ++ ys) {a b : Int} :
    Rc (A ++ (xs ++ y :: ys) :: B) a b ↔ Jo (Rc (A ++ (xs ++ ys) :: B)) c y a b := by
  rw [← Eqv.join Jn.symm]
  have sub : ∀ {x}, x ∈ xs ++ ys → x ∈ xs ++ y :: ys := fun h => by
    rcases List.mem_append.1 h with h | h
    · exact List.mem_append_left _ h
    · exact List.mem_append_right _ (List.mem_cons_of_mem _ h)
  refine Eqv.iff_of ?_ ?_
  · rintro u v ⟨p, hp, hu, hv⟩
    rcases List.mem_append.1 hp with h | h
    · exact .one (.inl ⟨p, List.mem_append_left _ h, hu, hv⟩)
    rcases List.mem_cons.1 h with rfl | h
    · have cs : ∀ {x}, x ∈ xs ++ y :: ys → x = y ∨ x ∈ xs ++ ys := fun h => by
        rcases List.mem_append.1 h with h | h
        · exact .inr (List.mem_append_left _ h)
        rcases List.mem_cons.1 h with h | h
        · exact .inl h
        · exact .inr (List.mem_append_right _ h)
      have j : ∀ {x z}, x ∈ xs ++ ys → z ∈ xs ++ ys → Jn (A ++ (xs ++ ys) :: B) x z := fun h1 h2 => ⟨_, List.mem_append_right _ (List.mem_cons_self ..), h1, h2⟩
      rcases cs hu with rfl | hu' <;> rcases cs hv with rfl | hv'
      · exact .refl
      · exact .step (.one (.inr (.inr ⟨rfl, rfl⟩))) (.inl (j hc hv'))
      · exact .step (.one (.inl (j hu' hc))) (.inr (.inl ⟨rfl, rfl⟩))
      · exact .one (.inl (j hu' hv'))
    · exact .one (.inl ⟨p, List.mem_append_right _ (List.mem_cons_of_mem _ h), hu, hv⟩)
  · have hin : (xs ++ y :: ys) ∈ A ++ (xs ++ y :: ys) :: B := List.mem_append_right _ (List.mem_cons_self ..)
    have hy : y ∈ xs ++ y :: ys := List.mem_append_right _ (List.mem_cons_self ..)
    rintro u v (⟨p, hp, hu, hv⟩ | ⟨rfl, rfl⟩ | ⟨rfl, rfl⟩)
    · rcases List.mem_append.1 hp with h | h
      · exact .one ⟨p, List.mem_append_left _ h, hu, hv⟩
      rcases List.mem_cons.1 h with rfl | h
      · exact .one ⟨_, hin, sub hu, sub hv⟩
      · exact .one ⟨p, List.mem_append_right _ (List.mem_cons_of_mem _ h), hu, hv⟩
    · exact .one ⟨_, hin, sub hc, hy⟩
    · exact .one ⟨_, hin, hy, sub hc⟩
/-- A row of one place joins nothing. -/
theorem Rc.lone {A B : List (List Int)} {p : List Int} {y : Int} (hp : ∀ x ∈ p, x = y) {a b : Int} : Rc (A ++ p :: B) a b ↔ Rc (A ++ [] :: B) a b := by
  refine Eqv.iff_of ?_ ?_
  · rintro u v ⟨q, hq, hu, hv⟩
    rcases List.mem_append.1 hq with h | h
    · exact .one ⟨q, List.mem_append_left _ h, hu, hv⟩
    rcases List.mem_cons.1 h with rfl | h
    · rw [hp _ hu, hp _ hv]; exact .refl
    · exact .one ⟨q, List.mem_append_right _ (List.mem_cons_of_mem _ h), hu, hv⟩
  · rintro u v ⟨q, hq, hu, hv⟩
    rcases List.mem_append.1 hq with h | h
    · exact .one ⟨q, List.mem_append_left _ h, hu, hv⟩
    rcases List.mem_cons.1 h with rfl | h
    · cases hu
    · exact .one ⟨q, List.mem_append_right _ (List.mem_cons_of_mem _ h), hu, hv⟩
theorem Rc.nils {A B : List (List Int)} {a b : Int} : Rc (A ++ [] :: B) a b ↔ Rc (A ++ B) a b := by
  refine Rc.congr fun x y => ⟨?_, ?_⟩
  · rintro ⟨q, hq, hu, hv⟩
    rcases List.mem_append.1 hq with h | h
    · exact ⟨q, List.mem_append_left _ h, hu, hv⟩
    rcases List.mem_cons.1 h with rfl | h
    · cases hu
    · exact ⟨q, List.mem_append_right _ h, hu, hv⟩
  · rintro ⟨q, hq, hu, hv⟩
    rcases List.mem_append.1 hq with h | h
    · exact ⟨q, List.mem_append_left _ h, hu, hv⟩
    · exact ⟨q, List.mem_append_right _ (List.mem_cons_of_mem _ h), hu, hv⟩
def Bnd (n : Nat) (E : List (List Int)) : Prop := ∀ p ∈ E, ∀ x ∈ p, 0 ≤ x ∧ x < n
theorem Rc.cnt_lone {A B : List (List Int)} {p q : List Int} {y : Int} (hp : ∀ x ∈ p, x = y) (hq : ∀ x ∈ q, x = y) (n : Nat) : cnt (Rc (A ++ p :: B)) n = cnt (Rc (A ++ q :: B)) n :=
  cnt_congr n fun _ _ _ _ => (Rc.lone hp).trans (Rc.lone hq).symm
/-- One place less in a row of two or more: as many classes, or one more. -/
theorem Rc.cnt_more {n : Nat} {A B : List (List Int)} {xs ys : List Int} {y : Int} (hne : xs ++ ys ≠ []) (hb : Bnd n (A ++ (xs ++ y :: ys) :: B)) :
    cnt (Rc (A ++ (xs ++ y :: ys) :: B)) n = cnt (Rc (A ++ (xs ++ ys) :: B)) n ∨ cnt (Rc (A ++ (xs ++ y :: ys) :: B)) n + 1 = cnt (Rc (A ++ (xs ++ ys) :: B)) n := by
  obtain ⟨c, hc⟩ := List.exists_mem_of_ne_nil _ hne
  have hin : (xs ++ y :: ys) ∈ A ++ (xs ++ y :: ys) :: B := List.mem_append_right _ (List.mem_cons_self ..)
  have h1 := hb _ hin y (List.mem_append_right _ (List.mem_cons_self ..))
  have h2 := hb _ hin c (by
    rcases List.mem_append.1 hc with h | h
    · exact List.mem_append_left _ h
    · exact List.mem_append_right _ (List.mem_cons_of_mem _ h))
  rw [cnt_congr n (fun s t _ _ => Rc.more hc)]
  have := cnt_join (R := Rc (A ++ (xs ++ ys) :: B)) (fun x => .refl) (fun x y h => h.symm) (fun x y z h k => h.trans k) (a := c.toNat) (b := y.toNat) (n := n) (by omega) (by omega)
  rw [Int.toNat_of_nonneg h1.1, Int.toNat_of_nonneg h2.1] at this
  split at this
  · exact .inl this
  · exact .inr this
/-- There are at least as many classes as there are places, less those that may join. -/
theorem Rc.cnt_ge {n : Nat} : ∀ (E : List (List Int)), Bnd n E → n ≤ cnt (Rc E) n + (E.map fun p => p.length - 1).sum := by
  intro E
  induction E with
  | nil =>
    intro _
    have h0 : ∀ s t : Nat, (Rc [] t s ↔ (t : Int) = s) := fun s t => by
      constructor
      · intro h
        refine Eqv.closed (p := fun z => (t : Int) = z) ?_ h rfl
        rintro x y _ ⟨p, hp, _⟩
        cases hp
      · intro h; rw [h]; exact .refl
    rw [cnt_congr (S := fun a b => a = b) n (fun s t _ _ => h0 s t), cnt_eq]
    exact Nat.le_add_right _ _
  | cons p E ih =>
    intro hb
    have hE : Bnd n E := fun q hq => hb q (List.mem_cons_of_mem _ hq)
    have ih := ih hE
    have one : ∀ y : Int, cnt (Rc ([y] :: E)) n = cnt (Rc E) n := fun y =>
      (Rc.cnt_lone (A := []) (p := [y]) (q := []) (y := y) (fun x hx => by simpa using hx) (fun x hx => by cases hx) n).trans (cnt_congr n fun _ _ _ _ => Rc.nils (A := []))
    induction p with
    | nil =>
      rw [show cnt (Rc ([] :: E)) n = cnt (Rc E) n from cnt_congr n (fun _ _ _ _ => Rc.nils (A := []))]
      simpa using ih
    | cons y p ihp =>
      cases p with
      | nil => rw [one y]; simpa using ih
      | cons z p =>
        have h1 := ihp (fun q hq => by
          rcases List.mem_cons.1 hq with rfl | hq
          · exact fun x hx => hb _ (List.mem_cons_self ..) x (List.mem_cons_of_mem _ hx)
          · exact hE q hq)
        have h2 := Rc.cnt_more (n := n) (A := []) (B := E) (xs := []) (ys := z :: p) (y := y) (by simp) (by simpa using hb)
        simp only [List.nil_append] at h2
        simp only [List.map_cons, List.sum_cons, List.length_cons] at h1 ⊢
        rcases h2 with h2 | h2 <;> omega
/-! The closure, round by round. -/
def On (l : List Bool) (s : Nat) : Prop := l[s]? = some true
theorem count_le : ∀ {l m : List Bool}, l.length = m.length → (∀ s, On l s → On m s) → l.count true ≤ m.count true ∧ (l.count true = m.count true → l = m)
  | [], [], _, _ => ⟨Nat.le_refl _, fun _ => rfl⟩
  | [], _ :: _, h, _ => by simp at h
  | _ :: _, [], h, _ => by simp at h
  | a :: l, b :: m, h, hs => by
    obtain ⟨h1, h2⟩ := count_le (l := l) (m := m) (by simpa using h) fun s hl => by have := hs (s + 1) (by simpa [On] using hl); simpa [On] using this
    cases a with
    | true =>
      have hb : b = true := by have := hs 0 rfl; simpa [On] using this
      subst hb
      simp only [List.count_cons_self]
      exact ⟨by omega, fun e => by rw [h2 (by omega)]⟩
    | false =>
      cases b with
      | true =>
        rw [List.count_cons_of_ne (by simp), List.count_cons_self]
        exact ⟨by omega, fun e => by omega⟩
      | false =>
        rw [List.count_cons_of_ne (by simp), List.count_cons_of_ne (by simp)]
        exact ⟨h1, fun e => by rw [h2 e]⟩
/-- A round of a closure. -/
def Nx (E : List (List Int)) (l m : List Bool) : Prop := m.length = l.length ∧ ∀ s : Nat, s < l.length → (On m s ↔ On l s ∨ ∃ t : Nat, On l t ∧ Jn E t s)
theorem bfs {N : Nat} {E : List (List Int)} (hb : Bnd N E) {a : Nat} (ha : a < N) {f : Nat → List Bool} (h0 : (f 0).length = N) (h1 : ∀ s : Nat, s < N → (On (f 0) s ↔ s = a)) (hn : ∀ k, k < N → Nx E (f k) (f (k + 1))) :
    (f N).length = N ∧ ∀ s : Nat, On (f N) s ↔ s < N ∧ Rc E a s := by
  have lt : ∀ {l : List Bool} {s : Nat}, On l s → s < l.length := fun h => (List.getElem?_eq_some_iff.1 h).1
  have len : ∀ k, k ≤ N → (f k).length = N := by
    intro k
    induction k with
    | zero => exact fun _ => h0
    | succ k ih => intro h; rw [(hn k h).1, ih (by omega)]
  have sound : ∀ k, k ≤ N → ∀ s : Nat, On (f k) s → Rc E a s := by
    intro k
    induction k with
    | zero => intro _ s h; rw [(h1 s (h0 ▸ lt h)).1 h]; exact .refl
    | succ k ih =>
      intro hk s h
      have hs : s < N := len (k + 1) hk ▸ lt h
      rcases ((hn k hk).2 s (by rw [len k (by omega)]; exact hs)).1 h with h | ⟨t, h, hj⟩
      · exact ih (by omega) s h
      · exact (ih (by omega) t h).step hj
  have sub : ∀ k, k < N → ∀ s, On (f k) s → On (f (k + 1)) s := fun k hk s h => ((hn k hk).2 s (lt h)).2 (.inl h)
  have grow : ∀ k, k ≤ N → (∀ m, k ≤ m → m ≤ N → f m = f k) ∨ k + 1 ≤ (f k).count true := by
    intro k
    induction k with
    | zero =>
      intro _
      have : true ∈ f 0 := List.mem_of_getElem? ((h1 a ha).2 rfl)
      exact .inr (List.count_pos_iff.2 this)
    | succ k ih =>
      intro hk
      obtain ⟨c1, c2⟩ := count_le ((len k (by omega)).trans (len (k + 1) hk).symm) (sub k hk)
      rcases ih (by omega) with h | h
      · exact .inl fun m h2 h3 => by rw [h m (by omega) h3, h (k + 1) (by omega) hk]
      · by_cases e : (f k).count true = (f (k + 1)).count true
        · have e := c2 e
          refine .inl fun m h2 h3 => ?_
          have key : ∀ d, k + 1 + d ≤ N → f (k + 1 + d) = f (k + 1) := by
            intro d
            induction d with
            | zero => intro _; rfl
            | succ d ihd =>
              intro hd
              have ihd := ihd (by omega)
              have a1 := hn (k + 1 + d) (by omega)
              have a2 := hn k (by omega)
              rw [ihd, ← e] at a1
              refine List.ext_getElem? fun s => ?_
              have on : ∀ {l m : List Bool}, l.length = m.length → (∀ s, s < l.length → (On l s ↔ On m s)) → ∀ s, l[s]? = m[s]? := fun {l m} hl h s => by
                by_cases hs : s < l.length
                · have h := h s hs
                  simp only [On, List.getElem?_eq_getElem hs, List.getElem?_eq_getElem (hl ▸ hs : s < m.length), Option.some.injEq] at h
                  rw [List.getElem?_eq_getElem hs, List.getElem?_eq_getElem (hl ▸ hs : s < m.length), Bool.eq_iff_iff.2 h]
                · rw [List.getElem?_eq_none (by omega), List.getElem?_eq_none (by omega)]
              refine on (by rw [show k + 1 + (d + 1) = k + 1 + d + 1 by omega, a1.1, a2.1]) (fun s hs => ?_) s
              rw [show k + 1 + (d + 1) = k + 1 + d + 1 by omega, a1.1] at hs
              exact (a1.2 s hs).trans (a2.2 s hs).symm
          have := key (m - (k + 1)) (by omega)
          rwa [show k + 1 + (m - (k + 1)) = m by omega] at this
        · exact .inr (by omega)
  refine ⟨len N (Nat.le_refl _), fun s => ⟨fun h => ⟨len N (Nat.le_refl _) ▸ lt h, sound N (Nat.le_refl _) s h⟩, fun ⟨hs, hr⟩ => ?_⟩⟩
  have fix : ∃ k, k < N ∧ f (k + 1) = f N ∧ f k = f N := by
    rcases grow (N - 1) (by omega) with h | h
    · exact ⟨N - 1, by omega, by rw [show N - 1 + 1 = N by omega], (h N (by omega) (Nat.le_refl _)).symm⟩
    · refine ⟨N - 1, by omega, by rw [show N - 1 + 1 = N by omega], ?_⟩
      obtain ⟨c1, c2⟩ := count_le ((len (N - 1) (by omega)).trans (len (N - 1 + 1) (by omega)).symm) (sub (N - 1) (by omega))
      have : (f (N - 1 + 1)).count true ≤ N := by
        have := List.count_le_length (a := true) (l := f (N - 1 + 1))
        rwa [len (N - 1 + 1) (by omega)] at this
      rw [show N - 1 + 1 = N by omega] at *
      exact c2 (by omega)
  obtain ⟨k, hk, e1, e2⟩ := fix
  have h2 := hn k hk
  rw [e1, e2] at h2
  have on0 : On (f N) a := by
    have : ∀ k, k ≤ N → On (f k) a := by
      intro k
      induction k with
      | zero => exact fun _ => (h1 a ha).2 rfl
      | succ k ih => intro h; exact sub k h a (ih (by omega))
    exact this N (Nat.le_refl _)
  have := Eqv.closed (p := fun z => ∃ t : Nat, (t : Int) = z ∧ t < N ∧ On (f N) t) (fun x y ⟨t, e, ht, ho⟩ hj => by
    obtain ⟨p, hp, hx, hy⟩ := hj
    have hb := hb p hp y hy
    refine ⟨y.toNat, by omega, by omega, ?_⟩
    refine (h2.2 y.toNat (by rw [len N (Nat.le_refl _)]; omega)).2 (.inr ⟨t, ho, p, hp, by rw [e]; exact hx, ?_⟩)
    rw [Int.toNat_of_nonneg hb.1]; exact hy) hr ⟨a, rfl, ha, on0⟩
  obtain ⟨t, e, _, ho⟩ := this
  have : t = s := by omega
  exact this ▸ ho
/-- Two ascending rows of the same elements are one. -/
theorem asc_ext : ∀ {x y : List Int}, x.Pairwise (· < ·) → y.Pairwise (· < ·) → (∀ s, s ∈ x ↔ s ∈ y) → x = y
  | [], [], _, _, _ => rfl
  | [], b :: y, _, _, h => by have := (h b).2 (by simp); simp at this
  | a :: x, [], _, _, h => by have := (h a).1 (by simp); simp at this
  | a :: x, b :: y, hx, hy, h => by
    rw [List.pairwise_cons] at hx hy
    have hab : a = b := by
      have h1 := (h a).1 (by simp)
      have h2 := (h b).2 (by simp)
      rw [List.mem_cons] at h1 h2
      rcases h1 with h1 | h1
      · exact h1
      rcases h2 with h2 | h2
      · exact h2.symm
      have := hy.1 a h1; have := hx.1 b h2; omega
    subst hab
    congr 1
    refine asc_ext hx.2 hy.2 fun s => ?_
    have hs := h s
    simp only [List.mem_cons] at hs
    constructor
    · intro m
      rcases hs.1 (.inr m) with e | e
      · subst e; exact absurd (hx.1 s m) (Int.lt_irrefl s)
      · exact e
    · intro m
      rcases hs.2 (.inr m) with e | e
      · subst e; exact absurd (hy.1 s m) (Int.lt_irrefl s)
      · exact e
theorem sort_asc {l : List Int} (h : l.Nodup) : (l.mergeSort fun x y => decide (x ≤ y)).Pairwise (· < ·) := by
  have h1 : (l.mergeSort fun x y => decide (x ≤ y)).Pairwise fun x y => decide (x ≤ y) = true :=
    List.pairwise_mergeSort (fun a b c h1 h2 => by rw [decide_eq_true_eq] at *; omega) (fun a b => by rw [Bool.or_eq_true, decide_eq_true_eq, decide_eq_true_eq]; omega) l
  have h2 : (l.mergeSort fun x y => decide (x ≤ y)).Nodup := (List.mergeSort_perm l _).nodup_iff.2 h
  refine (h1.and h2).imp fun {a b} h => ?_
  have := of_decide_eq_true h.1
  have := h.2
  omega
theorem sort_mem {l : List Int} {s : Int} : s ∈ (l.mergeSort fun x y => decide (x ≤ y)) ↔ s ∈ l := (List.mergeSort_perm l _).mem_iff
theorem nodup_len {α : Type} [DecidableEq α] : ∀ {l m : List α}, l.Nodup → (∀ x ∈ l, x ∈ m) → l.length ≤ m.length
  | [], _, _, _ => Nat.zero_le _
  | a :: l, m, h, hs => by
    rw [List.nodup_cons] at h
    have ha := hs a (List.mem_cons_self ..)
    have := nodup_len (m := m.erase a) h.2 fun x hx => (List.mem_erase_of_ne (fun e => h.1 (by rw [← e]; exact hx))).2 (hs x (List.mem_cons_of_mem _ hx))
    rw [List.length_erase_of_mem ha] at this
    have : 0 < m.length := List.length_pos_of_mem ha
    simp only [List.length_cons]; omega
/-- The numbers below n, as the program counts them. -/
def upI (n : Int) : List Int := (List.range n.toNat).map fun k : Nat => (k : Int)
theorem mem_upI {n s : Int} : s ∈ upI n ↔ 0 ≤ s ∧ s < n := by
  unfold upI
  rw [List.mem_map]
  constructor
  · rintro ⟨k, h1, rfl⟩
    rw [List.mem_range] at h1; omega
  · intro h
    exact ⟨s.toNat, by rw [List.mem_range]; omega, by omega⟩
theorem upI_asc (n : Int) : (upI n).Pairwise (· < ·) := by
  unfold upI
  rw [List.pairwise_map]
  refine List.pairwise_lt_range.imp fun h => ?_
  omega
open Classical in
/-- The part of a segment, rising. -/
noncomputable def partI (E : List (List Int)) (N : Int) (s : Int) : List Int := (upI N).filter fun t => decide (Rc E s t)
theorem partI_mem {E : List (List Int)} {N s t : Int} : t ∈ partI E N s ↔ (0 ≤ t ∧ t < N) ∧ Rc E s t := by
  classical
  unfold partI
  rw [List.mem_filter, mem_upI]
  simp
theorem partI_asc (E : List (List Int)) (N s : Int) : (partI E N s).Pairwise (· < ·) := by
  classical
  exact (upI_asc N).filter _
theorem partI_eq {E : List (List Int)} {N s : Int} {l : List Int} (ha : l.Pairwise (· < ·)) (hm : ∀ t, t ∈ l ↔ (0 ≤ t ∧ t < N) ∧ Rc E s t) : l = partI E N s :=
  asc_ext ha (partI_asc E N s) fun t => (hm t).trans partI_mem.symm
theorem partI_head {E : List (List Int)} {N : Int} {s : Nat} (hs : (s : Int) < N) : ∃ z : Int, (partI E N s)[0]? = some z ∧ (z = s ↔ Lst (Rc E) s) := by
  have hm : (s : Int) ∈ partI E N s := partI_mem.2 ⟨⟨by omega, hs⟩, .refl⟩
  have ha := partI_asc E N s
  have hmm : ∀ t, t ∈ partI E N s ↔ (0 ≤ t ∧ t < N) ∧ Rc E s t := fun t => partI_mem
  generalize partI E N s = l at hm ha hmm
  cases l with
  | nil => cases hm
  | cons z r =>
    refine ⟨z, rfl, ?_⟩
    rw [List.pairwise_cons] at ha
    have hz := (hmm z).1 (List.mem_cons_self ..)
    constructor
    · rintro rfl t ht hR
      have : (t : Int) ∈ (s : Int) :: r := (hmm t).2 ⟨⟨by omega, by omega⟩, hR.symm⟩
      rcases List.mem_cons.1 this with e | e
      · omega
      · have := ha.1 t e; omega
    · intro hl
      rcases List.mem_cons.1 hm with e | e
      · exact e.symm
      · have h1 := ha.1 _ e
        exact absurd (show Rc E (z.toNat : Nat) s by rw [Int.toNat_of_nonneg hz.1.1]; exact hz.2.symm) (hl z.toNat (by omega))
/-! How far it is. -/
inductive Wk (G : Int → Int → Prop) (a : Int) : Nat → Int → Prop where
  | zero : Wk G a 0 a
  | succ {n : Nat} {b c : Int} : Wk G a n b → G b c → Wk G a (n + 1) c
def Dist (G : Int → Int → Prop) (a : Int) (n : Nat) (s : Int) : Prop := Wk G a n s ∧ ∀ m, m < n → ¬ Wk G a m s
namespace Wk
variable {G H : Int → Int → Prop} {a b c : Int} {n m : Nat}
theorem trans (h1 : Wk G a n b) (h2 : Wk G b m c) : Wk G a (n + m) c := by
  induction h2 with
  | zero => exact h1
  | succ _ h ih => exact ih.succ h
theorem symm (hs : ∀ x y, G x y → G y x) (h : Wk G a n b) : Wk G b n a := by
  induction h with
  | zero => exact .zero
  | succ h0 h ih =>
    rename_i k u v
    have : Wk G v (1 + k) a := trans (.succ .zero (hs _ _ h)) ih
    rwa [Nat.add_comm] at this
theorem mono (hm : ∀ x y, G x y → H x y) (h : Wk G a n b) : Wk H a n b := by
  induction h with
  | zero => exact .zero
  | succ _ h ih => exact ih.succ (hm _ _ h)
theorem eqv : Eqv G a b ↔ ∃ n, Wk G a n b := by
  constructor
  · intro h
    induction h with
    | refl => exact ⟨0, .zero⟩
    | step _ h ih => obtain ⟨n, ih⟩ := ih; exact ⟨n + 1, ih.succ h⟩
  · rintro ⟨n, h⟩
    induction h with
    | zero => exact .refl
    | succ _ h ih => exact ih.step h
theorem dist (h : Wk G a n b) : ∃ k, k ≤ n ∧ Dist G a k b := by
  induction n using Nat.strongRecOn with
  | _ n ih =>
    by_cases hk : ∃ m, m < n ∧ Wk G a m b
    · obtain ⟨m, h1, h2⟩ := hk
      obtain ⟨k, h3, h4⟩ := ih m h1 h2
      exact ⟨k, by omega, h4⟩
    · exact ⟨n, Nat.le_refl _, h, fun m h1 h2 => hk ⟨m, h1, h2⟩⟩
end Wk
namespace Dist
variable {G H : Int → Int → Prop} {a b c : Int} {n m : Nat}
theorem uniq (h : Dist G a n b) (k : Dist G a m b) : n = m := by
  rcases Nat.lt_trichotomy n m with h' | h' | h'
  · exact absurd h.1 (k.2 n h')
  · exact h'
  · exact absurd k.1 (h.2 m h')
theorem pred (h : Dist G a (n + 1) c) : ∃ b, Dist G a n b ∧ G b c := by
  cases h.1 with
  | succ h1 h2 =>
    rename_i b
    exact ⟨b, ⟨h1, fun m hm hw => h.2 (m + 1) (by omega) (hw.succ h2)⟩, h2⟩
theorem zero : Dist G a 0 a := ⟨.zero, fun m hm => absurd hm (Nat.not_lt_zero _)⟩
theorem zero_iff : Dist G a 0 b ↔ b = a := ⟨fun h => by cases h.1; rfl, fun h => h ▸ zero⟩
theorem symm (hs : ∀ x y, G x y → G y x) (h : Dist G a n b) : Dist G b n a := ⟨h.1.symm hs, fun m hm hw => h.2 m hm (hw.symm hs)⟩
end Dist
/-- What is within bounds is less far than there are numbers. -/
theorem Dist.lt {G : Int → Int → Prop} {a b : Int} {n : Nat} {N : Nat} (ha : 0 ≤ a ∧ a < N) (hG : ∀ x y, G x y → 0 ≤ y ∧ y < N) (h : Dist G a n b) : n < N := by
  have key : ∀ n b, Dist G a n b → ∃ l : List Int, l.length = n + 1 ∧ l.Nodup ∧ (∀ x ∈ l, 0 ≤ x ∧ x < N) ∧ ∀ x ∈ l, ∃ k, k ≤ n ∧ Dist G a k x := by
    intro n
    induction n with
    | zero => intro b h; exact ⟨[a], rfl, by simp, fun x hx => by simp at hx; subst hx; exact ha, fun x hx => by simp at hx; subst hx; exact ⟨0, Nat.le_refl _, .zero⟩⟩
    | succ n ih =>
      intro b h
      obtain ⟨c, h1, h2⟩ := h.pred
      obtain ⟨l, l1, l2, l3, l4⟩ := ih c h1
      refine ⟨b :: l, by simp [l1], List.nodup_cons.2 ⟨fun hb => ?_, l2⟩, fun x hx => ?_, fun x hx => ?_⟩
      · obtain ⟨k, h3, h4⟩ := l4 b hb
        have := h4.uniq h; omega
      · rcases List.mem_cons.1 hx with rfl | hx
        · exact hG _ _ h2
        · exact l3 x hx
      · rcases List.mem_cons.1 hx with rfl | hx
        · exact ⟨n + 1, Nat.le_refl _, h⟩
        · obtain ⟨k, h3, h4⟩ := l4 x hx; exact ⟨k, by omega, h4⟩
  obtain ⟨l, h1, h2, h3, _⟩ := key n b h
  have := nodup_len (m := upI N) h2 fun x hx => mem_upI.2 (h3 x hx)
  have hu : (upI (N : Int)).length = N := by simp [upI]
  omega
/-- A table of how far all is; -1: nothing leads there. -/
def DT (G : Int → Int → Prop) (a : Int) (N : Nat) (d : List Int) : Prop :=
  d.length = N ∧ ∀ s : Nat, s < N → (d[s]? = some (-1) ∧ ∀ n, ¬ Wk G a n s) ∨ ∃ n : Nat, d[s]? = some (n : Int) ∧ Dist G a n s
theorem DT.uniq {G : Int → Int → Prop} {a : Int} {N : Nat} {d e : List Int} (h : DT G a N d) (k : DT G a N e) : d = e := by
  refine List.ext_getElem? fun s => ?_
  by_cases hs : s < N
  · rcases h.2 s hs with ⟨h1, h2⟩ | ⟨n, h1, h2⟩ <;> rcases k.2 s hs with ⟨k1, k2⟩ | ⟨m, k1, k2⟩
    · rw [h1, k1]
    · exact absurd k2.1 (h2 m)
    · exact absurd h2.1 (k2 n)
    · rw [h1, k1, h2.uniq k2]
  · rw [List.getElem?_eq_none (by rw [h.1]; omega), List.getElem?_eq_none (by rw [k.1]; omega)]
theorem DT.congr {G H : Int → Int → Prop} {a : Int} {N : Nat} {d : List Int} (hw : ∀ n s, Wk G a n s ↔ Wk H a n s) : DT G a N d ↔ DT H a N d := by
  have hd : ∀ n s, Dist G a n s ↔ Dist H a n s := fun n s => and_congr (hw n s) (forall_congr' fun m => forall_congr' fun _ => not_congr (hw m s))
  unfold DT
  simp only [hw, hd]
/-! Round by round. -/
def Lv (G : Int → Int → Prop) (a : Int) (N n : Nat) (d : List Int) : Prop :=
  d.length = N ∧ ∀ s : Nat, s < N → (d[s]? = some (-1) ∧ ∀ k, k ≤ n → ¬ Wk G a k s) ∨ ∃ k : Nat, k ≤ n ∧ d[s]? = some (k : Int) ∧ Dist G a k s
/-- A round. -/
def Rd (G : Int → Int → Prop) (n : Nat) (d e : List Int) : Prop :=
  e.length = d.length ∧ ∀ (t : Nat) (v : Int), d[t]? = some v →
    ((v < 0 ∧ ∃ s : Nat, d[s]? = some ((n : Int) - 1) ∧ G s t) → e[t]? = some (n : Int)) ∧ (¬ (v < 0 ∧ ∃ s : Nat, d[s]? = some ((n : Int) - 1) ∧ G s t) → e[t]? = some v)
theorem Lv.round {G : Int → Int → Prop} {a : Int} {N n : Nat} {d e : List Int} (ha : 0 ≤ a ∧ a < N) (hG : ∀ x y, G x y → 0 ≤ y ∧ y < N) (h : Lv G a N n d) (hr : Rd G (n + 1) d e) : Lv G a N (n + 1) e := by
  refine ⟨hr.1.trans h.1, fun t ht => ?_⟩
  have hb : ∀ k s, Wk G a k s → 0 ≤ s ∧ s < N := fun k s hw => by
    cases hw with
    | zero => exact ha
    | succ _ h => exact hG _ _ h
  rcases h.2 t ht with ⟨h1, h2⟩ | ⟨k, h0, h1, h2⟩
  · obtain ⟨r1, r2⟩ := hr.2 t _ h1
    by_cases hs : ∃ s : Nat, d[s]? = some (((n + 1 : Nat) : Int) - 1) ∧ G s t
    · have := r1 ⟨by omega, hs⟩
      obtain ⟨s, h3, h4⟩ := hs
      have hsN : s < N := by have := (List.getElem?_eq_some_iff.1 h3).1; rw [h.1] at this; exact this
      rcases h.2 s hsN with ⟨h5, _⟩ | ⟨k, h6, h5, h7⟩
      · rw [h3] at h5; have := Option.some.inj h5; omega
      · rw [h3] at h5
        have hk := Option.some.inj h5
        have : k = n := by omega
        subst this
        exact .inr ⟨k + 1, Nat.le_refl _, by assumption, h7.1.succ h4, fun m hm => h2 m (by omega)⟩
    · have := r2 fun h => hs h.2
      refine .inl ⟨this, fun k hk hw => ?_⟩
      obtain ⟨j, hj, hd⟩ := hw.dist
      by_cases hjn : j ≤ n
      · exact h2 j hjn hd.1
      · obtain rfl : j = n + 1 := by omega
        obtain ⟨b, hb1, hb2⟩ := hd.pred
        have hbb := hb _ _ hb1.1
        rcases h.2 b.toNat (by omega) with ⟨_, h5⟩ | ⟨k', _, h5, h7⟩
        · exact h5 n (Nat.le_refl _) (by rw [Int.toNat_of_nonneg hbb.1]; exact hb1.1)
        · rw [Int.toNat_of_nonneg hbb.1] at h7
          have := h7.uniq hb1
          subst this
          exact hs ⟨b.toNat, by rw [h5]; congr 1; omega, by rw [Int.toNat_of_nonneg hbb.1]; exact hb2⟩
  · obtain ⟨_, r2⟩ := hr.2 t _ h1
    exact .inr ⟨k, by omega, r2 (fun h => by omega), h2⟩
theorem Lv.start {G : Int → Int → Prop} {a : Nat} {N : Nat} {d : List Int} (hl : d.length = N) (h0 : d[a]? = some 0) (hs : ∀ s, s < N → s ≠ a → d[s]? = some (-1)) : Lv G a N 0 d :=
  ⟨hl, fun s h => by
    by_cases e : s = a
    · subst e; exact .inr ⟨0, Nat.le_refl _, h0, .zero⟩
    · refine .inl ⟨hs s h e, fun k hk hw => ?_⟩
      obtain rfl : k = 0 := by omega
      have := Dist.zero_iff.1 (show Dist G a 0 s from ⟨hw, fun m hm => absurd hm (Nat.not_lt_zero _)⟩)
      omega⟩
theorem Lv.fin {G : Int → Int → Prop} {a : Int} {N n : Nat} {d : List Int} (ha : 0 ≤ a ∧ a < N) (hG : ∀ x y, G x y → 0 ≤ y ∧ y < N) (hn : N ≤ n + 1) (h : Lv G a N n d) : DT G a N d :=
  ⟨h.1, fun s hs => by
    rcases h.2 s hs with ⟨h1, h2⟩ | ⟨k, _, h1, h2⟩
    · refine .inl ⟨h1, fun k hw => ?_⟩
      obtain ⟨j, _, hd⟩ := hw.dist
      exact h2 j (by have := hd.lt ha hG; omega) hd.1
    · exact .inr ⟨k, h1, h2⟩⟩
/-! One by one, in a queue. -/
def dv (d : List Int) (s : Int) : Int := (d[s.toNat]?).getD (-1)
structure QI (G : Int → Int → Prop) (a : Int) (N i : Nat) (P : Int → Prop) (d q : List Int) : Prop where
  len : d.length = N
  nod : q.Nodup
  bnd : ∀ x ∈ q, 0 ≤ x ∧ x < N
  mem : ∀ s : Int, 0 ≤ s → s < N → (s ∈ q ∧ ∃ k : Nat, dv d s = k ∧ Wk G a k s) ∨ (s ∉ q ∧ dv d s = -1)
  mono : q.Pairwise (fun x y => dv d x ≤ dv d y)
  near : ∀ u, q[i]? = some u → ∀ x ∈ q, dv d x ≤ dv d u + 1
  done : ∀ j u, j < i → q[j]? = some u → ∀ t, G u t → 0 ≤ dv d t ∧ dv d t ≤ dv d u + 1
  part : ∀ u, q[i]? = some u → ∀ t, P t → 0 ≤ dv d t ∧ dv d t ≤ dv d u + 1
  zero : a ∈ q ∧ dv d a = 0
  lvl : ∀ (j : Nat) (u : Int), q[j]? = some u → dv d u ≤ j
theorem dv_ne {d : List Int} {s t v : Int} (hs : 0 ≤ s) (ht : 0 ≤ t) (h : s ≠ t) : dv (d.set t.toNat v) s = dv d s := by
  unfold dv; rw [List.getElem?_set_ne (by omega)]
theorem dv_eq {d : List Int} {t v : Int} (ht : 0 ≤ t) (hl : t < d.length) : dv (d.set t.toNat v) t = v := by
  unfold dv; rw [List.getElem?_set_self (by omega)]; rfl
namespace QI
variable {G : Int → Int → Prop} {a : Int} {N i : Nat} {P : Int → Prop} {d q : List Int}
theorem start (ha : 0 ≤ a ∧ a < N) (hd : d.length = N) (h0 : dv d a = 0) (hs : ∀ s : Int, 0 ≤ s → s < N → s ≠ a → dv d s = -1) : QI G a N 0 (fun _ => False) d [a] where
  len := hd
  nod := by simp
  bnd x hx := by simp at hx; subst hx; exact ha
  mem s h1 h2 := by
    by_cases e : s = a
    · subst e; exact .inl ⟨by simp, 0, h0, .zero⟩
    · exact .inr ⟨by simp [e], hs s h1 h2 e⟩
  mono := by simp
  near u hu x hx := by simp at hx hu; subst hx; subst hu; omega
  done j u hj := absurd hj (Nat.not_lt_zero _)
  part _ _ _ h := h.elim
  zero := ⟨by simp, h0⟩
  lvl j u hj := by
    have hj0 : j = 0 := by have := (List.getElem?_eq_some_iff.1 hj).1; simpa using this
    subst hj0
    simp at hj; subst hj; rw [h0]; exact Int.le_refl _
/-- A neighbour that is there already. -/
theorem old (h : QI G a N i P d q) {u t : Int} (hu : q[i]? = some u) (ht : 0 ≤ t ∧ t < N) (hv : 0 ≤ dv d t) : QI G a N i (fun x => P x ∨ x = t) d q :=
  { h with
    part := fun u' hu' x hx => by
      rw [hu] at hu'; cases hu'
      rcases hx with hx | rfl
      · exact h.part u hu x hx
      · refine ⟨hv, h.near u hu x ?_⟩
        rcases h.mem x ht.1 ht.2 with h1 | h1
        · exact h1.1
        · omega }
/-- A neighbour that is new. -/
theorem new (hG : ∀ x y, G x y → 0 ≤ y ∧ y < N) (hP : ∀ x, P x → 0 ≤ x ∧ x < N) (h : QI G a N i P d q) {u t : Int} (hu : q[i]? = some u) (hg : G u t) (hv : dv d t < 0) :
    QI G a N i (fun x => P x ∨ x = t) (d.set t.toNat (dv d u + 1)) (q ++ [t]) := by
  have ht := hG u t hg
  have htq : t ∉ q := by
    rcases h.mem t ht.1 ht.2 with ⟨_, k, hk, _⟩ | h1
    · omega
    · exact h1.1
  have hd : dv (d.set t.toNat (dv d u + 1)) t = dv d u + 1 := dv_eq ht.1 (by rw [h.len]; exact ht.2)
  have hne : ∀ x, 0 ≤ x → x ≠ t → dv (d.set t.toNat (dv d u + 1)) x = dv d x := fun x hx hn => dv_ne hx ht.1 hn
  have hq : ∀ x ∈ q, dv (d.set t.toNat (dv d u + 1)) x = dv d x := fun x hx => hne x (h.bnd x hx).1 fun e => htq (e ▸ hx)
  have huq : u ∈ q := List.mem_of_getElem? hu
  have hi : i < q.length := (List.getElem?_eq_some_iff.1 hu).1
  have hu0 : ∃ k : Nat, dv d u = k ∧ Wk G a k u := by
    have hb := h.bnd u huq
    rcases h.mem u hb.1 hb.2 with h1 | h1
    · exact h1.2
    · exact absurd huq h1.1
  have get : ∀ {j v}, j < q.length → (q ++ [t])[j]? = some v → q[j]? = some v := fun hj hv => by rwa [List.getElem?_append_left hj] at hv
  refine { len := by rw [List.length_set, h.len], nod := ?_, bnd := ?_, mem := ?_, mono := ?_, near := ?_, done := ?_, part := ?_, zero := ?_, lvl := ?_ }
  · rw [List.nodup_append]
    exact ⟨h.nod, by simp, fun x hx y hy => by simp at hy; subst hy; exact fun e => htq (e ▸ hx)⟩
  · intro x hx
    rcases List.mem_append.1 hx with hx | hx
    · exact h.bnd x hx
    · simp at hx; subst hx; exact ht
  · intro s h1 h2
    by_cases e : s = t
    · subst e
      obtain ⟨k, hk, hw⟩ := hu0
      exact .inl ⟨by simp, k + 1, by rw [hd]; omega, hw.succ hg⟩
    · rw [hne s h1 e]
      rcases h.mem s h1 h2 with h3 | h3
      · exact .inl ⟨List.mem_append_left _ h3.1, h3.2⟩
      · exact .inr ⟨by simp [h3.1, e], h3.2⟩
  · rw [List.pairwise_append]
    refine ⟨List.Pairwise.imp_of_mem (fun {x y} hx hy hxy => by rw [hq x hx, hq y hy]; exact hxy) h.mono, by simp, fun x hx y hy => ?_⟩
    simp at hy; subst hy
    rw [hq x hx, hd]; exact h.near u hu x hx
  · intro u' hu' x hx
    have := get hi hu'
    rw [hu] at this; cases this
    rw [hq u huq]
    rcases List.mem_append.1 hx with hx | hx
    · rw [hq x hx]; exact h.near u hu x hx
    · simp at hx; subst hx; rw [hd]; exact Int.le_refl _
  · intro j v hj hv x hx
    have hv := get (by omega) hv
    have hvq := List.mem_of_getElem? hv
    have hb := hG v x hx
    rw [hq v hvq]
    have := h.done j v hj hv x hx
    rw [hne x hb.1 fun e => by subst e; omega]
    exact this
  · intro u' hu' x hx
    have := get hi hu'
    rw [hu] at this; cases this
    rw [hq u huq]
    obtain ⟨k, hk, _⟩ := hu0
    rcases hx with hx | rfl
    · by_cases e : x = t
      · subst e; rw [hd]; omega
      · rw [hne x (hP x hx).1 e]; exact h.part u hu x hx
    · rw [hd]; omega
  · exact ⟨List.mem_append_left _ h.zero.1, by rw [hq a h.zero.1]; exact h.zero.2⟩
  · intro j v hj
    have hjl := (List.getElem?_eq_some_iff.1 hj).1
    rw [List.length_append, List.length_singleton] at hjl
    by_cases e : j < q.length
    · have hj := get e hj
      rw [hq v (List.mem_of_getElem? hj)]; exact h.lvl j v hj
    · have e : j = q.length := by omega
      subst e
      rw [List.getElem?_append_right (Nat.le_refl _), Nat.sub_self] at hj
      simp at hj; subst hj
      rw [hd]
      have := h.lvl i u hu
      omega
theorem next (h : QI G a N i P d q) {u : Int} (hu : q[i]? = some u) (hP : ∀ t, G u t → P t) : QI G a N (i + 1) (fun _ => False) d q :=
  { h with
    near := fun v hv x hx => by
      have h1 := h.near u hu x hx
      obtain ⟨hi, rfl⟩ := List.getElem?_eq_some_iff.1 hu
      obtain ⟨hi', rfl⟩ := List.getElem?_eq_some_iff.1 hv
      have := List.pairwise_iff_getElem.1 h.mono i (i + 1) hi hi' (by omega)
      omega
    done := fun j v hj hv t ht => by
      by_cases e : j = i
      · subst e; rw [hu] at hv; cases hv; exact h.part u hu t (hP t ht)
      · exact h.done j v (by omega) hv t ht
    part := fun _ _ _ h => h.elim }
theorem size (h : QI G a N i P d q) : q.length ≤ N := by
  have := nodup_len (m := upI N) h.nod fun x hx => mem_upI.2 (h.bnd x hx)
  have hu : (upI (N : Int)).length = N := by simp [upI]
  omega
theorem fin (ha : 0 ≤ a ∧ a < N) (hG : ∀ x y, G x y → 0 ≤ y ∧ y < N) (h : QI G a N i P d q) (hi : q.length ≤ i) : DT G a N d := by
  have hb : ∀ k s, Wk G a k s → 0 ≤ s ∧ s < N := fun k s hw => by
    cases hw with
    | zero => exact ha
    | succ _ h => exact hG _ _ h
  have key : ∀ n s, Wk G a n s → 0 ≤ dv d s ∧ dv d s ≤ n := by
    intro n s hw
    induction hw with
    | zero => rw [h.zero.2]; omega
    | succ h1 h2 ih =>
      rename_i n b c
      have hbb := hb _ _ h1
      have hbq : b ∈ q := by
        rcases h.mem b hbb.1 hbb.2 with h3 | h3
        · exact h3.1
        · omega
      obtain ⟨j, hj⟩ := List.getElem?_of_mem hbq
      have := h.done j b (by have := (List.getElem?_eq_some_iff.1 hj).1; omega) hj c h2
      omega
  refine ⟨h.len, fun s hs => ?_⟩
  have hget : d[s]? = some (dv d s) := by
    unfold dv; rw [Int.toNat_natCast]
    rw [List.getElem?_eq_getElem (by rw [h.len]; exact hs)]; rfl
  rcases h.mem s (by omega) (by omega) with ⟨_, k, hk, hw⟩ | ⟨_, hk⟩
  · refine .inr ⟨k, by rw [hget, hk], hw, fun m hm hw' => ?_⟩
    have := key m s hw'; omega
  · refine .inl ⟨by rw [hget, hk], fun n hw => ?_⟩
    have := key n s hw; omega
end QI

end Go.RX
