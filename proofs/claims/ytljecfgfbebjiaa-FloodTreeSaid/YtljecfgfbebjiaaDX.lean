/- Parts of a plan, plainly: the closure of a relation, and how many classes it has. -/
import Derived.Test.YtljecfgfbebjiaaSeq
import Derived.Test.YtljecfgfbebjiaaKa
import Derived.Test.YtljecfgfbebjiaaProg
import Derived.Test.YtljecfgfbebjiaaKb
set_option linter.unusedVariables false
set_option linter.unusedSimpArgs false
open Go Go.RX
namespace Go.RX
section
inductive Eqv (G : Int → Int → Prop) (a : Int) : Int → Prop where
 | refl : Eqv G a a
 | step {b c : Int} : Eqv G a b → G b c → Eqv G a c
namespace Eqv
variable {G H : Int → Int → Prop} {a b c : Int}
theorem one (h : G a b) : Eqv G a b := .step .refl h
theorem trans (h1 : Eqv G a b) (h2 : Eqv G b c) : Eqv G a c := by
 induction h2 with
 | refl => exact h1
 | step _ h ih => exact .step ih h
theorem symm (hs : ∀ x y, G x y → G y x) (h : Eqv G a b) : Eqv G b a := by
 induction h with
 | refl => exact .refl
 | step _ h ih => exact (one (hs _ _ h)).trans ih
theorem mono (hm : ∀ x y, G x y → Eqv H x y) (h : Eqv G a b) : Eqv H a b := by
 induction h with
 | refl => exact .refl
 | step _ h ih => exact ih.trans (hm _ _ h)
theorem iff_of (h1 : ∀ x y, G x y → Eqv H x y) (h2 : ∀ x y, H x y → Eqv G x y) : Eqv G a b ↔ Eqv H a b := ⟨mono h1, mono h2⟩
theorem closed {p : Int → Prop} (hp : ∀ x y, p x → G x y → p y) (h : Eqv G a b) (ha : p a) : p b := by
 induction h with
 | refl => exact ha
 | step _ h ih => exact hp _ _ ih h
end Eqv
def Jo (R : Int → Int → Prop) (a b x y : Int) : Prop := R x y ∨ (R x a ∧ R b y) ∨ (R x b ∧ R a y)
theorem Eqv.join {G : Int → Int → Prop} (hs : ∀ x y, G x y → G y x) {a b x y : Int} :
  Eqv (fun u v => G u v ∨ (u = a ∧ v = b) ∨ (u = b ∧ v = a)) x y ↔ Jo (Eqv G) a b x y := by
 constructor
 ·intro h
  induction h with
  | refl => exact .inl .refl
  | step _ h ih =>
   rename_i u v _
   rcases h with h | ⟨rfl, rfl⟩ | ⟨rfl, rfl⟩
   ·rcases ih with i | ⟨i, j⟩ | ⟨i, j⟩
    ·exact .inl (.step i h)
    ·exact .inr (.inl ⟨i, .step j h⟩)
    ·exact .inr (.inr ⟨i, .step j h⟩)
   ·rcases ih with i | ⟨i, j⟩ | ⟨i, j⟩
    ·exact .inr (.inl ⟨i, .refl⟩)
    ·exact .inr (.inl ⟨i, .refl⟩)
    ·exact .inl i
   ·rcases ih with i | ⟨i, j⟩ | ⟨i, j⟩
    ·exact .inr (.inr ⟨i, .refl⟩)
    ·exact .inl i
    ·exact .inr (.inr ⟨i, .refl⟩)
 ·have m : ∀ {u v}, Eqv G u v → Eqv (fun u v => G u v ∨ (u = a ∧ v = b) ∨ (u = b ∧ v = a)) u v := fun h => Eqv.mono (fun x y h => .one (.inl h)) h
  rintro (h | ⟨h, k⟩ | ⟨h, k⟩)
  ·exact m h
  ·exact (Eqv.step (m h) (.inr (.inl ⟨rfl, rfl⟩))).trans (m k)
  ·exact (Eqv.step (m h) (.inr (.inr ⟨rfl, rfl⟩))).trans (m k)
def Lst (R : Int → Int → Prop) (s : Nat) : Prop := ∀ t : Nat, t < s → ¬ R t s
open Classical in
noncomputable def cnt (R : Int → Int → Prop) : Nat → Nat
 | 0 => 0
 | n + 1 => cnt R n + (if Lst R n then 1 else 0)
theorem cnt_congr {R S : Int → Int → Prop} : ∀ (n : Nat), (∀ s t : Nat, s < n → t < n → (R t s ↔ S t s)) → cnt R n = cnt S n
 | 0, _ => rfl
 | n + 1, h => by
  have h1 : Lst R n ↔ Lst S n := forall_congr' fun t => forall_congr' fun ht => not_congr (h n t (Nat.lt_succ_self n) (by omega))
  simp only [cnt, cnt_congr n (fun s t hs ht => h s t (by omega) (by omega))]
  by_cases h2 : Lst R n
  ·rw [if_pos h2, if_pos (h1.1 h2)]
  ·rw [if_neg h2, if_neg fun h3 => h2 (h1.2 h3)]
theorem cnt_eq : ∀ n, cnt (fun a b => a = b) n = n
 | 0 => rfl
 | n + 1 => by
  have : Lst (fun a b => a = b) n := fun t ht e => by have : (t : Int) = n := e; omega
  simp only [cnt, cnt_eq n, this, if_true]
theorem lst_ex {R : Int → Int → Prop} (hr : ∀ x, R x x) (ht : ∀ x y z, R x y → R y z → R x z) : ∀ s : Nat, ∃ t : Nat, t ≤ s ∧ R t s ∧ Lst R t := by
 intro s
 induction s using Nat.strongRecOn with
 | _ s ih =>
  by_cases h : Lst R s
  ·exact ⟨s, Nat.le_refl _, hr _, h⟩
  ·simp only [Lst, Classical.not_forall, Classical.not_not] at h
   obtain ⟨t, h1, h2⟩ := h
   obtain ⟨u, h3, h4, h5⟩ := ih t h1
   exact ⟨u, by omega, ht _ _ _ h4 h2, h5⟩
theorem cnt_join_aux {R : Int → Int → Prop} (hr : ∀ x, R x x) (hs : ∀ x y, R x y → R y x) (ht : ∀ x y z, R x y → R y z → R x z) {a b : Int} {la lb : Nat}
  (h1 : R la a) (h2 : Lst R la) (h3 : R lb b) (h4 : Lst R lb) (h : la < lb) (n : Nat) : cnt (Jo R a b) n + (if lb < n then 1 else 0) = cnt R n := by
 have key : ∀ s : Nat, Lst (Jo R a b) s ↔ Lst R s ∧ s ≠ lb := by
  intro s
  constructor
  ·intro hl
   refine ⟨fun t hts hR => hl t hts (.inl hR), fun e => ?_⟩
   subst e
   exact hl la h (.inr (.inl ⟨h1, hs _ _ h3⟩))
  ·rintro ⟨hl, hn⟩ t hts (hR | ⟨hR, hR'⟩ | ⟨hR, hR'⟩)
   ·exact hl t hts hR
   ·rcases Nat.lt_trichotomy s lb with h' | h' | h'
    ·exact h4 s h' (ht _ _ _ (hs _ _ hR') (hs _ _ h3))
    ·exact hn h'
    ·exact hl lb h' (ht _ _ _ h3 hR')
   ·have hsla : s = la := by
     rcases Nat.lt_trichotomy s la with h' | h' | h'
     ·exact absurd (ht _ _ _ (hs _ _ hR') (hs _ _ h1)) (h2 s h')
     ·exact h'
     ·exact absurd (ht _ _ _ h1 hR') (hl la h')
    subst hsla
    exact h4 t (by omega) (ht _ _ _ hR (hs _ _ h3))
 induction n with
 | zero => simp [cnt]
 | succ n ih =>
  simp only [cnt]
  by_cases e : n = lb
  ·subst e
   rw [if_neg (Nat.lt_irrefl n)] at ih
   rw [if_neg (fun k => ((key n).1 k).2 rfl), if_pos (Nat.lt_succ_self n), if_pos h4, ← ih]
  ·by_cases hl : Lst R n
   ·rw [if_pos ((key n).2 ⟨hl, e⟩), if_pos hl]
    by_cases hlt : lb < n
    ·rw [if_pos hlt] at ih; rw [if_pos (show lb < n + 1 by omega)]; omega
    ·rw [if_neg hlt] at ih; rw [if_neg (show ¬ lb < n + 1 by omega)]; omega
   ·rw [if_neg (fun k => hl ((key n).1 k).1), if_neg hl]
    by_cases hlt : lb < n
    ·rw [if_pos hlt] at ih; rw [if_pos (show lb < n + 1 by omega)]; omega
    ·rw [if_neg hlt] at ih; rw [if_neg (show ¬ lb < n + 1 by omega)]; omega
theorem Jo.comm {R : Int → Int → Prop} {a b x y : Int} : Jo R a b x y ↔ Jo R b a x y := by unfold Jo; exact ⟨fun h => h.elim .inl fun h => h.elim (fun h => .inr (.inr h)) fun h => .inr (.inl h), fun h => h.elim .inl fun h => h.elim (fun h => .inr (.inr h)) fun h => .inr (.inl h)⟩
open Classical in
theorem cnt_join {R : Int → Int → Prop} (hr : ∀ x, R x x) (hs : ∀ x y, R x y → R y x) (ht : ∀ x y z, R x y → R y z → R x z) {a b n : Nat} (ha : a < n) (hb : b < n) :
  cnt (Jo R a b) n + (if R a b then 0 else 1) = cnt R n := by
 by_cases h : R a b
 ·rw [if_pos h, Nat.add_zero]
  refine cnt_congr n fun s t _ _ => ⟨?_, .inl⟩
  rintro (h1 | ⟨h1, h2⟩ | ⟨h1, h2⟩)
  ·exact h1
  ·exact ht _ _ _ h1 (ht _ _ _ h h2)
  ·exact ht _ _ _ h1 (ht _ _ _ (hs _ _ h) h2)
 ·rw [if_neg h]
  obtain ⟨la, h1, h2, h3⟩ := lst_ex hr ht a
  obtain ⟨lb, h4, h5, h6⟩ := lst_ex hr ht b
  rcases Nat.lt_trichotomy la lb with h' | h' | h'
  ·have := cnt_join_aux hr hs ht h2 h3 h5 h6 h' n
   rwa [if_pos (show lb < n by omega)] at this
  ·subst h'; exact absurd (ht _ _ _ (hs _ _ h2) h5) h
  ·have := cnt_join_aux hr hs ht h5 h6 h2 h3 h' n
   rw [if_pos (show la < n by omega)] at this
   rw [← this]
   congr 1
   exact cnt_congr n fun s t _ _ => Jo.comm
def Jn (E : List (List Int)) (a b : Int) : Prop := ∃ p ∈ E, a ∈ p ∧ b ∈ p
theorem Jn.symm {E : List (List Int)} (a b : Int) (h : Jn E a b) : Jn E b a := by obtain ⟨p, h1, h2, h3⟩ := h; exact ⟨p, h1, h3, h2⟩
abbrev Rc (E : List (List Int)) (a b : Int) : Prop := Eqv (Jn E) a b
theorem Rc.symm {E : List (List Int)} {a b : Int} (h : Rc E a b) : Rc E b a := Eqv.symm Jn.symm h
theorem Rc.congr {E F : List (List Int)} (h : ∀ a b, Jn E a b ↔ Jn F a b) {a b : Int} : Rc E a b ↔ Rc F a b := Eqv.iff_of (fun x y k => .one ((h x y).1 k)) (fun x y k => .one ((h x y).2 k))
theorem Rc.more {A B : List (List Int)} {xs ys : List Int} {c y : Int} (hc : c ∈ xs ++ ys) {a b : Int} :
  Rc (A ++ (xs ++ y :: ys) :: B) a b ↔ Jo (Rc (A ++ (xs ++ ys) :: B)) c y a b := by
 rw [← Eqv.join Jn.symm]
 have sub : ∀ {x}, x ∈ xs ++ ys → x ∈ xs ++ y :: ys := fun h => by
  rcases List.mem_append.1 h with h | h
  ·exact List.mem_append_left _ h
  ·exact List.mem_append_right _ (List.mem_cons_of_mem _ h)
 refine Eqv.iff_of ?_ ?_
 ·rintro u v ⟨p, hp, hu, hv⟩
  rcases List.mem_append.1 hp with h | h
  ·exact .one (.inl ⟨p, List.mem_append_left _ h, hu, hv⟩)
  rcases List.mem_cons.1 h with rfl | h
  ·have cs : ∀ {x}, x ∈ xs ++ y :: ys → x = y ∨ x ∈ xs ++ ys := fun h => by
    rcases List.mem_append.1 h with h | h
    ·exact .inr (List.mem_append_left _ h)
    rcases List.mem_cons.1 h with h | h
    ·exact .inl h
    ·exact .inr (List.mem_append_right _ h)
   have j : ∀ {x z}, x ∈ xs ++ ys → z ∈ xs ++ ys → Jn (A ++ (xs ++ ys) :: B) x z := fun h1 h2 => ⟨_, List.mem_append_right _ (List.mem_cons_self ..), h1, h2⟩
   rcases cs hu with rfl | hu' <;> rcases cs hv with rfl | hv'
   ·exact .refl
   ·exact .step (.one (.inr (.inr ⟨rfl, rfl⟩))) (.inl (j hc hv'))
   ·exact .step (.one (.inl (j hu' hc))) (.inr (.inl ⟨rfl, rfl⟩))
   ·exact .one (.inl (j hu' hv'))
  ·exact .one (.inl ⟨p, List.mem_append_right _ (List.mem_cons_of_mem _ h), hu, hv⟩)
 ·have hin : (xs ++ y :: ys) ∈ A ++ (xs ++ y :: ys) :: B := List.mem_append_right _ (List.mem_cons_self ..)
  have hy : y ∈ xs ++ y :: ys := List.mem_append_right _ (List.mem_cons_self ..)
  rintro u v (⟨p, hp, hu, hv⟩ | ⟨rfl, rfl⟩ | ⟨rfl, rfl⟩)
  ·rcases List.mem_append.1 hp with h | h
   ·exact .one ⟨p, List.mem_append_left _ h, hu, hv⟩
   rcases List.mem_cons.1 h with rfl | h
   ·exact .one ⟨_, hin, sub hu, sub hv⟩
   ·exact .one ⟨p, List.mem_append_right _ (List.mem_cons_of_mem _ h), hu, hv⟩
  ·exact .one ⟨_, hin, sub hc, hy⟩
  ·exact .one ⟨_, hin, hy, sub hc⟩
theorem Rc.lone {A B : List (List Int)} {p : List Int} {y : Int} (hp : ∀ x ∈ p, x = y) {a b : Int} : Rc (A ++ p :: B) a b ↔ Rc (A ++ [] :: B) a b := by
 refine Eqv.iff_of ?_ ?_
 ·rintro u v ⟨q, hq, hu, hv⟩
  rcases List.mem_append.1 hq with h | h
  ·exact .one ⟨q, List.mem_append_left _ h, hu, hv⟩
  rcases List.mem_cons.1 h with rfl | h
  ·rw [hp _ hu, hp _ hv]; exact .refl
  ·exact .one ⟨q, List.mem_append_right _ (List.mem_cons_of_mem _ h), hu, hv⟩
 ·rintro u v ⟨q, hq, hu, hv⟩
  rcases List.mem_append.1 hq with h | h
  ·exact .one ⟨q, List.mem_append_left _ h, hu, hv⟩
  rcases List.mem_cons.1 h with rfl | h
  ·cases hu
  ·exact .one ⟨q, List.mem_append_right _ (List.mem_cons_of_mem _ h), hu, hv⟩
theorem Rc.nils {A B : List (List Int)} {a b : Int} : Rc (A ++ [] :: B) a b ↔ Rc (A ++ B) a b := by
 refine Rc.congr fun x y => ⟨?_, ?_⟩
 ·rintro ⟨q, hq, hu, hv⟩
  rcases List.mem_append.1 hq with h | h
  ·exact ⟨q, List.mem_append_left _ h, hu, hv⟩
  rcases List.mem_cons.1 h with rfl | h
  ·cases hu
  ·exact ⟨q, List.mem_append_right _ h, hu, hv⟩
 ·rintro ⟨q, hq, hu, hv⟩
  rcases List.mem_append.1 hq with h | h
  ·exact ⟨q, List.mem_append_left _ h, hu, hv⟩
  ·exact ⟨q, List.mem_append_right _ (List.mem_cons_of_mem _ h), hu, hv⟩
def Bnd (n : Nat) (E : List (List Int)) : Prop := ∀ p ∈ E, ∀ x ∈ p, 0 ≤ x ∧ x < n
theorem Rc.cnt_lone {A B : List (List Int)} {p q : List Int} {y : Int} (hp : ∀ x ∈ p, x = y) (hq : ∀ x ∈ q, x = y) (n : Nat) : cnt (Rc (A ++ p :: B)) n = cnt (Rc (A ++ q :: B)) n :=
 cnt_congr n fun _ _ _ _ => (Rc.lone hp).trans (Rc.lone hq).symm
theorem Rc.cnt_more {n : Nat} {A B : List (List Int)} {xs ys : List Int} {y : Int} (hne : xs ++ ys ≠ []) (hb : Bnd n (A ++ (xs ++ y :: ys) :: B)) :
  cnt (Rc (A ++ (xs ++ y :: ys) :: B)) n = cnt (Rc (A ++ (xs ++ ys) :: B)) n ∨ cnt (Rc (A ++ (xs ++ y :: ys) :: B)) n + 1 = cnt (Rc (A ++ (xs ++ ys) :: B)) n := by
 obtain ⟨c, hc⟩ := List.exists_mem_of_ne_nil _ hne
 have hin : (xs ++ y :: ys) ∈ A ++ (xs ++ y :: ys) :: B := List.mem_append_right _ (List.mem_cons_self ..)
 have h1 := hb _ hin y (List.mem_append_right _ (List.mem_cons_self ..))
 have h2 := hb _ hin c (by
  rcases List.mem_append.1 hc with h | h
  ·exact List.mem_append_left _ h
  ·exact List.mem_append_right _ (List.mem_cons_of_mem _ h))
 rw [cnt_congr n (fun s t _ _ => Rc.more hc)]
 have := cnt_join (R := Rc (A ++ (xs ++ ys) :: B)) (fun x => .refl) (fun x y h => h.symm) (fun x y z h k => h.trans k) (a := c.toNat) (b := y.toNat) (n := n) (by omega) (by omega)
 rw [Int.toNat_of_nonneg h1.1, Int.toNat_of_nonneg h2.1] at this
 split at this
 ·exact .inl this
 ·exact .inr this
theorem Rc.cnt_ge {n : Nat} : ∀ (E : List (List Int)), Bnd n E → n ≤ cnt (Rc E) n + (E.map fun p => p.length - 1).sum := by
 intro E
 induction E with
 | nil =>
  intro _
  have h0 : ∀ s t : Nat, (Rc [] t s ↔ (t : Int) = s) := fun s t => by
   constructor
   ·intro h
    refine Eqv.closed (p := fun z => (t : Int) = z) ?_ h rfl
    rintro x y _ ⟨p, hp, _⟩
    cases hp
   ·intro h; rw [h]; exact .refl
  rw [cnt_congr (S := fun a b => a = b) n (fun s t _ _ => h0 s t), cnt_eq]
  exact Nat.le_add_right _ _
 | cons p E ih =>
  intro hb
  have hE : Bnd n E := fun q hq => hb q (List.mem_cons_of_mem _ hq)
  have ih := ih hE
  have one : ∀ y : Int, cnt (Rc ([y] :: E)) n = cnt (Rc E) n := fun y =>
   (Rc.cnt_lone (A := []) (p := [y]) (q := []) (y := y) (fun x hx => by simpa using hx) (fun x hx => by cases hx) n).trans (cnt_congr n fun _ _ _ _ => Rc.nils (A := []))
  induction p with
  | nil =>
   rw [show cnt (Rc ([] :: E)) n = cnt (Rc E) n from cnt_congr n (fun _ _ _ _ => Rc.nils (A := []))]
   simpa using ih
  | cons y p ihp =>
   cases p with
   | nil => rw [one y]; simpa using ih
   | cons z p =>
    have h1 := ihp (fun q hq => by
     rcases List.mem_cons.1 hq with rfl | hq
     ·exact fun x hx => hb _ (List.mem_cons_self ..) x (List.mem_cons_of_mem _ hx)
     ·exact hE q hq)
    have h2 := Rc.cnt_more (n := n) (A := []) (B := E) (xs := []) (ys := z :: p) (y := y) (by simp) (by simpa using hb)
    simp only [List.nil_append] at h2
    simp only [List.map_cons, List.sum_cons, List.length_cons] at h1 ⊢
    rcases h2 with h2 | h2 <;> omega
def On (l : List Bool) (s : Nat) : Prop := l[s]? = some true
theorem count_le : ∀ {l m : List Bool}, l.length = m.length → (∀ s, On l s → On m s) → l.count true ≤ m.count true ∧ (l.count true = m.count true → l = m)
 | [], [], _, _ => ⟨Nat.le_refl _, fun _ => rfl⟩
 | [], _ :: _, h, _ => by simp at h
 | _ :: _, [], h, _ => by simp at h
 | a :: l, b :: m, h, hs => by
  obtain ⟨h1, h2⟩ := count_le (l := l) (m := m) (by simpa using h) fun s hl => by have := hs (s + 1) (by simpa [On] using hl); simpa [On] using this
  cases a with
  | true =>
   have hb : b = true := by have := hs 0 rfl; simpa [On] using this
   subst hb
   simp only [List.count_cons_self]
   exact ⟨by omega, fun e => by rw [h2 (by omega)]⟩
  | false =>
   cases b with
   | true =>
    rw [List.count_cons_of_ne (by simp), List.count_cons_self]
    exact ⟨by omega, fun e => by omega⟩
   | false =>
    rw [List.count_cons_of_ne (by simp), List.count_cons_of_ne (by simp)]
    exact ⟨h1, fun e => by rw [h2 e]⟩
def Nx (E : List (List Int)) (l m : List Bool) : Prop := m.length = l.length ∧ ∀ s : Nat, s < l.length → (On m s ↔ On l s ∨ ∃ t : Nat, On l t ∧ Jn E t s)
theorem bfs {N : Nat} {E : List (List Int)} (hb : Bnd N E) {a : Nat} (ha : a < N) {f : Nat → List Bool} (h0 : (f 0).length = N) (h1 : ∀ s : Nat, s < N → (On (f 0) s ↔ s = a)) (hn : ∀ k, k < N → Nx E (f k) (f (k + 1))) :
  (f N).length = N ∧ ∀ s : Nat, On (f N) s ↔ s < N ∧ Rc E a s := by
 have lt : ∀ {l : List Bool} {s : Nat}, On l s → s < l.length := fun h => (List.getElem?_eq_some_iff.1 h).1
 have len : ∀ k, k ≤ N → (f k).length = N := by
  intro k
  induction k with
  | zero => exact fun _ => h0
  | succ k ih => intro h; rw [(hn k h).1, ih (by omega)]
 have sound : ∀ k, k ≤ N → ∀ s : Nat, On (f k) s → Rc E a s := by
  intro k
  induction k with
  | zero => intro _ s h; rw [(h1 s (h0 ▸ lt h)).1 h]; exact .refl
  | succ k ih =>
   intro hk s h
   have hs : s < N := len (k + 1) hk ▸ lt h
   rcases ((hn k hk).2 s (by rw [len k (by omega)]; exact hs)).1 h with h | ⟨t, h, hj⟩
   ·exact ih (by omega) s h
   ·exact (ih (by omega) t h).step hj
 have sub : ∀ k, k < N → ∀ s, On (f k) s → On (f (k + 1)) s := fun k hk s h => ((hn k hk).2 s (lt h)).2 (.inl h)
 have grow : ∀ k, k ≤ N → (∀ m, k ≤ m → m ≤ N → f m = f k) ∨ k + 1 ≤ (f k).count true := by
  intro k
  induction k with
  | zero =>
   intro _
   have : true ∈ f 0 := List.mem_of_getElem? ((h1 a ha).2 rfl)
   exact .inr (List.count_pos_iff.2 this)
  | succ k ih =>
   intro hk
   obtain ⟨c1, c2⟩ := count_le ((len k (by omega)).trans (len (k + 1) hk).symm) (sub k hk)
   rcases ih (by omega) with h | h
   ·exact .inl fun m h2 h3 => by rw [h m (by omega) h3, h (k + 1) (by omega) hk]
   ·by_cases e : (f k).count true = (f (k + 1)).count true
    ·have e := c2 e
     refine .inl fun m h2 h3 => ?_
     have key : ∀ d, k + 1 + d ≤ N → f (k + 1 + d) = f (k + 1) := by
      intro d
      induction d with
      | zero => intro _; rfl
      | succ d ihd =>
       intro hd
       have ihd := ihd (by omega)
       have a1 := hn (k + 1 + d) (by omega)
       have a2 := hn k (by omega)
       rw [ihd, ← e] at a1
       refine List.ext_getElem? fun s => ?_
       have on : ∀ {l m : List Bool}, l.length = m.length → (∀ s, s < l.length → (On l s ↔ On m s)) → ∀ s, l[s]? = m[s]? := fun {l m} hl h s => by
        by_cases hs : s < l.length
        ·have h := h s hs
         simp only [On, List.getElem?_eq_getElem hs, List.getElem?_eq_getElem (hl ▸ hs : s < m.length), Option.some.injEq] at h
         rw [List.getElem?_eq_getElem hs, List.getElem?_eq_getElem (hl ▸ hs : s < m.length), Bool.eq_iff_iff.2 h]
        ·rw [List.getElem?_eq_none (by omega), List.getElem?_eq_none (by omega)]
       refine on (by rw [show k + 1 + (d + 1) = k + 1 + d + 1 by omega, a1.1, a2.1]) (fun s hs => ?_) s
       rw [show k + 1 + (d + 1) = k + 1 + d + 1 by omega, a1.1] at hs
       exact (a1.2 s hs).trans (a2.2 s hs).symm
     have := key (m - (k + 1)) (by omega)
     rwa [show k + 1 + (m - (k + 1)) = m by omega] at this
    ·exact .inr (by omega)
 refine ⟨len N (Nat.le_refl _), fun s => ⟨fun h => ⟨len N (Nat.le_refl _) ▸ lt h, sound N (Nat.le_refl _) s h⟩, fun ⟨hs, hr⟩ => ?_⟩⟩
 have fix : ∃ k, k < N ∧ f (k + 1) = f N ∧ f k = f N := by
  rcases grow (N - 1) (by omega) with h | h
  ·exact ⟨N - 1, by omega, by rw [show N - 1 + 1 = N by omega], (h N (by omega) (Nat.le_refl _)).symm⟩
  ·refine ⟨N - 1, by omega, by rw [show N - 1 + 1 = N by omega], ?_⟩
   obtain ⟨c1, c2⟩ := count_le ((len (N - 1) (by omega)).trans (len (N - 1 + 1) (by omega)).symm) (sub (N - 1) (by omega))
   have : (f (N - 1 + 1)).count true ≤ N := by
    have := List.count_le_length (a := true) (l := f (N - 1 + 1))
    rwa [len (N - 1 + 1) (by omega)] at this
   rw [show N - 1 + 1 = N by omega] at *
   exact c2 (by omega)
 obtain ⟨k, hk, e1, e2⟩ := fix
 have h2 := hn k hk
 rw [e1, e2] at h2
 have on0 : On (f N) a := by
  have : ∀ k, k ≤ N → On (f k) a := by
   intro k
   induction k with
   | zero => exact fun _ => (h1 a ha).2 rfl
   | succ k ih => intro h; exact sub k h a (ih (by omega))
  exact this N (Nat.le_refl _)
 have := Eqv.closed (p := fun z => ∃ t : Nat, (t : Int) = z ∧ t < N ∧ On (f N) t) (fun x y ⟨t, e, ht, ho⟩ hj => by
  obtain ⟨p, hp, hx, hy⟩ := hj
  have hb := hb p hp y hy
  refine ⟨y.toNat, by omega, by omega, ?_⟩
  refine (h2.2 y.toNat (by rw [len N (Nat.le_refl _)]; omega)).2 (.inr ⟨t, ho, p, hp, by rw [e]; exact hx, ?_⟩)
  rw [Int.toNat_of_nonneg hb.1]; exact hy) hr ⟨a, rfl, ha, on0⟩
 obtain ⟨t, e, _, ho⟩ := this
 have : t = s := by omega
 exact this ▸ ho
theorem asc_ext : ∀ {x y : List Int}, x.Pairwise (· < ·) → y.Pairwise (· < ·) → (∀ s, s ∈ x ↔ s ∈ y) → x = y
 | [], [], _, _, _ => rfl
 | [], b :: y, _, _, h => by have := (h b).2 (by simp); simp at this
 | a :: x, [], _, _, h => by have := (h a).1 (by simp); simp at this
 | a :: x, b :: y, hx, hy, h => by
  rw [List.pairwise_cons] at hx hy
  have hab : a = b := by
   have h1 := (h a).1 (by simp)
   have h2 := (h b).2 (by simp)
   rw [List.mem_cons] at h1 h2
   rcases h1 with h1 | h1
   ·exact h1
   rcases h2 with h2 | h2
   ·exact h2.symm
   have := hy.1 a h1; have := hx.1 b h2; omega
  subst hab
  congr 1
  refine asc_ext hx.2 hy.2 fun s => ?_
  have hs := h s
  simp only [List.mem_cons] at hs
  constructor
  ·intro m
   rcases hs.1 (.inr m) with e | e
   ·subst e; exact absurd (hx.1 s m) (Int.lt_irrefl s)
   ·exact e
  ·intro m
   rcases hs.2 (.inr m) with e | e
   ·subst e; exact absurd (hy.1 s m) (Int.lt_irrefl s)
   ·exact e
theorem sort_asc {l : List Int} (h : l.Nodup) : (l.mergeSort fun x y => decide (x ≤ y)).Pairwise (· < ·) := by
 have h1 : (l.mergeSort fun x y => decide (x ≤ y)).Pairwise fun x y => decide (x ≤ y) = true :=
  List.pairwise_mergeSort (fun a b c h1 h2 => by rw [decide_eq_true_eq] at *; omega) (fun a b => by rw [Bool.or_eq_true, decide_eq_true_eq, decide_eq_true_eq]; omega) l
 have h2 : (l.mergeSort fun x y => decide (x ≤ y)).Nodup := (List.mergeSort_perm l _).nodup_iff.2 h
 refine (h1.and h2).imp fun {a b} h => ?_
 have := of_decide_eq_true h.1
 have := h.2
 omega
theorem sort_mem {l : List Int} {s : Int} : s ∈ (l.mergeSort fun x y => decide (x ≤ y)) ↔ s ∈ l := (List.mergeSort_perm l _).mem_iff
theorem nodup_len {α : Type} [DecidableEq α] : ∀ {l m : List α}, l.Nodup → (∀ x ∈ l, x ∈ m) → l.length ≤ m.length
 | [], _, _, _ => Nat.zero_le _
 | a :: l, m, h, hs => by
  rw [List.nodup_cons] at h
  have ha := hs a (List.mem_cons_self ..)
  have := nodup_len (m := m.erase a) h.2 fun x hx => (List.mem_erase_of_ne (fun e => h.1 (by rw [← e]; exact hx))).2 (hs x (List.mem_cons_of_mem _ hx))
  rw [List.length_erase_of_mem ha] at this
  have : 0 < m.length := List.length_pos_of_mem ha
  simp only [List.length_cons]; omega
def upI (n : Int) : List Int := (List.range n.toNat).map fun k : Nat => (k : Int)
theorem mem_upI {n s : Int} : s ∈ upI n ↔ 0 ≤ s ∧ s < n := by
 unfold upI
 rw [List.mem_map]
 constructor
 ·rintro ⟨k, h1, rfl⟩
  rw [List.mem_range] at h1; omega
 ·intro h
  exact ⟨s.toNat, by rw [List.mem_range]; omega, by omega⟩
theorem upI_asc (n : Int) : (upI n).Pairwise (· < ·) := by
 unfold upI
 rw [List.pairwise_map]
 refine List.pairwise_lt_range.imp fun h => ?_
 omega
open Classical in
noncomputable def partI (E : List (List Int)) (N : Int) (s : Int) : List Int := (upI N).filter fun t => decide (Rc E s t)
theorem partI_mem {E : List (List Int)} {N s t : Int} : t ∈ partI E N s ↔ (0 ≤ t ∧ t < N) ∧ Rc E s t := by
 classical
 unfold partI
 rw [List.mem_filter, mem_upI]
 simp
theorem partI_asc (E : List (List Int)) (N s : Int) : (partI E N s).Pairwise (· < ·) := by
 classical
 exact (upI_asc N).filter _
theorem partI_eq {E : List (List Int)} {N s : Int} {l : List Int} (ha : l.Pairwise (· < ·)) (hm : ∀ t, t ∈ l ↔ (0 ≤ t ∧ t < N) ∧ Rc E s t) : l = partI E N s :=
 asc_ext ha (partI_asc E N s) fun t => (hm t).trans partI_mem.symm
theorem partI_head {E : List (List Int)} {N : Int} {s : Nat} (hs : (s : Int) < N) : ∃ z : Int, (partI E N s)[0]? = some z ∧ (z = s ↔ Lst (Rc E) s) := by
 have hm : (s : Int) ∈ partI E N s := partI_mem.2 ⟨⟨by omega, hs⟩, .refl⟩
 have ha := partI_asc E N s
 have hmm : ∀ t, t ∈ partI E N s ↔ (0 ≤ t ∧ t < N) ∧ Rc E s t := fun t => partI_mem
 generalize partI E N s = l at hm ha hmm
 cases l with
 | nil => cases hm
 | cons z r =>
  refine ⟨z, rfl, ?_⟩
  rw [List.pairwise_cons] at ha
  have hz := (hmm z).1 (List.mem_cons_self ..)
  constructor
  ·rintro rfl t ht hR
   have : (t : Int) ∈ (s : Int) :: r := (hmm t).2 ⟨⟨by omega, by omega⟩, hR.symm⟩
   rcases List.mem_cons.1 this with e | e
   ·omega
   ·have := ha.1 t e; omega
  ·intro hl
   rcases List.mem_cons.1 hm with e | e
   ·exact e.symm
   ·have h1 := ha.1 _ e
    exact absurd (show Rc E (z.toNat : Nat) s by rw [Int.toNat_of_nonneg hz.1.1]; exact hz.2.symm) (hl z.toNat (by omega))
inductive Wk (G : Int → Int → Prop) (a : Int) : Nat → Int → Prop where
 | zero : Wk G a 0 a
 | succ {n : Nat} {b c : Int} : Wk G a n b → G b c → Wk G a (n + 1) c
def Dist (G : Int → Int → Prop) (a : Int) (n : Nat) (s : Int) : Prop := Wk G a n s ∧ ∀ m, m < n → ¬ Wk G a m s
namespace Wk
variable {G H : Int → Int → Prop} {a b c : Int} {n m : Nat}
theorem trans (h1 : Wk G a n b) (h2 : Wk G b m c) : Wk G a (n + m) c := by
 induction h2 with
 | zero => exact h1
 | succ _ h ih => exact ih.succ h
theorem symm (hs : ∀ x y, G x y → G y x) (h : Wk G a n b) : Wk G b n a := by
 induction h with
 | zero => exact .zero
 | succ h0 h ih =>
  rename_i k u v
  have : Wk G v (1 + k) a := trans (.succ .zero (hs _ _ h)) ih
  rwa [Nat.add_comm] at this
theorem mono (hm : ∀ x y, G x y → H x y) (h : Wk G a n b) : Wk H a n b := by
 induction h with
 | zero => exact .zero
 | succ _ h ih => exact ih.succ (hm _ _ h)
theorem eqv : Eqv G a b ↔ ∃ n, Wk G a n b := by
 constructor
 ·intro h
  induction h with
  | refl => exact ⟨0, .zero⟩
  | step _ h ih => obtain ⟨n, ih⟩ := ih; exact ⟨n + 1, ih.succ h⟩
 ·rintro ⟨n, h⟩
  induction h with
  | zero => exact .refl
  | succ _ h ih => exact ih.step h
theorem dist (h : Wk G a n b) : ∃ k, k ≤ n ∧ Dist G a k b := by
 induction n using Nat.strongRecOn with
 | _ n ih =>
  by_cases hk : ∃ m, m < n ∧ Wk G a m b
  ·obtain ⟨m, h1, h2⟩ := hk
   obtain ⟨k, h3, h4⟩ := ih m h1 h2
   exact ⟨k, by omega, h4⟩
  ·exact ⟨n, Nat.le_refl _, h, fun m h1 h2 => hk ⟨m, h1, h2⟩⟩
end Wk
namespace Dist
variable {G H : Int → Int → Prop} {a b c : Int} {n m : Nat}
theorem uniq (h : Dist G a n b) (k : Dist G a m b) : n = m := by
 rcases Nat.lt_trichotomy n m with h' | h' | h'
 ·exact absurd h.1 (k.2 n h')
 ·exact h'
 ·exact absurd k.1 (h.2 m h')
theorem pred (h : Dist G a (n + 1) c) : ∃ b, Dist G a n b ∧ G b c := by
 cases h.1 with
 | succ h1 h2 =>
  rename_i b
  exact ⟨b, ⟨h1, fun m hm hw => h.2 (m + 1) (by omega) (hw.succ h2)⟩, h2⟩
theorem zero : Dist G a 0 a := ⟨.zero, fun m hm => absurd hm (Nat.not_lt_zero _)⟩
theorem zero_iff : Dist G a 0 b ↔ b = a := ⟨fun h => by cases h.1; rfl, fun h => h ▸ zero⟩
theorem symm (hs : ∀ x y, G x y → G y x) (h : Dist G a n b) : Dist G b n a := ⟨h.1.symm hs, fun m hm hw => h.2 m hm (hw.symm hs)⟩
end Dist
theorem Dist.lt {G : Int → Int → Prop} {a b : Int} {n : Nat} {N : Nat} (ha : 0 ≤ a ∧ a < N) (hG : ∀ x y, G x y → 0 ≤ y ∧ y < N) (h : Dist G a n b) : n < N := by
 have key : ∀ n b, Dist G a n b → ∃ l : List Int, l.length = n + 1 ∧ l.Nodup ∧ (∀ x ∈ l, 0 ≤ x ∧ x < N) ∧ ∀ x ∈ l, ∃ k, k ≤ n ∧ Dist G a k x := by
  intro n
  induction n with
  | zero => intro b h; exact ⟨[a], rfl, by simp, fun x hx => by simp at hx; subst hx; exact ha, fun x hx => by simp at hx; subst hx; exact ⟨0, Nat.le_refl _, .zero⟩⟩
  | succ n ih =>
   intro b h
   obtain ⟨c, h1, h2⟩ := h.pred
   obtain ⟨l, l1, l2, l3, l4⟩ := ih c h1
   refine ⟨b :: l, by simp [l1], List.nodup_cons.2 ⟨fun hb => ?_, l2⟩, fun x hx => ?_, fun x hx => ?_⟩
   ·obtain ⟨k, h3, h4⟩ := l4 b hb
    have := h4.uniq h; omega
   ·rcases List.mem_cons.1 hx with rfl | hx
    ·exact hG _ _ h2
    ·exact l3 x hx
   ·rcases List.mem_cons.1 hx with rfl | hx
    ·exact ⟨n + 1, Nat.le_refl _, h⟩
    ·obtain ⟨k, h3, h4⟩ := l4 x hx; exact ⟨k, by omega, h4⟩
 obtain ⟨l, h1, h2, h3, _⟩ := key n b h
 have := nodup_len (m := upI N) h2 fun x hx => mem_upI.2 (h3 x hx)
 have hu : (upI (N : Int)).length = N := by simp [upI]
 omega
def DT (G : Int → Int → Prop) (a : Int) (N : Nat) (d : List Int) : Prop :=
 d.length = N ∧ ∀ s : Nat, s < N → (d[s]? = some (-1) ∧ ∀ n, ¬ Wk G a n s) ∨ ∃ n : Nat, d[s]? = some (n : Int) ∧ Dist G a n s
theorem DT.uniq {G : Int → Int → Prop} {a : Int} {N : Nat} {d e : List Int} (h : DT G a N d) (k : DT G a N e) : d = e := by
 refine List.ext_getElem? fun s => ?_
 by_cases hs : s < N
 ·rcases h.2 s hs with ⟨h1, h2⟩ | ⟨n, h1, h2⟩ <;> rcases k.2 s hs with ⟨k1, k2⟩ | ⟨m, k1, k2⟩
  ·rw [h1, k1]
  ·exact absurd k2.1 (h2 m)
  ·exact absurd h2.1 (k2 n)
  ·rw [h1, k1, h2.uniq k2]
 ·rw [List.getElem?_eq_none (by rw [h.1]; omega), List.getElem?_eq_none (by rw [k.1]; omega)]
theorem DT.congr {G H : Int → Int → Prop} {a : Int} {N : Nat} {d : List Int} (hw : ∀ n s, Wk G a n s ↔ Wk H a n s) : DT G a N d ↔ DT H a N d := by
 have hd : ∀ n s, Dist G a n s ↔ Dist H a n s := fun n s => and_congr (hw n s) (forall_congr' fun m => forall_congr' fun _ => not_congr (hw m s))
 unfold DT
 simp only [hw, hd]
def Lv (G : Int → Int → Prop) (a : Int) (N n : Nat) (d : List Int) : Prop :=
 d.length = N ∧ ∀ s : Nat, s < N → (d[s]? = some (-1) ∧ ∀ k, k ≤ n → ¬ Wk G a k s) ∨ ∃ k : Nat, k ≤ n ∧ d[s]? = some (k : Int) ∧ Dist G a k s
def Rd (G : Int → Int → Prop) (n : Nat) (d e : List Int) : Prop :=
 e.length = d.length ∧ ∀ (t : Nat) (v : Int), d[t]? = some v →
  ((v < 0 ∧ ∃ s : Nat, d[s]? = some ((n : Int) - 1) ∧ G s t) → e[t]? = some (n : Int)) ∧ (¬ (v < 0 ∧ ∃ s : Nat, d[s]? = some ((n : Int) - 1) ∧ G s t) → e[t]? = some v)
theorem Lv.round {G : Int → Int → Prop} {a : Int} {N n : Nat} {d e : List Int} (ha : 0 ≤ a ∧ a < N) (hG : ∀ x y, G x y → 0 ≤ y ∧ y < N) (h : Lv G a N n d) (hr : Rd G (n + 1) d e) : Lv G a N (n + 1) e := by
 refine ⟨hr.1.trans h.1, fun t ht => ?_⟩
 have hb : ∀ k s, Wk G a k s → 0 ≤ s ∧ s < N := fun k s hw => by
  cases hw with
  | zero => exact ha
  | succ _ h => exact hG _ _ h
 rcases h.2 t ht with ⟨h1, h2⟩ | ⟨k, h0, h1, h2⟩
 ·obtain ⟨r1, r2⟩ := hr.2 t _ h1
  by_cases hs : ∃ s : Nat, d[s]? = some (((n + 1 : Nat) : Int) - 1) ∧ G s t
  ·have := r1 ⟨by omega, hs⟩
   obtain ⟨s, h3, h4⟩ := hs
   have hsN : s < N := by have := (List.getElem?_eq_some_iff.1 h3).1; rw [h.1] at this; exact this
   rcases h.2 s hsN with ⟨h5, _⟩ | ⟨k, h6, h5, h7⟩
   ·rw [h3] at h5; have := Option.some.inj h5; omega
   ·rw [h3] at h5
    have hk := Option.some.inj h5
    have : k = n := by omega
    subst this
    exact .inr ⟨k + 1, Nat.le_refl _, by assumption, h7.1.succ h4, fun m hm => h2 m (by omega)⟩
  ·have := r2 fun h => hs h.2
   refine .inl ⟨this, fun k hk hw => ?_⟩
   obtain ⟨j, hj, hd⟩ := hw.dist
   by_cases hjn : j ≤ n
   ·exact h2 j hjn hd.1
   ·obtain rfl : j = n + 1 := by omega
    obtain ⟨b, hb1, hb2⟩ := hd.pred
    have hbb := hb _ _ hb1.1
    rcases h.2 b.toNat (by omega) with ⟨_, h5⟩ | ⟨k', _, h5, h7⟩
    ·exact h5 n (Nat.le_refl _) (by rw [Int.toNat_of_nonneg hbb.1]; exact hb1.1)
    ·rw [Int.toNat_of_nonneg hbb.1] at h7
     have := h7.uniq hb1
     subst this
     exact hs ⟨b.toNat, by rw [h5]; congr 1; omega, by rw [Int.toNat_of_nonneg hbb.1]; exact hb2⟩
 ·obtain ⟨_, r2⟩ := hr.2 t _ h1
  exact .inr ⟨k, by omega, r2 (fun h => by omega), h2⟩
theorem Lv.start {G : Int → Int → Prop} {a : Nat} {N : Nat} {d : List Int} (hl : d.length = N) (h0 : d[a]? = some 0) (hs : ∀ s, s < N → s ≠ a → d[s]? = some (-1)) : Lv G a N 0 d :=
 ⟨hl, fun s h => by
  by_cases e : s = a
  ·subst e; exact .inr ⟨0, Nat.le_refl _, h0, .zero⟩
  ·refine .inl ⟨hs s h e, fun k hk hw => ?_⟩
   obtain rfl : k = 0 := by omega
   have := Dist.zero_iff.1 (show Dist G a 0 s from ⟨hw, fun m hm => absurd hm (Nat.not_lt_zero _)⟩)
   omega⟩
theorem Lv.fin {G : Int → Int → Prop} {a : Int} {N n : Nat} {d : List Int} (ha : 0 ≤ a ∧ a < N) (hG : ∀ x y, G x y → 0 ≤ y ∧ y < N) (hn : N ≤ n + 1) (h : Lv G a N n d) : DT G a N d :=
 ⟨h.1, fun s hs => by
  rcases h.2 s hs with ⟨h1, h2⟩ | ⟨k, _, h1, h2⟩
  ·refine .inl ⟨h1, fun k hw => ?_⟩
   obtain ⟨j, _, hd⟩ := hw.dist
   exact h2 j (by have := hd.lt ha hG; omega) hd.1
  ·exact .inr ⟨k, h1, h2⟩⟩
def dv (d : List Int) (s : Int) : Int := (d[s.toNat]?).getD (-1)
structure QI (G : Int → Int → Prop) (a : Int) (N i : Nat) (P : Int → Prop) (d q : List Int) : Prop where
 len : d.length = N
 nod : q.Nodup
 bnd : ∀ x ∈ q, 0 ≤ x ∧ x < N
 mem : ∀ s : Int, 0 ≤ s → s < N → (s ∈ q ∧ ∃ k : Nat, dv d s = k ∧ Wk G a k s) ∨ (s ∉ q ∧ dv d s = -1)
 mono : q.Pairwise (fun x y => dv d x ≤ dv d y)
 near : ∀ u, q[i]? = some u → ∀ x ∈ q, dv d x ≤ dv d u + 1
 done : ∀ j u, j < i → q[j]? = some u → ∀ t, G u t → 0 ≤ dv d t ∧ dv d t ≤ dv d u + 1
 part : ∀ u, q[i]? = some u → ∀ t, P t → 0 ≤ dv d t ∧ dv d t ≤ dv d u + 1
 zero : a ∈ q ∧ dv d a = 0
 lvl : ∀ (j : Nat) (u : Int), q[j]? = some u → dv d u ≤ j
theorem dv_ne {d : List Int} {s t v : Int} (hs : 0 ≤ s) (ht : 0 ≤ t) (h : s ≠ t) : dv (d.set t.toNat v) s = dv d s := by
 unfold dv; rw [List.getElem?_set_ne (by omega)]
theorem dv_eq {d : List Int} {t v : Int} (ht : 0 ≤ t) (hl : t < d.length) : dv (d.set t.toNat v) t = v := by
 unfold dv; rw [List.getElem?_set_self (by omega)]; rfl
namespace QI
variable {G : Int → Int → Prop} {a : Int} {N i : Nat} {P : Int → Prop} {d q : List Int}
theorem start (ha : 0 ≤ a ∧ a < N) (hd : d.length = N) (h0 : dv d a = 0) (hs : ∀ s : Int, 0 ≤ s → s < N → s ≠ a → dv d s = -1) : QI G a N 0 (fun _ => False) d [a] where
 len := hd
 nod := by simp
 bnd x hx := by simp at hx; subst hx; exact ha
 mem s h1 h2 := by
  by_cases e : s = a
  ·subst e; exact .inl ⟨by simp, 0, h0, .zero⟩
  ·exact .inr ⟨by simp [e], hs s h1 h2 e⟩
 mono := by simp
 near u hu x hx := by simp at hx hu; subst hx; subst hu; omega
 done j u hj := absurd hj (Nat.not_lt_zero _)
 part _ _ _ h := h.elim
 zero := ⟨by simp, h0⟩
 lvl j u hj := by
  have hj0 : j = 0 := by have := (List.getElem?_eq_some_iff.1 hj).1; simpa using this
  subst hj0
  simp at hj; subst hj; rw [h0]; exact Int.le_refl _
theorem old (h : QI G a N i P d q) {u t : Int} (hu : q[i]? = some u) (ht : 0 ≤ t ∧ t < N) (hv : 0 ≤ dv d t) : QI G a N i (fun x => P x ∨ x = t) d q :=
 { h with
  part := fun u' hu' x hx => by
   rw [hu] at hu'; cases hu'
   rcases hx with hx | rfl
   ·exact h.part u hu x hx
   ·refine ⟨hv, h.near u hu x ?_⟩
    rcases h.mem x ht.1 ht.2 with h1 | h1
    ·exact h1.1
    ·omega }
theorem new (hG : ∀ x y, G x y → 0 ≤ y ∧ y < N) (hP : ∀ x, P x → 0 ≤ x ∧ x < N) (h : QI G a N i P d q) {u t : Int} (hu : q[i]? = some u) (hg : G u t) (hv : dv d t < 0) :
  QI G a N i (fun x => P x ∨ x = t) (d.set t.toNat (dv d u + 1)) (q ++ [t]) := by
 have ht := hG u t hg
 have htq : t ∉ q := by
  rcases h.mem t ht.1 ht.2 with ⟨_, k, hk, _⟩ | h1
  ·omega
  ·exact h1.1
 have hd : dv (d.set t.toNat (dv d u + 1)) t = dv d u + 1 := dv_eq ht.1 (by rw [h.len]; exact ht.2)
 have hne : ∀ x, 0 ≤ x → x ≠ t → dv (d.set t.toNat (dv d u + 1)) x = dv d x := fun x hx hn => dv_ne hx ht.1 hn
 have hq : ∀ x ∈ q, dv (d.set t.toNat (dv d u + 1)) x = dv d x := fun x hx => hne x (h.bnd x hx).1 fun e => htq (e ▸ hx)
 have huq : u ∈ q := List.mem_of_getElem? hu
 have hi : i < q.length := (List.getElem?_eq_some_iff.1 hu).1
 have hu0 : ∃ k : Nat, dv d u = k ∧ Wk G a k u := by
  have hb := h.bnd u huq
  rcases h.mem u hb.1 hb.2 with h1 | h1
  ·exact h1.2
  ·exact absurd huq h1.1
 have get : ∀ {j v}, j < q.length → (q ++ [t])[j]? = some v → q[j]? = some v := fun hj hv => by rwa [List.getElem?_append_left hj] at hv
 refine { len := by rw [List.length_set, h.len], nod := ?_, bnd := ?_, mem := ?_, mono := ?_, near := ?_, done := ?_, part := ?_, zero := ?_, lvl := ?_ }
 ·rw [List.nodup_append]
  exact ⟨h.nod, by simp, fun x hx y hy => by simp at hy; subst hy; exact fun e => htq (e ▸ hx)⟩
 ·intro x hx
  rcases List.mem_append.1 hx with hx | hx
  ·exact h.bnd x hx
  ·simp at hx; subst hx; exact ht
 ·intro s h1 h2
  by_cases e : s = t
  ·subst e
   obtain ⟨k, hk, hw⟩ := hu0
   exact .inl ⟨by simp, k + 1, by rw [hd]; omega, hw.succ hg⟩
  ·rw [hne s h1 e]
   rcases h.mem s h1 h2 with h3 | h3
   ·exact .inl ⟨List.mem_append_left _ h3.1, h3.2⟩
   ·exact .inr ⟨by simp [h3.1, e], h3.2⟩
 ·rw [List.pairwise_append]
  refine ⟨List.Pairwise.imp_of_mem (fun {x y} hx hy hxy => by rw [hq x hx, hq y hy]; exact hxy) h.mono, by simp, fun x hx y hy => ?_⟩
  simp at hy; subst hy
  rw [hq x hx, hd]; exact h.near u hu x hx
 ·intro u' hu' x hx
  have := get hi hu'
  rw [hu] at this; cases this
  rw [hq u huq]
  rcases List.mem_append.1 hx with hx | hx
  ·rw [hq x hx]; exact h.near u hu x hx
  ·simp at hx; subst hx; rw [hd]; exact Int.le_refl _
 ·intro j v hj hv x hx
  have hv := get (by omega) hv
  have hvq := List.mem_of_getElem? hv
  have hb := hG v x hx
  rw [hq v hvq]
  have := h.done j v hj hv x hx
  rw [hne x hb.1 fun e => by subst e; omega]
  exact this
 ·intro u' hu' x hx
  have := get hi hu'
  rw [hu] at this; cases this
  rw [hq u huq]
  obtain ⟨k, hk, _⟩ := hu0
  rcases hx with hx | rfl
  ·by_cases e : x = t
   ·subst e; rw [hd]; omega
   ·rw [hne x (hP x hx).1 e]; exact h.part u hu x hx
  ·rw [hd]; omega
 ·exact ⟨List.mem_append_left _ h.zero.1, by rw [hq a h.zero.1]; exact h.zero.2⟩
 ·intro j v hj
  have hjl := (List.getElem?_eq_some_iff.1 hj).1
  rw [List.length_append, List.length_singleton] at hjl
  by_cases e : j < q.length
  ·have hj := get e hj
   rw [hq v (List.mem_of_getElem? hj)]; exact h.lvl j v hj
  ·have e : j = q.length := by omega
   subst e
   rw [List.getElem?_append_right (Nat.le_refl _), Nat.sub_self] at hj
   simp at hj; subst hj
   rw [hd]
   have := h.lvl i u hu
   omega
theorem next (h : QI G a N i P d q) {u : Int} (hu : q[i]? = some u) (hP : ∀ t, G u t → P t) : QI G a N (i + 1) (fun _ => False) d q :=
 { h with
  near := fun v hv x hx => by
   have h1 := h.near u hu x hx
   obtain ⟨hi, rfl⟩ := List.getElem?_eq_some_iff.1 hu
   obtain ⟨hi', rfl⟩ := List.getElem?_eq_some_iff.1 hv
   have := List.pairwise_iff_getElem.1 h.mono i (i + 1) hi hi' (by omega)
   omega
  done := fun j v hj hv t ht => by
   by_cases e : j = i
   ·subst e; rw [hu] at hv; cases hv; exact h.part u hu t (hP t ht)
   ·exact h.done j v (by omega) hv t ht
  part := fun _ _ _ h => h.elim }
theorem size (h : QI G a N i P d q) : q.length ≤ N := by
 have := nodup_len (m := upI N) h.nod fun x hx => mem_upI.2 (h.bnd x hx)
 have hu : (upI (N : Int)).length = N := by simp [upI]
 omega
theorem fin (ha : 0 ≤ a ∧ a < N) (hG : ∀ x y, G x y → 0 ≤ y ∧ y < N) (h : QI G a N i P d q) (hi : q.length ≤ i) : DT G a N d := by
 have hb : ∀ k s, Wk G a k s → 0 ≤ s ∧ s < N := fun k s hw => by
  cases hw with
  | zero => exact ha
  | succ _ h => exact hG _ _ h
 have key : ∀ n s, Wk G a n s → 0 ≤ dv d s ∧ dv d s ≤ n := by
  intro n s hw
  induction hw with
  | zero => rw [h.zero.2]; omega
  | succ h1 h2 ih =>
   rename_i n b c
   have hbb := hb _ _ h1
   have hbq : b ∈ q := by
    rcases h.mem b hbb.1 hbb.2 with h3 | h3
    ·exact h3.1
    ·omega
   obtain ⟨j, hj⟩ := List.getElem?_of_mem hbq
   have := h.done j b (by have := (List.getElem?_eq_some_iff.1 hj).1; omega) hj c h2
   omega
 refine ⟨h.len, fun s hs => ?_⟩
 have hget : d[s]? = some (dv d s) := by
  unfold dv; rw [Int.toNat_natCast]
  rw [List.getElem?_eq_getElem (by rw [h.len]; exact hs)]; rfl
 rcases h.mem s (by omega) (by omega) with ⟨_, k, hk, hw⟩ | ⟨_, hk⟩
 ·refine .inr ⟨k, by rw [hget, hk], hw, fun m hm hw' => ?_⟩
  have := key m s hw'; omega
 ·refine .inl ⟨by rw [hget, hk], fun n hw => ?_⟩
  have := key n s hw; omega
end QI
end
section
variable {α β γ ρ σ : Type}
theorem mfind_none_of [DecidableEq α] : ∀ {m : List (α × β)} {k : α}, (∀ (j : Nat) (p : α × β), m[j]? = some p → p.1 ≠ k) → mfind m k = none := fun {m k} h => by
 cases hf : mfind m k with
 | none => rfl
 | some p => obtain ⟨i, v⟩ := p; exact absurd rfl (h i (k, v) (mfind_some hf).1)
theorem mfind_mput_ne [DecidableEq α] {m : List (α × β)} {k k' : α} (hn : k ≠ k') (v : β) : mfind (mput m k v) k' = mfind m k' := by
 cases h : mfind m k with
 | none =>
  rw [mput_none h]
  cases h' : mfind m k' with
  | none =>
   refine mfind_none_of fun j p hp => ?_
   rw [List.getElem?_append] at hp
   split at hp
   ·exact mfind_none h' j p hp
   ·have := List.mem_of_getElem? hp
    simp only [List.mem_singleton] at this
    rw [this]; exact hn
  | some q =>
   obtain ⟨i, u⟩ := q
   obtain ⟨h1, h2⟩ := mfind_some h'
   have hi := (List.getElem?_eq_some_iff.1 h1).1
   exact mfind_of (by rw [List.getElem?_append_left hi]; exact h1) fun j p hj hp => h2 j p hj (by rwa [List.getElem?_append_left (by omega)] at hp)
 | some p =>
  obtain ⟨i, u⟩ := p
  rw [mput_some h]
  obtain ⟨h1, h2⟩ := mfind_some h
  have hi := (List.getElem?_eq_some_iff.1 h1).1
  cases h' : mfind m k' with
  | none =>
   refine mfind_none_of fun j p hp => ?_
   by_cases e : i = j
   ·subst e; rw [List.getElem?_set_self hi] at hp; cases hp; exact hn
   ·rw [List.getElem?_set_ne e] at hp; exact mfind_none h' j p hp
  | some q =>
   obtain ⟨l, w⟩ := q
   obtain ⟨h3, h4⟩ := mfind_some h'
   have e : i ≠ l := fun e => by subst e; rw [h1] at h3; exact hn (congrArg Prod.fst (Option.some.inj h3))
   refine mfind_of (by rw [List.getElem?_set_ne e]; exact h3) fun j p hj hp => ?_
   by_cases e2 : i = j
   ·subst e2; rw [List.getElem?_set_self hi] at hp; cases hp; exact hn
   ·rw [List.getElem?_set_ne e2] at hp; exact h4 j p hj hp
theorem mget_mput_ne [DecidableEq α] {m : List (α × β)} {k k' : α} (hn : k ≠ k') (v d : β) : mget (mput m k v) k' d = mget m k' d := by
 unfold mget; rw [mfind_mput_ne hn]
theorem mget_nil [DecidableEq α] (k : α) (d : β) : mget ([] : List (α × β)) k d = d := rfl
variable {α β γ ρ σ : Type}
theorem gd_some [Inhabited α] (g : Bool) (x : α) : gd g (some x) = some (bif g then x else default) := by cases g <;> rfl
theorem gd_true [Inhabited α] (m : Option α) : gd true m = m := rfl
theorem gd_false [Inhabited α] (m : Option α) : gd false m = some default := rfl
theorem take_mn (l : List α) (n : Nat) : l.take (mn ((l.length : Nat) : Int) (n : Int)).toNat = l.take n := by
 unfold mn
 split
 ·rw [Int.toNat_natCast]
 ·rw [Int.toNat_natCast, List.take_length, List.take_of_length_le (by omega)]
theorem mn_ok (l : List α) (n : Int) (hn : 0 ≤ n) : (0 : Int) ≤ mn ((l.length : Nat) : Int) n ∧ mn ((l.length : Nat) : Int) n ≤ ((l.length : Nat) : Int) := by
 unfold mn; split <;> omega
theorem fits_of {n b : Nat} (h1 : n ≤ 1000000) (h2 : b ≤ 1000) : fits n b := by
 refine ⟨by omega, ?_⟩
 have := Nat.mul_le_mul h1 h2
 omega
theorem gix_of {l : List α} {n : Int} {x : α} (h0 : 0 ≤ n) (h : l[n.toNat]? = some x) : gix l n = some x := by unfold gix; rw [if_pos h0, h]
theorem gix_lt {l : List α} {k : Nat} (h : k < l.length) : gix l ((k : Nat) : Int) = some l[k] := by rw [gix_nat, List.getElem?_eq_getElem h]
theorem rangeL_map {body : Nat → α → List β → Option (Step ρ (List β))} {xs : List α} (hl : xs.length ≤ 1000000) (f : α → β) (hs : ∀ k x s, xs[k]? = some x → s.length = k → body k x s = some (.nxt (s ++ [f x]))) :
  rangeL body xs [] = some (.nxt (xs.map f)) := by
 refine rangeL_foldI hl (fun l => l.map f) rfl fun k x hx => ?_
 rw [hs k x _ hx (by have := (List.getElem?_eq_some_iff.1 hx).1; rw [List.length_map, List.length_take]; omega), List.map_append]; rfl
theorem rangeL_filterMap {body : Nat → α → List β → Option (Step ρ (List β))} {xs : List α} (hl : xs.length ≤ 1000000) (f : Nat → α → Option β) (s0 : List β) (hs0 : s0.length ≤ 1000000)
  (hs : ∀ k x s, xs[k]? = some x → s.length ≤ 2000000 → body k x s = some (.nxt (s ++ (f k x).toList))) :
  rangeL body xs s0 = some (.nxt (s0 ++ (xs.zipIdx.filterMap fun p => f p.2 p.1))) := by
 obtain ⟨s, h1, h2⟩ := rangeL_inv (s0 := s0) hl (fun k s => s = s0 ++ ((xs.take k).zipIdx.filterMap fun p => f p.2 p.1) ∧ s.length ≤ s0.length + k) ⟨by simp, by simp⟩ fun k x s hx ⟨h, hk⟩ => by
  have hlt := (List.getElem?_eq_some_iff.1 hx).1
  refine ⟨_, hs k x s hx (by omega), ?_, ?_⟩
  ·rw [h, List.take_add_one, hx, List.append_assoc]
   congr 1
   rw [Option.toList, List.zipIdx_append, List.filterMap_append, List.length_take, Nat.min_eq_left (by omega)]
   congr 1
   simp [List.filterMap_cons]
   cases f k x <;> simp
  ·rw [List.length_append]
   cases f k x <;> simp <;> omega
 rw [h1, h2.1, List.take_length]
theorem rangeN_up {body : Nat → σ → Option (Step ρ σ)} {n : Int} {s0 : σ} (hl : n ≤ 1000000) (F : Nat → σ) (h0 : F 0 = s0) (hs : ∀ k : Nat, (k : Int) < n → body k (F k) = some (.nxt (F (k + 1)))) :
  rangeN body n s0 = some (.nxt (F n.toNat)) := by
 obtain ⟨s, h1, h2⟩ := rangeN_inv (s0 := s0) hl (fun k s => s = F k) h0.symm fun k s hk h => by
  subst h; exact ⟨_, hs k hk, rfl⟩
 rw [h1, h2]
theorem loopF_up {body : σ → Option (Step ρ σ)} (F : Nat → σ) (n : Nat) (E : σ) (hs : ∀ k, k < n → body (F k) = some (.nxt (F (k + 1)))) (he : body (F n) = some (.brk E)) :
  ∀ (fuel k : Nat), k ≤ n → n - k < fuel → loopF fuel body (F k) = some (.nxt E) := by
 intro fuel
 induction fuel with
 | zero => intro k _ h; omega
 | succ m ih =>
  intro k hk hm
  by_cases e : k = n
  ·subst e; simp [loopF, he]
  ·simp only [loopF, hs k (by omega), Option.bind_some]
   exact ih (k + 1) (by omega) (by omega)
theorem loopF_count {body : σ → Option (Step ρ σ)} (F : Nat → σ) (n : Nat) (E : σ) {s0 : σ} (h0 : F 0 = s0) (hn : n < 1000000) (hs : ∀ k, k < n → body (F k) = some (.nxt (F (k + 1)))) (he : body (F n) = some (.brk E)) :
  loopF 1000000 body s0 = some (.nxt E) := h0 ▸ loopF_up F n E hs he 1000000 0 (Nat.zero_le _) (by omega)
theorem bv_nat {a : Int} (h0 : 0 ≤ a) (h1 : a < 18446744073709551616) : (BitVec.ofInt 64 a).toNat = a.toNat := by
 rw [BitVec.toNat_ofInt]
 have : a % ((2 ^ 64 : Nat) : Int) = a := Int.emod_eq_of_lt h0 (by simpa using h1)
 rw [this]
theorem bit_andNot15 {a : Int} (h0 : 0 ≤ a) (h1 : a < 281474976710656) : bitI .andNot .i64 a 15 = a / 16 * 16 := by
 show IntKind.i64.wrap _ = _
 have hx : (BitVec.ofInt 64 a &&& ~~~ BitVec.ofInt 64 15).toNat = a.toNat / 2 ^ 4 * 2 ^ 4 := by
  rw [BitVec.toNat_and, BitVec.toNat_not, bv_nat h0 (by omega), bv_nat (by decide) (by decide)]
  refine Nat.eq_of_testBit_eq fun i => ?_
  rw [Nat.testBit_and, show 2 ^ 64 - 1 - Int.toNat 15 = 2 ^ 64 - (15 + 1) from rfl, Nat.testBit_two_pow_sub_succ (by decide), show (15 : Nat) = 2 ^ 4 - 1 from rfl, Nat.testBit_two_pow_sub_one, Nat.testBit_mul_two_pow, Nat.testBit_div_two_pow]
  by_cases hi : i < 4
  ·have : ¬ (4 ≤ i) := by omega
   simp [hi]; intros; omega
  ·by_cases hj : i < 64
   ·have : i - 4 + 4 = i := by omega
    simp [hi, hj, this]; intros; omega
   ·have : a.toNat.testBit i = false := Nat.testBit_lt_two_pow (Nat.lt_of_lt_of_le (show a.toNat < 2 ^ 64 by omega) (Nat.pow_le_pow_right (by decide) (by omega)))
    have e : i - 4 + 4 = i := by omega
    simp [hj, this, e]
 have hk : IntKind.i64.bits = 64 := rfl
 show IntKind.i64.wrap (((BitVec.ofInt 64 a &&& ~~~ BitVec.ofInt 64 15).toNat : Nat) : Int) = _
 rw [hx, w64_in (by omega) (by omega)]
 omega
theorem bit_and1 {a : Int} (h0 : 0 ≤ a) (h1 : a < 281474976710656) : bitI .and .i64 (a.fdiv (2 ^ (min (40 : Int).toNat 64))) 1 = a / 1099511627776 % 2 := by
 have e : a.fdiv (2 ^ (min (40 : Int).toNat 64)) = a / 1099511627776 := by
  rw [show (2 : Int) ^ (min (40 : Int).toNat 64) = 1099511627776 by decide]
  exact Int.fdiv_eq_ediv_of_nonneg _ (by decide)
 rw [e]
 show IntKind.i64.wrap (((BitVec.ofInt 64 (a / 1099511627776) &&& BitVec.ofInt 64 1).toNat : Nat) : Int) = _
 rw [BitVec.toNat_and, bv_nat (by omega) (by omega), bv_nat (by decide) (by decide), show (1 : Int).toNat = 1 from rfl, Nat.and_one_is_mod, w64_in (by omega) (by omega)]
 omega
theorem idx_ok {n : Int} (h1 : 1 ≤ n) (h2 : n ≤ 1000000) (a : Int) : ∃ i : Nat, (IntKind.i64.wrap (a.tmod n + n)).tmod n = (i : Int) ∧ (i : Int) < n := by
 have h3 := Int.tmod_lt_of_pos a (show 0 < n by omega)
 have h4 : -n < a.tmod n := by
  exact Int.lt_tmod_of_pos a (show 0 < n by omega)
 rw [w64_in (by omega) (by omega)]
 have h5 := Int.tmod_nonneg n (show 0 ≤ a.tmod n + n by omega)
 have h6 := Int.tmod_lt_of_pos (a.tmod n + n) (show 0 < n by omega)
 exact ⟨((a.tmod n + n).tmod n).toNat, by omega, by omega⟩
end
section
variable {α β γ ρ σ : Type}
def idxG (q : α → Option Bool) (l : List α) : Option Int := aft (rangeL (fun (k : Nat) (x : α) (_ : Unit) => (q x).bind fun y => (bif y then some (Step.ret ((k : Nat) : Int)) else some (.nxt ()))) l ()) fun _ => some (-1)
theorem idxG_eq {q : α → Option Bool} {p : α → Bool} {l : List α} (hl : l.length ≤ 1000000) (hq : ∀ x ∈ l, q x = some (p x)) :
  (∃ k x, l[k]? = some x ∧ p x = true ∧ (∀ j y, j < k → l[j]? = some y → p y = false) ∧ idxG q l = some ((k : Nat) : Int)) ∨ ((∀ x ∈ l, p x = false) ∧ idxG q l = some (-1)) := by
 unfold idxG
 rcases rangeL_find (s0 := ()) (body := fun (k : Nat) (x : α) (_ : Unit) => (q x).bind fun y => (bif y then some (Step.ret ((k : Nat) : Int)) else some (.nxt ()))) hl (fun _ x => p x) (fun k _ => ((k : Nat) : Int)) (fun k x hx => by
  rw [hq x (List.mem_of_getElem? hx), Option.bind_some]; cases p x <;> rfl) with ⟨k, x, hx, hp, hj, h⟩ | ⟨hp, h⟩
 ·exact .inl ⟨k, x, hx, hp, hj, by rw [h]; rfl⟩
 ·exact .inr ⟨fun x hx => by obtain ⟨k, hk⟩ := List.getElem?_of_mem hx; exact hp k x hk, by rw [h]; rfl⟩
def conG (q : α → Option Bool) (l : List α) : Option Bool := (idxG q l).bind fun y => some (decide (0 ≤ y))
theorem conG_eq {q : α → Option Bool} {p : α → Bool} {l : List α} (hl : l.length ≤ 1000000) (hq : ∀ x ∈ l, q x = some (p x)) : conG q l = some (l.any p) := by
 unfold conG
 rcases idxG_eq hl hq with ⟨k, x, hx, hp, _, h⟩ | ⟨hp, h⟩
 ·rw [h, Option.bind_some, show l.any p = true from List.any_eq_true.2 ⟨x, List.mem_of_getElem? hx, hp⟩, decide_eq_true (Int.natCast_nonneg k)]
 ·rw [h, Option.bind_some, show l.any p = false from List.any_eq_false.2 fun x hx => by simp [hp x hx]]; rfl
def delB (q : α → Option Bool) (s : Int × Int × List α) : Option (Step (List α) (Int × Int × List α)) :=
 (bif (decide (s.2.1 < ((s.2.2.length : Nat) : Int))) then
  grd ((0 : Int) ≤ s.2.1 ∧ s.2.1 < ((s.2.2.length : Nat) : Int)) <|
  (gixN s.2.2 (s.2.1 : Int).toNat).bind fun v =>
  (q v).bind fun y =>
  (bif (!y) then
   grd ((0 : Int) ≤ s.1 ∧ s.1 < ((s.2.2.length : Nat) : Int)) <|
   (gixN s.2.2 (s.1 : Int).toNat).bind fun _ =>
   some (.nxt ((IntKind.i64.wrap (s.1 + 1)), (IntKind.i64.wrap (s.2.1 + 1)), (s.2.2.set (s.1 : Int).toNat v)))
  else
   some (.nxt (s.1, (IntKind.i64.wrap (s.2.1 + 1)), s.2.2)))
 else
  some (.brk (s.1, s.2.1, s.2.2)))
def delG (q : α → Option Bool) (l : List α) : Option (List α) :=
 (idxG q l).bind fun y =>
 (bif (decide (y = (-1))) then
  some l
 else
  aft (loopF 1000000 (delB q) (y, (IntKind.i64.wrap (y + 1)), l)) fun s =>
  grd ((0 : Int) ≤ s.1 ∧ s.1 < ((s.2.2.length : Nat) : Int)) <|
  grd ((0 : Int) ≤ s.1 ∧ s.1 ≤ ((s.2.2.length : Nat) : Int)) <|
  some (s.2.2.take (s.1 : Int).toNat))
theorem delG_eq {q : α → Option Bool} {p : α → Bool} {l : List α} (hl : l.length ≤ 900000) (hq : ∀ x ∈ l, q x = some (p x)) : delG q l = some (l.filter fun x => !p x) := by
 unfold delG
 rcases idxG_eq (by omega) hq with ⟨k, x, hx, hp, hj, h⟩ | ⟨hp, h⟩
 ·have hk := (List.getElem?_eq_some_iff.1 hx).1
  have hfk : (l.take k).filter (fun x => !p x) = l.take k := List.filter_eq_self.2 fun y hy => by
   obtain ⟨j, hj'⟩ := List.getElem?_of_mem hy
   have hjk : j < k := by have := (List.getElem?_eq_some_iff.1 hj').1; rw [List.length_take] at this; omega
   rw [List.getElem?_take, if_pos hjk] at hj'
   rw [hj j y hjk hj']; rfl
  rw [h, Option.bind_some, decide_eq_false (show ¬ ((k : Nat) : Int) = -1 by omega), cond_false, w64_in (by omega) (by omega)]
  obtain ⟨o, h1, h2⟩ := loopF_rec (body := delB q) (fun s => l.length - s.2.1.toNat)
   (fun s => ∃ j i : Nat, s.1 = (i : Int) ∧ s.2.1 = (j : Int) ∧ i < j ∧ j ≤ l.length ∧ s.2.2.length = l.length ∧ s.2.2.take i = (l.take j).filter (fun x => !p x) ∧ ∀ m, j ≤ m → s.2.2[m]? = l[m]?)
   (fun _ => False) (fun s => ∃ i : Nat, s.1 = (i : Int) ∧ i < l.length ∧ s.2.2.length = l.length ∧ s.2.2.take i = l.filter (fun x => !p x)) (fun s ⟨j, i, e1, e2, hij, hjl, hlen, ht, hd⟩ => by
    obtain ⟨s1, s2, L⟩ := s
    dsimp only at e1 e2 hlen ht hd
    subst e1; subst e2
    unfold delB
    dsimp only
    by_cases hjn : j < l.length
    ·rw [decide_eq_true (show ((j : Nat) : Int) < ((L.length : Nat) : Int) by omega), cond_true, grd_true ⟨by omega, by omega⟩]
     unfold gixN
     rw [Int.toNat_natCast, Int.toNat_natCast, hd j (Nat.le_refl _), List.getElem?_eq_getElem hjn, Option.bind_some, hq _ (List.getElem_mem hjn), Option.bind_some]
     have hta : l.take (j + 1) = l.take j ++ [l[j]] := by rw [List.take_add_one, List.getElem?_eq_getElem hjn]; rfl
     cases hpj : p l[j] with
     | true =>
      refine ⟨_, rfl, ⟨j + 1, i, rfl, by show IntKind.i64.wrap _ = _; rw [w64_in (by omega) (by omega)]; omega, by omega, by omega, hlen, ?_, fun m hm => hd m (by omega)⟩, ?_⟩
      ·show L.take i = _; rw [ht, hta, List.filter_append]; simp [hpj]
      ·show l.length - (IntKind.i64.wrap _).toNat < _
       rw [w64_in (by omega) (by omega)]; omega
     | false =>
      rw [Bool.not_false, cond_true, grd_true ⟨by omega, by omega⟩, List.getElem?_eq_getElem (show i < L.length by omega), Option.bind_some]
      refine ⟨_, rfl, ⟨j + 1, i + 1, by show IntKind.i64.wrap _ = _; rw [w64_in (by omega) (by omega)]; omega, by show IntKind.i64.wrap _ = _; rw [w64_in (by omega) (by omega)]; omega, by omega, by omega, ?_, ?_, fun m hm => ?_⟩, ?_⟩
      ·show (L.set _ _).length = _; rw [List.length_set, hlen]
      ·show (L.set i l[j]).take (i + 1) = _
       rw [List.take_add_one, List.getElem?_set_self (by omega), List.take_set_of_le (Nat.le_refl i), ht, hta, List.filter_append]
       simp [hpj]
      ·show (L.set i _)[m]? = _
       rw [List.getElem?_set_ne (by omega)]; exact hd m (by omega)
      ·show l.length - (IntKind.i64.wrap _).toNat < _
       rw [w64_in (by omega) (by omega)]; omega
    ·rw [decide_eq_false (show ¬ ((j : Nat) : Int) < ((L.length : Nat) : Int) by omega)]
     refine ⟨_, rfl, i, rfl, by omega, hlen, ?_⟩
     show L.take i = _
     rw [ht, List.take_of_length_le (by omega)]) 1000000 (((k : Nat) : Int), ((k : Nat) : Int) + 1, l) ⟨k + 1, k, rfl, by show ((k : Nat) : Int) + 1 = _; omega, by omega, by omega, rfl, by
    show l.take k = _
    rw [List.take_add_one, hx, List.filter_append, hfk]; simp [hp], fun m hm => rfl⟩ (by show l.length - _ < _; omega)
  cases o with
  | ret r => exact h2.elim
  | brk s => exact h2.elim
  | nxt s =>
   obtain ⟨i, i1, i2, i3, i4⟩ := h2
   rw [h1, aft_some_nxt, i1, grd_true ⟨by omega, by omega⟩, grd_true ⟨by omega, by omega⟩, Int.toNat_natCast, i4]
 ·rw [h, Option.bind_some]
  have : l.filter (fun x => !p x) = l := List.filter_eq_self.2 fun y hy => by rw [hp y hy]; rfl
  rw [this]; rfl
end
section
def fewL (l : LanT) : LanT := ⟨l.Segs, (l.Plans.take 8).map fun p => ⟨p.ID, p.Ports.take 10⟩, l.Hosts.take 12⟩
structure FewL (l : LanT) : Prop where
 plans : l.Plans.length ≤ 8
 ports : ∀ p ∈ l.Plans, p.Ports.length ≤ 10
 hosts : l.Hosts.length ≤ 12
theorem fewL_few (l : LanT) : FewL (fewL l) where
 plans := by show (List.map _ _).length ≤ 8; rw [List.length_map, List.length_take]; omega
 ports p hp := by
  obtain ⟨q, _, rfl⟩ := List.mem_map.1 hp
  show (q.Ports.take 10).length ≤ 10
  rw [List.length_take]; omega
 hosts := by show (l.Hosts.take 12).length ≤ 12; rw [List.length_take]; omega
theorem in_eq (n a b : Int) : lan_in n a b = some (decide (a ≤ n ∧ n ≤ b)) := by
 unfold lan_in
 by_cases h : a ≤ n <;> simp [h]
def Uni (a : Int) : Prop := 0 ≤ a ∧ a < 281474976710656 ∧ a / 16 ≠ 103282638848 ∧ a / 1099511627776 % 2 = 0
instance (a : Int) : Decidable (Uni a) := by unfold Uni; infer_instance
theorem macRight_eq (a : Int) : mac_Right a = some (decide (0 ≤ a ∧ a < 281474976710656)) := by
 unfold mac_Right
 by_cases h : 0 ≤ a
 ·by_cases h2 : a < 281474976710656
  ·have : a ≤ 281474976710655 := by omega
   simp [h, h2, this]
  ·have : ¬ a ≤ 281474976710655 := by omega
   simp [h, h2, this]
 ·simp [h]
def classN (a : Int) : Int := if a / 16 = 103282638848 then 2 else a / 1099511627776 % 2
theorem macClass_eq (a : Int) : mac_Class a = some (if 0 ≤ a ∧ a < 281474976710656 then (classN a, 0) else (0, 1)) := by
 unfold mac_Class
 rw [macRight_eq, Option.bind_some]
 by_cases h : 0 ≤ a ∧ a < 281474976710656
 ·rw [decide_eq_true h, if_pos h, bit_andNot15 h.1 h.2, bit_and1 h.1 h.2]
  unfold classN
  by_cases h2 : a / 16 = 103282638848
  ·simp [h2]
  ·have : ¬ a / 16 * 16 = 1652522221568 := by omega
   simp [h2, this]
 ·rw [decide_eq_false h, if_neg h]; rfl
theorem uni_iff (a : Int) : Uni a ↔ (0 ≤ a ∧ a < 281474976710656) ∧ classN a = 0 := by
 unfold Uni classN
 split <;> omega
def LinkOk (n : Int) (x : LinkT) : Prop := (0 ≤ x.Seg ∧ x.Seg < n) ∧ 1 ≤ x.Cost ∧ x.Cost ≤ 1000
instance (n : Int) (x : LinkT) : Decidable (LinkOk n x) := by unfold LinkOk; infer_instance
def PlanOk (n : Int) (p : PlanT) : Prop := (0 ≤ p.ID ∧ p.ID ≤ 65535) ∧ (1 ≤ p.Ports.length ∧ p.Ports.length ≤ 8) ∧ ∀ x ∈ p.Ports, LinkOk n x
instance (n : Int) (p : PlanT) : Decidable (PlanOk n p) := by unfold PlanOk; infer_instance
def HostOk (n : Int) (h : HostT) : Prop := Uni h.Mac ∧ 0 ≤ h.Seg ∧ h.Seg < n
instance (n : Int) (h : HostT) : Decidable (HostOk n h) := by unfold HostOk; infer_instance
structure LR (l : LanT) : Prop where
 segs : 1 ≤ l.Segs ∧ l.Segs ≤ 8
 plans : l.Plans.length ≤ 6
 hosts : l.Hosts.length ≤ 8
 ids : (l.Plans.map (·.ID)).Nodup
 macs : (l.Hosts.map (·.Mac)).Nodup
 plan : ∀ p ∈ l.Plans, PlanOk l.Segs p
 host : ∀ h ∈ l.Hosts, HostOk l.Segs h
theorem LR.iff (l : LanT) : LR l ↔ ((1 ≤ l.Segs ∧ l.Segs ≤ 8) ∧ l.Plans.length ≤ 6 ∧ l.Hosts.length ≤ 8) ∧ ((l.Plans.map (·.ID)).Nodup ∧ ∀ p ∈ l.Plans, PlanOk l.Segs p) ∧ (l.Hosts.map (·.Mac)).Nodup ∧ ∀ h ∈ l.Hosts, HostOk l.Segs h :=
 ⟨fun h => ⟨⟨h.segs, h.plans, h.hosts⟩, ⟨h.ids, h.plan⟩, h.macs, h.host⟩, fun h => ⟨h.1.1, h.1.2.1, h.1.2.2, h.2.1.1, h.2.2.1, h.2.1.2, h.2.2.2⟩⟩
instance (l : LanT) : Decidable (LR l) := decidable_of_iff _ (LR.iff l).symm
theorem w64_pred {n : Int} (h1 : -1000 ≤ n) (h2 : n ≤ 1000000) : IntKind.i64.wrap (n - 1) = n - 1 := w64_in (by omega) (by omega)
theorem w64_succ {n : Int} (h1 : -1000 ≤ n) (h2 : n ≤ 1000000) : IntKind.i64.wrap (n + 1) = n + 1 := w64_in (by omega) (by omega)
theorem isPlan1_eq (x : LinkT) (n : Int) (h1 : -1000 ≤ n) (h2 : n ≤ 1000000) : lan_isPlan_1 x n = some (decide (¬ LinkOk n x)) := by
 unfold lan_isPlan_1
 rw [in_eq, in_eq, Option.bind_some, gd_some, Option.bind_some, w64_pred h1 h2]
 congr 1
 unfold LinkOk
 by_cases h : 0 ≤ x.Seg ∧ x.Seg ≤ n - 1
 ·have h' : 0 ≤ x.Seg ∧ x.Seg < n := by omega
  by_cases k : 1 ≤ x.Cost ∧ x.Cost ≤ 1000 <;> simp [h, h', k]
 ·have h' : ¬ (0 ≤ x.Seg ∧ x.Seg < n) := by omega
  simp [h, h']
theorem containsLink_eq (l : List LinkT) (q : LinkT → Option Bool) (p : LinkT → Bool) (hl : l.length ≤ 1000000) (hq : ∀ x ∈ l, q x = some (p x)) : slices_ContainsFunc_Link l q = some (l.any p) := by
 unfold slices_ContainsFunc_Link slices_IndexFunc_Link
 rcases rangeL_find (s0 := ()) (body := slices_IndexFunc_Link_c0 q) hl (fun _ x => p x) (fun k _ => ((k : Nat) : Int)) (fun k x hx => by
  unfold slices_IndexFunc_Link_c0
  rw [hq x (List.mem_of_getElem? hx), Option.bind_some]; cases p x <;> rfl) with ⟨k, x, hx, hp, _, h⟩ | ⟨hp, h⟩
 ·rw [h, aft_some_ret, Option.bind_some, show l.any p = true from List.any_eq_true.2 ⟨x, List.mem_of_getElem? hx, hp⟩, decide_eq_true (Int.natCast_nonneg k)]
 ·rw [h, aft_some_nxt, Option.bind_some, show l.any p = false from List.any_eq_false.2 fun x hx => by obtain ⟨k, hk⟩ := List.getElem?_of_mem hx; simp [hp k x hk]]
  rfl
theorem isPlan_eq (p : PlanT) (n : Int) (h1 : -1000 ≤ n) (h2 : n ≤ 1000000) (hp : p.Ports.length ≤ 1000000) : lan_isPlan p n = some (decide (PlanOk n p)) := by
 unfold lan_isPlan
 rw [in_eq, in_eq, Option.bind_some, gd_some, Option.bind_some, containsLink_eq _ _ (fun x => decide (¬ LinkOk n x)) hp (fun x _ => isPlan1_eq x n h1 h2), Option.bind_some]
 by_cases h : 0 ≤ p.ID ∧ p.ID ≤ 65535
 ·by_cases k : 1 ≤ ((p.Ports.length : Nat) : Int) ∧ ((p.Ports.length : Nat) : Int) ≤ 8
  ·have k' : 1 ≤ p.Ports.length ∧ p.Ports.length ≤ 8 := by omega
   simp only [h, k, and_self, decide_true, cond_true]
   congr 1
   rw [Bool.eq_iff_iff]
   simp [PlanOk, h, k']
  ·have k' : ¬ (1 ≤ p.Ports.length ∧ p.Ports.length ≤ 8) := by omega
   have : ¬ PlanOk n p := fun hh => k' hh.2.1
   simp [h, k, this]
 ·have : ¬ PlanOk n p := fun hh => h hh.1
  simp [h, this]
theorem cnt_loop {α : Type} {body : Nat → α → List (Int × Int) → Option (Step Bool (List (Int × Int)))} {xs : List α} (hl : xs.length ≤ 1000000) (key : α → Int) (ok : α → Prop) [DecidablePred ok]
  (hs : ∀ k x m, xs[k]? = some x → 0 ≤ mget m (key x) 0 → mget m (key x) 0 ≤ 1000000 → body k x m = some (bif decide (0 < mget m (key x) 0 ∨ ¬ ok x) then .ret false else .nxt (mput m (key x) (mget m (key x) 0 + 1)))) :
  (((xs.map key).Nodup ∧ ∀ x ∈ xs, ok x) ∧ ∃ s, rangeL body xs [] = some (.nxt s)) ∨ (¬ ((xs.map key).Nodup ∧ ∀ x ∈ xs, ok x) ∧ rangeL body xs [] = some (.ret false)) := by
 obtain ⟨o, h1, h2⟩ := rangeL_rec (s0 := []) (body := body) hl
  (fun k m => (((xs.take k).map key).Nodup ∧ ∀ x ∈ xs.take k, ok x) ∧ ∀ z, mget m z 0 = if z ∈ (xs.take k).map key then 1 else 0)
  (fun r => r = false ∧ ¬ ((xs.map key).Nodup ∧ ∀ x ∈ xs, ok x)) (fun _ => False) (by simp [mget_nil]) (fun k x m hx ⟨⟨i1, i2⟩, i3⟩ => by
   have ht : xs.take (k + 1) = xs.take k ++ [x] := by rw [List.take_add_one, hx]; rfl
   have hr : mget m (key x) 0 = 0 ∨ mget m (key x) 0 = 1 := by rw [i3]; split <;> simp
   refine ⟨_, hs k x m hx (by omega) (by omega), ?_⟩
   by_cases hb : 0 < mget m (key x) 0 ∨ ¬ ok x
   ·rw [decide_eq_true hb]
    refine ⟨rfl, fun ⟨n1, n2⟩ => ?_⟩
    rcases hb with hb | hb
    ·have hmem : key x ∈ (xs.take k).map key := by
      rw [i3] at hb; split at hb
      ·assumption
      ·omega
     have : (xs.take (k + 1)).Sublist xs := List.take_sublist _ _
     have := (this.map key).nodup n1
     rw [ht, List.map_append, List.nodup_append] at this
     exact this.2.2 _ hmem _ (by simp) rfl
    ·exact hb (n2 x (List.mem_of_getElem? hx))
   ·rw [decide_eq_false hb]
    have hb1 : mget m (key x) 0 = 0 := by omega
    have hb2 : ok x := Classical.not_not.1 fun h => hb (.inr h)
    have hn : key x ∉ (xs.take k).map key := fun h => by rw [i3, if_pos h] at hb1; omega
    refine ⟨⟨?_, ?_⟩, fun z => ?_⟩
    ·rw [ht, List.map_append, List.nodup_append]
     exact ⟨i1, by simp, fun a ha b hb => by simp at hb; subst hb; exact fun e => hn (e ▸ ha)⟩
    ·rw [ht]; intro y hy
     rcases List.mem_append.1 hy with hy | hy
     ·exact i2 y hy
     ·simp at hy; subst hy; exact hb2
    ·rw [ht, List.map_append]
     by_cases e : key x = z
     ·subst e; rw [mget_mput, hb1, if_pos (by simp)]; rfl
     ·rw [mget_mput_ne e, i3]
      have : z ∈ List.map key (List.take k xs) ++ List.map key [x] ↔ z ∈ List.map key (List.take k xs) := by simp [Ne.symm e]
      simp only [this])
 cases o with
 | ret r => obtain ⟨rfl, h3⟩ := h2; exact .inr ⟨h3, h1⟩
 | brk s => exact h2.elim
 | nxt s =>
  have := h2.resolve_right id
  rw [List.take_length] at this
  exact .inl ⟨this.1, s, h1⟩
theorem LanRight_eq (l : LanT) (hf : FewL l) : lan_Right l = some (decide (LR l)) := by
 unfold lan_Right
 rw [in_eq, Option.bind_some]
 by_cases h : (1 ≤ l.Segs ∧ l.Segs ≤ 8) ∧ l.Plans.length ≤ 6 ∧ l.Hosts.length ≤ 8
 ·have a1 : ¬ (6 < ((l.Plans.length : Nat) : Int)) := by omega
  have a2 : ¬ (8 < ((l.Hosts.length : Nat) : Int)) := by omega
  rw [decide_eq_true h.1, decide_eq_false a1, decide_eq_false a2]
  simp only [Bool.not_true, cond_false]
  rcases cnt_loop (body := lan_Right_c0 l) (xs := l.Plans) (by omega) (fun p => p.ID) (PlanOk l.Segs) (fun k x m hx m1 m2 => by
   have hx := List.mem_of_getElem? hx
   unfold lan_Right_c0
   simp only [w64_succ (n := mget m x.ID 0) (by omega) (by omega), isPlan_eq x l.Segs (by omega) (by omega) (by have := hf.ports x hx; omega), gd_some, Option.bind_some]
   by_cases hb : 0 < mget m x.ID 0
   ·have : 1 < mget m x.ID 0 + 1 := by omega
    simp [hb, this]
   ·have : ¬ 1 < mget m x.ID 0 + 1 := by omega
    by_cases hp : PlanOk l.Segs x <;> simp [hb, this, hp]) with ⟨b1, s, b2⟩ | ⟨b1, b2⟩
  ·rw [b2, aft_some_nxt]
   rcases cnt_loop (body := lan_Right_c1 l) (xs := l.Hosts) (by omega) (fun p => p.Mac) (HostOk l.Segs) (fun k x m hx m1 m2 => by
    have hx := List.mem_of_getElem? hx
    unfold lan_Right_c1
    simp only [w64_succ (n := mget m x.Mac 0) (by omega) (by omega), w64_pred (n := l.Segs) (by omega) (by omega), macClass_eq, in_eq, gd_some, Option.bind_some]
    by_cases hb : 0 < mget m x.Mac 0
    ·have : 1 < mget m x.Mac 0 + 1 := by omega
     simp [hb, this]
    ·have hb' : ¬ 1 < mget m x.Mac 0 + 1 := by omega
     by_cases hr : 0 ≤ x.Mac ∧ x.Mac < 281474976710656
     ·by_cases hc : classN x.Mac = 0
      ·have hu : Uni x.Mac := (uni_iff _).2 ⟨hr, hc⟩
       by_cases hs : 0 ≤ x.Seg ∧ x.Seg ≤ l.Segs - 1
       ·have : HostOk l.Segs x := ⟨hu, by omega, by omega⟩
        simp [hb, hb', hr, hc, hs, this]
       ·have : ¬ HostOk l.Segs x := fun hh => hs ⟨hh.2.1, by have := hh.2.2; omega⟩
        simp [hb, hb', hr, hc, hs, this]
      ·have : ¬ HostOk l.Segs x := fun hh => hc ((uni_iff _).1 hh.1).2
       simp [hb, hb', hr, hc, this]
     ·have : ¬ HostOk l.Segs x := fun hh => hr ((uni_iff _).1 hh.1).1
      simp [hb, hb', hr, this]) with ⟨c1, s', c2⟩ | ⟨c1, c2⟩
   ·rw [c2, aft_some_nxt, decide_eq_true ((LR.iff l).2 ⟨h, b1, c1⟩)]
   ·rw [c2, aft_some_ret, decide_eq_false (fun hh => c1 ((LR.iff l).1 hh).2.2)]
  ·rw [b2, aft_some_ret, decide_eq_false (fun hh => b1 ((LR.iff l).1 hh).2.1)]
 ·rw [decide_eq_false (fun hh => h ((LR.iff l).1 hh).1)]
  by_cases h1 : 1 ≤ l.Segs ∧ l.Segs ≤ 8
  ·by_cases h2 : l.Plans.length ≤ 6
   ·have : 8 < ((l.Hosts.length : Nat) : Int) := by omega
    simp [h1, this]
   ·have : 6 < ((l.Plans.length : Nat) : Int) := by omega
    simp [h1, this]
  ·simp [h1]
end
section
abbrev Wt := Int × Int
def wle (a b : Wt) : Prop := a.1 < b.1 ∨ (a.1 = b.1 ∧ a.2 ≤ b.2)
instance (a b : Wt) : Decidable (wle a b) := by unfold wle; infer_instance
def wad (w : Wt) (c : Int) : Wt := (w.1, w.2 + c)
theorem wle.refl (a : Wt) : wle a a := .inr ⟨rfl, Int.le_refl _⟩
theorem wle.trans {a b c : Wt} (h : wle a b) (k : wle b c) : wle a c := by unfold wle at *; omega
theorem wle.anti {a b : Wt} (h : wle a b) (k : wle b a) : a = b := by unfold wle at *; exact Prod.ext (by omega) (by omega)
theorem wle.add {a b : Wt} (c : Int) (h : wle a b) : wle (wad a c) (wad b c) := by unfold wle wad at *; dsimp only; omega
theorem wle.up {a b : Wt} {c : Int} (hc : 0 ≤ c) (h : wle a b) : wle a (wad b c) := by unfold wle wad at *; dsimp only; omega
theorem wle.total (a b : Wt) : wle a b ∨ wle b a := by unfold wle; omega
theorem wle.not {a b : Wt} (h : ¬ wle a b) : wle b a := (wle.total a b).resolve_left h
inductive PW (id : Nat → Int) (Ed : Nat → Nat → Int → Prop) : Nat → Nat → Wt → Prop
 | base (j b) : PW id Ed j b (id b, 0)
 | step {j k b w c} : PW id Ed j k w → Ed k b c → PW id Ed (j + 1) b (wad w c)
theorem PW.mono {id : Nat → Int} {Ed : Nat → Nat → Int → Prop} {j b : Nat} {w : Wt} (h : PW id Ed j b w) : ∀ {i}, j ≤ i → PW id Ed i b w := by
 induction h with
 | base j b => intro i _; exact .base _ _
 | step h e ih =>
  intro i hi
  obtain ⟨i, rfl⟩ : ∃ q, i = q + 1 := ⟨i - 1, by omega⟩
  exact .step (ih (by omega)) e
def Bst (id : Nat → Int) (Ed : Nat → Nat → Int → Prop) (n b : Nat) (w : Wt) : Prop := PW id Ed n b w ∧ ∀ j v, PW id Ed j b v → wle w v
theorem Bst.uniq {id : Nat → Int} {Ed : Nat → Nat → Int → Prop} {n m b : Nat} {w v : Wt} (h : Bst id Ed n b w) (k : PW id Ed m b v) (h2 : ∀ u, PW id Ed n b u → wle v u) : w = v := wle.anti (h.2 _ _ k) (h2 _ h.1)
structure DI (id : Nat → Int) (Ed : Nat → Nat → Int → Prop) (n m : Nat) (H : List (Wt × Nat)) (D : Nat → Option Wt) : Prop where
 bd : ∀ e ∈ H, e.2 < n
 bdD : ∀ b w, D b = some w → b < n
 ini : ∀ b, b < n → D b = none → ((id b, 0), b) ∈ H
 ini2 : ∀ b w, D b = some w → wle w (id b, 0)
 rel : ∀ b k c w, D b = some w → Ed b k c → (∃ v, D k = some v ∧ wle v (wad w c)) ∨ ((wad w c, k) ∈ H ∧ D k = none)
 mon : ∀ e ∈ H, ∀ b w, D b = some w → wle w e.1
 pd : ∀ b w, D b = some w → ∃ j, j + 1 ≤ m ∧ PW id Ed j b w
 ph : ∀ e ∈ H, PW id Ed m e.2 e.1
 cnt : (List.range n).countP (fun b => (D b).isSome) = m
def upD (D : Nat → Option Wt) (b : Nat) (w : Wt) : Nat → Option Wt := fun k => if k = b then some w else D k
theorem countP_upd {D : Nat → Option Wt} {b : Nat} {w : Wt} (h : D b = none) : ∀ n, (List.range n).countP (fun k => (upD D b w k).isSome) = (List.range n).countP (fun k => (D k).isSome) + (if b < n then 1 else 0)
 | 0 => rfl
 | n + 1 => by
  rw [List.range_succ, List.countP_append, List.countP_append, countP_upd h n]
  by_cases hb : b = n
  ·subst hb
   simp [upD, h]
  ·have h1 : upD D b w n = D n := if_neg (Ne.symm hb)
   simp only [List.countP_cons, List.countP_nil, h1]
   have h2 : (if b < n then 1 else 0) = (if b < n + 1 then 1 else 0 : Nat) := by
    by_cases h3 : b < n
    ·rw [if_pos h3, if_pos (by omega)]
    ·rw [if_neg h3, if_neg (by omega)]
   rw [h2]; omega
theorem DI.start {id : Nat → Int} {Ed : Nat → Nat → Int → Prop} {n : Nat} {H : List (Wt × Nat)} (h1 : ∀ e ∈ H, e.2 < n ∧ e.1 = (id e.2, 0)) (h2 : ∀ b, b < n → ((id b, 0), b) ∈ H) : DI id Ed n 0 H (fun _ => none) where
 bd := fun e he => (h1 e he).1
 bdD := fun b w h => by cases h
 ini := fun b hb _ => h2 b hb
 ini2 := fun b w h => by cases h
 rel := fun b k c w h => by cases h
 mon := fun e he b w h => by cases h
 pd := fun b w h => by cases h
 ph := fun e he => by rw [(h1 e he).2]; exact .base _ _
 cnt := by simp
theorem DI.skip {id : Nat → Int} {Ed : Nat → Nat → Int → Prop} {n m : Nat} {H H' : List (Wt × Nat)} {D : Nat → Option Wt} {e : Wt × Nat} (h : DI id Ed n m H D) (hp : H.Perm (e :: H')) {w : Wt} (hd : D e.2 = some w) : DI id Ed n m H' D := by
 have hin : ∀ x ∈ H', x ∈ H := fun x hx => hp.mem_iff.2 (List.mem_cons_of_mem _ hx)
 have hout : ∀ x ∈ H, x ≠ e → x ∈ H' := fun x hx hne => (List.mem_cons.1 (hp.mem_iff.1 hx)).resolve_left hne
 exact {
  bd := fun x hx => h.bd x (hin x hx)
  bdD := h.bdD
  ini := fun b hb hn => hout _ (h.ini b hb hn) (fun hE => by rw [← hE] at hd; rw [hn] at hd; cases hd)
  ini2 := h.ini2
  rel := fun b k c v hv he => (h.rel b k c v hv he).elim .inl fun hr => .inr ⟨hout _ hr.1 (fun hE => by rw [← hE] at hd; rw [hr.2] at hd; cases hd), hr.2⟩
  mon := fun x hx => h.mon x (hin x hx)
  pd := h.pd
  ph := fun x hx => h.ph x (hin x hx)
  cnt := h.cnt }
theorem DI.take {id : Nat → Int} {Ed : Nat → Nat → Int → Prop} {n m : Nat} {H H' H2 : List (Wt × Nat)} {D : Nat → Option Wt} {e : Wt × Nat} (hc : ∀ b k c, Ed b k c → 0 ≤ c ∧ k < n) (h : DI id Ed n m H D) (hp : H.Perm (e :: H'))
  (hmin : ∀ x ∈ H, wle e.1 x.1) (hd : D e.2 = none) (a1 : ∀ x ∈ H2, x ∈ H' ∨ ∃ c, Ed e.2 x.2 c ∧ x.1 = wad e.1 c) (a2 : ∀ x ∈ H', x ∈ H2)
  (a3 : ∀ k c, Ed e.2 k c → upD D e.2 e.1 k = none → (wad e.1 c, k) ∈ H2) : DI id Ed n (m + 1) H2 (upD D e.2 e.1) := by
 have hin : ∀ x ∈ H', x ∈ H := fun x hx => hp.mem_iff.2 (List.mem_cons_of_mem _ hx)
 have hout : ∀ x ∈ H, x ≠ e → x ∈ H' := fun x hx hne => (List.mem_cons.1 (hp.mem_iff.1 hx)).resolve_left hne
 have he : e ∈ H := hp.mem_iff.2 (List.mem_cons_self ..)
 have hU : ∀ b w, upD D e.2 e.1 b = some w → (b = e.2 ∧ w = e.1) ∨ (b ≠ e.2 ∧ D b = some w) := fun b w hb => by
  by_cases hbe : b = e.2
  ·rw [upD, if_pos hbe] at hb; exact .inl ⟨hbe, (Option.some.inj hb).symm⟩
  ·rw [upD, if_neg hbe] at hb; exact .inr ⟨hbe, hb⟩
 have hN : ∀ b, upD D e.2 e.1 b = none → b ≠ e.2 ∧ D b = none := fun b hb => by
  by_cases hbe : b = e.2
  ·rw [upD, if_pos hbe] at hb; cases hb
  ·rw [upD, if_neg hbe] at hb; exact ⟨hbe, hb⟩
 have hO : ∀ b w, D b = some w → upD D e.2 e.1 b = some w := fun b w hb => by
  have : b ≠ e.2 := fun hE => by rw [hE, hd] at hb; cases hb
  rw [upD, if_neg this]; exact hb
 exact {
  bd := fun x hx => (a1 x hx).elim (fun k => h.bd x (hin x k)) fun ⟨c, k, _⟩ => (hc _ _ _ k).2
  bdD := fun b w hb => (hU b w hb).elim (fun k => by rw [k.1]; exact h.bd e he) fun k => h.bdD b w k.2
  ini := fun b hb hn => by
   obtain ⟨q1, q2⟩ := hN b hn
   exact a2 _ (hout _ (h.ini b hb q2) (fun hE => q1 (by rw [← hE])))
  ini2 := fun b w hb => (hU b w hb).elim (fun k => by
   rw [k.1, k.2]; exact hmin _ (h.ini _ (h.bd e he) hd)) fun k => h.ini2 b w k.2
  rel := fun b k c w hb hE => by
   rcases hU b w hb with ⟨q1, q2⟩ | ⟨q1, q2⟩
   ·rw [q1] at hE; rw [q2]
    cases hk : upD D e.2 e.1 k with
    | none => exact .inr ⟨a3 k c hE hk, rfl⟩
    | some v =>
     refine .inl ⟨v, rfl, wle.up (hc _ _ _ hE).1 ?_⟩
     rcases hU k v hk with ⟨r1, r2⟩ | ⟨r1, r2⟩
     ·rw [r2]; exact wle.refl _
     ·exact h.mon e he k v r2
   ·rcases h.rel b k c w q2 hE with ⟨v, r1, r2⟩ | ⟨r1, r2⟩
    ·exact .inl ⟨v, hO k v r1, r2⟩
    ·by_cases hk : k = e.2
     ·exact .inl ⟨e.1, by rw [upD, if_pos hk], hmin _ r1⟩
     ·exact .inr ⟨a2 _ (hout _ r1 (fun hE => hk (by rw [← hE]))), by rw [upD, if_neg hk]; exact r2⟩
  mon := fun x hx b w hb => by
   have hle : wle w e.1 := (hU b w hb).elim (fun k => by rw [k.2]; exact wle.refl _) fun k => h.mon e he b w k.2
   rcases a1 x hx with k | ⟨c, k, k2⟩
   ·exact hle.trans (hmin x (hin x k))
   ·rw [k2]; exact wle.up (hc _ _ _ k).1 hle
  pd := fun b w hb => (hU b w hb).elim (fun k => ⟨m, Nat.le_refl _, by rw [k.1, k.2]; exact h.ph e he⟩) fun k => by
   obtain ⟨j, hj, hw⟩ := h.pd b w k.2
   exact ⟨j, by omega, hw⟩
  ph := fun x hx => by
   rcases a1 x hx with k | ⟨c, k, k2⟩
   ·exact (h.ph x (hin x k)).mono (by omega)
   ·rw [k2]; exact .step (h.ph e he) k
  cnt := by rw [countP_upd hd n, h.cnt, if_pos (h.bd e he)] }
theorem DI.fin {id : Nat → Int} {Ed : Nat → Nat → Int → Prop} {n m : Nat} {D : Nat → Option Wt} (hc : ∀ b k c, Ed b k c → b < n ∧ k < n) (h : DI id Ed n m [] D) {b : Nat} (hb : b < n) : ∃ w, D b = some w ∧ PW id Ed (n - 1) b w ∧ ∀ j v, PW id Ed j b v → wle w v := by
 have all : ∀ b, b < n → ∃ w, D b = some w := fun b hb => by
  cases hd : D b with
  | none => exact absurd (h.ini b hb hd) (List.not_mem_nil)
  | some w => exact ⟨w, rfl⟩
 have hm : m ≤ n := by
  have := List.countP_le_length (p := fun b => (D b).isSome) (l := List.range n)
  rw [h.cnt, List.length_range] at this; exact this
 have least : ∀ j b v, PW id Ed j b v → ∀ w, D b = some w → wle w v := by
  intro j b v hp
  induction hp with
  | base j b => intro w hw; exact h.ini2 b w hw
  | step hp e ih =>
   rename_i j k b w c
   intro u hu
   obtain ⟨y, hy⟩ := all k (hc _ _ _ e).1
   rcases h.rel k b c y hy e with ⟨v, r1, r2⟩ | ⟨r1, _⟩
   ·rw [hu] at r1; cases r1
    exact r2.trans (wle.add c (ih y hy))
   ·exact absurd r1 (List.not_mem_nil)
 obtain ⟨w, hw⟩ := all b hb
 obtain ⟨j, hj, hp⟩ := h.pd b w hw
 exact ⟨w, hw, hp.mono (by omega), fun j v hv => least j b v hv w hw⟩
theorem rounds {id : Nat → Int} {Ed : Nat → Nat → Int → Prop} {B : Nat → Nat → Wt} {N n : Nat} (h0 : ∀ b, b < n → B 0 b = (id b, 0)) (hc : ∀ b k c, Ed b k c → b < n ∧ k < n)
  (hs : ∀ j b, j < N → b < n → (B (j + 1) b = B j b ∨ ∃ k c, Ed k b c ∧ B (j + 1) b = wad (B j k) c) ∧ wle (B (j + 1) b) (B j b) ∧ ∀ k c, Ed k b c → wle (B (j + 1) b) (wad (B j k) c)) :
  ∀ j, j ≤ N → ∀ b, b < n → PW id Ed j b (B j b) ∧ ∀ v, PW id Ed j b v → wle (B j b) v
 | 0, _, b, hb => by
  rw [h0 b hb]
  exact ⟨.base _ _, fun v hv => by cases hv; exact wle.refl _⟩
 | j + 1, hj, b, hb => by
  obtain ⟨e1, e2, e3⟩ := hs j b (by omega) hb
  refine ⟨?_, fun v hv => ?_⟩
  ·rcases e1 with e | ⟨k, c, q, e⟩
   ·rw [e]; exact (rounds h0 hc hs j (by omega) b hb).1.mono (by omega)
   ·rw [e]; exact .step (rounds h0 hc hs j (by omega) k (hc _ _ _ q).1).1 q
  ·cases hv with
   | base => exact e2.trans ((rounds h0 hc hs j (by omega) b hb).2 _ (.base _ _))
   | step p q => exact (e3 _ _ q).trans (wle.add _ ((rounds h0 hc hs j (by omega) _ (hc _ _ _ q).1).2 _ p))
end
section
set_option maxHeartbeats 1000000
def wk (w : tree_wayT) : Wt := (w.best.c0, w.best.c1)
def HP (f : Nat → Wt) (n : Nat) : Prop := ∀ i, 0 < i → i < n → wle (f ((i - 1) / 2)) (f i)
theorem HP.min {f : Nat → Wt} {n : Nat} (h : HP f n) : ∀ i, i < n → wle (f 0) (f i) := by
 intro i
 induction i using Nat.strongRecOn with
 | ind i ih =>
  intro hi
  by_cases h0 : i = 0
  ·rw [h0]; exact wle.refl _
  ·exact (ih ((i - 1) / 2) (by omega) (by omega)).trans (h i (by omega) hi)
def sw (f : Nat → Wt) (i j : Nat) : Nat → Wt := fun k => if k = j then f i else if k = i then f j else f k
theorem sw_j {f : Nat → Wt} {i j : Nat} : sw f i j j = f i := if_pos rfl
theorem sw_i {f : Nat → Wt} {i j : Nat} : sw f i j i = f j := by
 unfold sw
 by_cases h : i = j
 ·rw [if_pos h, h]
 ·rw [if_neg h, if_pos rfl]
theorem sw_o {f : Nat → Wt} {i j k : Nat} (h1 : k ≠ i) (h2 : k ≠ j) : sw f i j k = f k := by unfold sw; rw [if_neg h2, if_neg h1]
def UP (f : Nat → Wt) (n j : Nat) : Prop := (∀ i, 0 < i → i < n → i ≠ j → wle (f ((i - 1) / 2)) (f i)) ∧ (∀ c, 0 < c → c < n → (c - 1) / 2 = j → 0 < j → wle (f ((j - 1) / 2)) (f c))
theorem UP.start {f : Nat → Wt} {n : Nat} (h : HP f n) : UP f (n + 1) n := ⟨fun i h0 h1 h2 => h i h0 (by omega), fun c h0 h1 h2 h3 => by omega⟩
theorem UP.fin {f : Nat → Wt} {n j : Nat} (h : UP f n j) (hj : j = 0 ∨ wle (f ((j - 1) / 2)) (f j)) : HP f n := fun i h0 h1 => by
 by_cases hi : i = j
 ·subst hi; exact hj.resolve_left (by omega)
 ·exact h.1 i h0 h1 hi
theorem UP.step {f : Nat → Wt} {n j : Nat} (h : UP f n j) (h0 : 0 < j) (hn : j < n) (hl : wle (f j) (f ((j - 1) / 2))) : UP (sw f ((j - 1) / 2) j) n ((j - 1) / 2) := by
 generalize hp : (j - 1) / 2 = p at *
 have hpj : p < j := by omega
 refine ⟨fun i i0 i1 i2 => ?_, fun c c0 c1 c2 c3 => ?_⟩
 ·by_cases hi : i = j
  ·subst hi; rw [hp, sw_i, sw_j]; exact hl
  ·rw [sw_o (k := i) i2 hi]
   by_cases hq : (i - 1) / 2 = j
   ·rw [hq, sw_j]; have := h.2 i i0 i1 hq h0; rw [hp] at this; exact this
   ·by_cases hq2 : (i - 1) / 2 = p
    ·rw [hq2, sw_i]; have := h.1 i i0 i1 hi; rw [hq2] at this; exact hl.trans this
    ·rw [sw_o hq2 hq]; exact h.1 i i0 i1 hi
 ·have hg : wle (f ((p - 1) / 2)) (f p) := h.1 p c3 (by omega) (by omega)
  rw [sw_o (k := (p - 1) / 2) (by omega) (by omega)]
  by_cases hc : c = j
  ·rw [hc, sw_j]; exact hg
  ·rw [sw_o (by omega) hc]
   have := h.1 c c0 c1 hc
   rw [c2] at this
   exact hg.trans this
def DN (f : Nat → Wt) (n i : Nat) : Prop := (∀ k, 0 < k → k < n → (k - 1) / 2 ≠ i → wle (f ((k - 1) / 2)) (f k)) ∧ (∀ c, 0 < c → c < n → (c - 1) / 2 = i → 0 < i → wle (f ((i - 1) / 2)) (f c))
theorem DN.fin {f : Nat → Wt} {n i : Nat} (h : DN f n i) (hc : ∀ c, 0 < c → c < n → (c - 1) / 2 = i → wle (f i) (f c)) : HP f n := fun k h0 h1 => by
 by_cases hk : (k - 1) / 2 = i
 ·rw [hk]; exact hc k h0 h1 hk
 ·exact h.1 k h0 h1 hk
theorem DN.step {f : Nat → Wt} {n i j : Nat} (h : DN f n i) (h0 : 0 < j) (hj : j < n) (hp : (j - 1) / 2 = i) (hl : wle (f j) (f i)) (hs : ∀ c, 0 < c → c < n → (c - 1) / 2 = i → wle (f j) (f c)) : DN (sw f i j) n j := by
 have hij : i < j := by omega
 refine ⟨fun k k0 k1 k2 => ?_, fun c c0 c1 c2 c3 => ?_⟩
 ·by_cases hq : (k - 1) / 2 = i
  ·rw [hq, sw_i]
   by_cases hk : k = j
   ·rw [hk, sw_j]; exact hl
   ·rw [sw_o (by omega) hk]; exact hs k k0 k1 hq
  ·rw [sw_o hq k2]
   by_cases hk : k = i
   ·rw [hk, sw_i]
    have := h.2 j h0 hj hp (by omega)
    exact this
   ·rw [sw_o hk (by intro e; rw [e] at hq; exact hq hp)]; exact h.1 k k0 k1 hq
 ·rw [hp, sw_i, sw_o (by omega) (by omega)]
  have := h.1 c c0 c1 (by omega)
  rw [c2] at this; exact this
def ky (l : List tree_wayT) (i : Nat) : Wt := (l[i]?).elim (0, 0) wk
def swp (l : List tree_wayT) (i j : Nat) : List tree_wayT := match l[i]?, l[j]? with
 | some x, some y => (l.set i y).set j x
 | _, _ => l
theorem swp_ok {l : List tree_wayT} {i j : Nat} (hi : i < l.length) (hj : j < l.length) : swp l i j = (l.set i l[j]).set j l[i] := by
 unfold swp; rw [List.getElem?_eq_getElem hi, List.getElem?_eq_getElem hj]
theorem swp_perm {l : List tree_wayT} {i j : Nat} (hi : i < l.length) (hj : j < l.length) : (swp l i j).Perm l := by
 rw [swp_ok hi hj]; exact List.set_set_perm hi hj
theorem swp_len {l : List tree_wayT} {i j : Nat} : (swp l i j).length = l.length := by
 unfold swp; split <;> simp
theorem swp_ky {l : List tree_wayT} {i j : Nat} (hi : i < l.length) (hj : j < l.length) : ky (swp l i j) = sw (ky l) i j := by
 funext k
 rw [swp_ok hi hj]
 unfold ky sw
 rw [List.getElem?_set, List.getElem?_set]
 by_cases h1 : j = k
 ·subst h1; simp [hj, hi]
 ·rw [if_neg h1, if_neg (Ne.symm h1)]
  by_cases h2 : i = k
  ·subst h2; simp [hj, hi]
  ·rw [if_neg h2, if_neg (Ne.symm h2)]
theorem less_eq (a b : tree_bestT) : _tree_best_less a b = some (decide (¬ wle (b.c0, b.c1) (a.c0, a.c1))) := by
 unfold _tree_best_less wle
 congr 1
 simp only [cond_eq_ite, decide_eq_true_eq, Bool.if_true_left, Bool.if_false_right, Bool.decide_or, Bool.decide_and]
 rw [Bool.eq_iff_iff]
 simp only [Bool.or_eq_true, Bool.and_eq_true, decide_eq_true_eq, Bool.decide_eq_true]
 omega
theorem gixN_of {α : Type} {l : List α} {k : Nat} (h : k < l.length) : gixN l k = some l[k] := by
 show l[k]? = some l[k]; exact List.getElem?_eq_getElem h
theorem Less_eq {l : List tree_wayT} {i j : Nat} (hi : i < l.length) (hj : j < l.length) : _tree_ways_Less_x l (i : Int) (j : Int) = some (decide (¬ wle (ky l j) (ky l i))) := by
 unfold _tree_ways_Less_x
 rw [grd_true ⟨by omega, by omega⟩, Int.toNat_natCast, gixN_of hi, Option.bind_some, grd_true ⟨by omega, by omega⟩, Int.toNat_natCast, gixN_of hj, Option.bind_some, less_eq, Option.bind_some]
 unfold ky
 rw [List.getElem?_eq_getElem hi, List.getElem?_eq_getElem hj]
 rfl
theorem Swap_eq {l : List tree_wayT} {i j : Nat} (hi : i < l.length) (hj : j < l.length) : _tree_ways_Swap_x l (i : Int) (j : Int) = some (swp l i j) := by
 unfold _tree_ways_Swap_x
 rw [grd_true ⟨by omega, by omega⟩, Int.toNat_natCast, Int.toNat_natCast, gixN_of hj, Option.bind_some, grd_true ⟨by omega, by omega⟩, gixN_of hi, Option.bind_some, grd_true ⟨by omega, by omega⟩, grd_true ⟨by omega, by rw [List.length_set]; omega⟩,
  gixN_of (by rw [List.length_set]; exact hj), Option.bind_some, swp_ok hi hj]
theorem Len_eq (l : List tree_wayT) : _tree_ways_Len_x l = some ((l.length : Nat) : Int) := rfl
theorem wr_in {a : Int} (h1 : -4000000 ≤ a) (h2 : a ≤ 4000000) : IntKind.i64.wrap a = a := w64_in (by omega) (by omega)
theorem tdiv2 {j : Nat} : (((j : Nat) : Int) - 1).tdiv 2 = (((j - 1) / 2 : Nat) : Int) := by
 cases j with
 | zero => rfl
 | succ j => rw [show (((j + 1 : Nat) : Int) - 1) = ((j : Nat) : Int) by omega, Nat.add_sub_cancel]; rfl
theorem upB {l : List tree_wayT} {j : Nat} (hj : j < l.length) (hl : l.length ≤ 1000000) :
  container_heap_up_x_c0 ((j : Int), l) = some (if j = 0 ∨ wle (ky l ((j - 1) / 2)) (ky l j) then .brk ((j : Int), l) else .nxt ((((j - 1) / 2 : Nat) : Int), swp l ((j - 1) / 2) j)) := by
 have e1 : IntKind.i64.wrap ((IntKind.i64.wrap ((j : Int) - 1)).tdiv 2) = (((j - 1) / 2 : Nat) : Int) := by
  rw [wr_in (a := (j : Int) - 1) (by omega) (by omega), tdiv2, wr_in (by omega) (by omega)]
 unfold container_heap_up_x_c0
 dsimp only
 rw [e1]
 by_cases h0 : j = 0
 ·subst h0; rfl
 ·have h1 : ¬ ((((j - 1) / 2 : Nat) : Int) = (j : Int)) := by omega
  rw [decide_eq_false h1]
  simp only [Bool.not_false, cond_true]
  rw [Less_eq hj (by omega), Option.bind_some]
  by_cases h2 : wle (ky l ((j - 1) / 2)) (ky l j)
  ·rw [if_pos (.inr h2)]
   simp [h2]
  ·rw [if_neg (fun q => q.elim h0 h2)]
   simp only [h2, not_false_eq_true, decide_true, Bool.not_true, Bool.cond_false]
   rw [Swap_eq (by omega) hj]; rfl
theorem up_eq {l0 : List tree_wayT} {j0 : Nat} (hj0 : j0 < l0.length) (hl0 : l0.length ≤ 900000) (hu : UP (ky l0) l0.length j0) : ∃ r, container_heap_up_x l0 (j0 : Int) = some r ∧ r.Perm l0 ∧ HP (ky r) r.length := by
 obtain ⟨o, h1, h2⟩ := loopF_rec (body := container_heap_up_x_c0) (fun s : Int × List tree_wayT => s.1.toNat)
  (fun s => ∃ (j : Nat) (l : List tree_wayT), s = ((j : Int), l) ∧ l.length = l0.length ∧ j < l.length ∧ l.Perm l0 ∧ UP (ky l) l.length j) (fun _ => False) (fun s => s.2.Perm l0 ∧ HP (ky s.2) s.2.length)
  (fun s ⟨j, l, e, e1, e2, e3, e4⟩ => by
   subst e
   rw [upB e2 (by omega)]
   refine ⟨_, rfl, ?_⟩
   by_cases hc : j = 0 ∨ wle (ky l ((j - 1) / 2)) (ky l j)
   ·rw [if_pos hc]; exact ⟨e3, e4.fin hc⟩
   ·rw [if_neg hc]
    have hj : 0 < j := Nat.pos_of_ne_zero fun q => hc (.inl q)
    refine ⟨⟨_, _, rfl, swp_len.trans e1, by rw [swp_len]; omega, (swp_perm (by omega) e2).trans e3, ?_⟩, by dsimp only; omega⟩
    rw [swp_ky (by omega) e2, swp_len]
    exact e4.step hj e2 (wle.not fun q => hc (.inr q))) 1000000 ((j0 : Int), l0) ⟨j0, l0, rfl, rfl, hj0, List.Perm.refl _, hu⟩ (by dsimp only; omega)
 unfold container_heap_up_x
 rw [h1]
 cases o with
 | nxt s => exact ⟨_, rfl, h2.1, h2.2⟩
 | ret r => exact h2.elim
 | brk s => exact h2.elim
theorem ky_app {l : List tree_wayT} {w : tree_wayT} {i : Nat} (h : i < l.length) : ky (l ++ [w]) i = ky l i := by unfold ky; rw [List.getElem?_append_left h]
theorem HP.congr {f g : Nat → Wt} {n : Nat} (h : HP f n) (e : ∀ i, i < n → g i = f i) : HP g n := fun i h0 h1 => by rw [e i h1, e _ (by omega)]; exact h i h0 h1
theorem Push_eq {l : List tree_wayT} (w : tree_wayT) (hl : l.length ≤ 800000) (h : HP (ky l) l.length) : ∃ r, container_heap_Push_x l w = some r ∧ r.Perm (w :: l) ∧ HP (ky r) r.length := by
 unfold container_heap_Push_x tree_ways_Push_x
 rw [grd_true (fits_of (by rw [List.length_append]; simp only [List.length_cons, List.length_nil]; omega) (by omega)), Option.bind_some, Len_eq, Option.bind_some]
 have e : IntKind.i64.wrap ((((l ++ [w]).length : Nat) : Int) - 1) = ((l.length : Nat) : Int) := by
  rw [List.length_append, wr_in (by simp only [List.length_cons, List.length_nil]; omega) (by simp only [List.length_cons, List.length_nil]; omega)]; simp only [List.length_cons, List.length_nil]; omega
 rw [e]
 obtain ⟨r, h1, h2, h3⟩ := up_eq (l0 := l ++ [w]) (j0 := l.length) (by simp) (by simp only [List.length_append, List.length_cons, List.length_nil]; omega)
  (by rw [List.length_append]; exact UP.start (h.congr fun i hi => ky_app hi))
 rw [h1]
 exact ⟨r, rfl, h2.trans (List.perm_append_singleton w l), h3⟩
theorem downB {l : List tree_wayT} {i n : Nat} (hn : n ≤ l.length) (hi : i < n) (hl : l.length ≤ 1000000) :
  container_heap_down_x_c0 (n : Int) ((i : Int), l) = some (if n ≤ 2 * i + 1 then .brk ((i : Int), l) else
   if wle (ky l i) (ky l (if 2 * i + 2 < n ∧ ¬ wle (ky l (2 * i + 1)) (ky l (2 * i + 2)) then 2 * i + 2 else 2 * i + 1)) then .brk ((i : Int), l)
   else .nxt ((((if 2 * i + 2 < n ∧ ¬ wle (ky l (2 * i + 1)) (ky l (2 * i + 2)) then 2 * i + 2 else 2 * i + 1) : Nat) : Int), swp l i (if 2 * i + 2 < n ∧ ¬ wle (ky l (2 * i + 1)) (ky l (2 * i + 2)) then 2 * i + 2 else 2 * i + 1))) := by
 have e1 : IntKind.i64.wrap ((IntKind.i64.wrap (2 * (i : Int))) + 1) = ((2 * i + 1 : Nat) : Int) := by
  rw [wr_in (a := 2 * (i : Int)) (by omega) (by omega), wr_in (by omega) (by omega)]; omega
 have e2 : IntKind.i64.wrap (((2 * i + 1 : Nat) : Int) + 1) = ((2 * i + 2 : Nat) : Int) := by
  rw [wr_in (by omega) (by omega)]; omega
 unfold container_heap_down_x_c0
 dsimp only
 rw [e1, e2]
 by_cases h1 : n ≤ 2 * i + 1
 ·rw [if_pos h1, decide_eq_true (show (n : Int) ≤ ((2 * i + 1 : Nat) : Int) by omega)]; rfl
 ·rw [if_neg h1, decide_eq_false (show ¬ (n : Int) ≤ ((2 * i + 1 : Nat) : Int) by omega), decide_eq_false (show ¬ ((2 * i + 1 : Nat) : Int) < 0 by omega)]
  simp only [cond_false]
  have last : ∀ j : Nat, i < l.length → j < l.length → ((_tree_ways_Less_x l (j : Int) (i : Int)).bind fun y => (bif (!y) then some (.brk ((i : Int), l)) else (_tree_ways_Swap_x l (i : Int) (j : Int)).bind fun y2 => some (.nxt ((j : Int), y2))) : Option (Step (Bool × List tree_wayT) (Int × List tree_wayT))) =
    some (if wle (ky l i) (ky l j) then .brk ((i : Int), l) else .nxt ((j : Int), swp l i j)) := fun j hi hj => by
   rw [Less_eq hj hi, Option.bind_some]
   by_cases h2 : wle (ky l i) (ky l j)
   ·simp [h2]
   ·rw [if_neg h2]
    simp only [h2, not_false_eq_true, decide_true, Bool.not_true, Bool.cond_false]
    rw [Swap_eq hi hj]; rfl
  by_cases h2 : 2 * i + 2 < n
  ·rw [decide_eq_true (show ((2 * i + 2 : Nat) : Int) < (n : Int) by omega)]
   simp only [cond_true]
   rw [Less_eq (by omega) (by omega), Option.bind_some]
   by_cases h3 : wle (ky l (2 * i + 1)) (ky l (2 * i + 2))
   ·have e3 : (if 2 * i + 2 < n ∧ ¬ wle (ky l (2 * i + 1)) (ky l (2 * i + 2)) then 2 * i + 2 else 2 * i + 1) = 2 * i + 1 := if_neg fun q => q.2 h3
    rw [e3]
    simp only [h3, not_true_eq_false, decide_false, Bool.cond_false]
    exact last _ (by omega) (by omega)
   ·have e3 : (if 2 * i + 2 < n ∧ ¬ wle (ky l (2 * i + 1)) (ky l (2 * i + 2)) then 2 * i + 2 else 2 * i + 1) = 2 * i + 2 := if_pos ⟨h2, h3⟩
    rw [e3]
    simp only [h3, not_false_eq_true, decide_true, Bool.cond_true]
    exact last _ (by omega) (by omega)
  ·have e3 : (if 2 * i + 2 < n ∧ ¬ wle (ky l (2 * i + 1)) (ky l (2 * i + 2)) then 2 * i + 2 else 2 * i + 1) = 2 * i + 1 := if_neg fun q => h2 q.1
   rw [e3, decide_eq_false (show ¬ ((2 * i + 2 : Nat) : Int) < (n : Int) by omega)]
   simp only [cond_false]
   exact last _ (by omega) (by omega)
theorem down_eq {l0 : List tree_wayT} {n i0 : Nat} (hn : n ≤ l0.length) (hi0 : i0 < n) (hl0 : l0.length ≤ 900000) (hu : DN (ky l0) n i0) :
  ∃ b r, container_heap_down_x l0 (i0 : Int) (n : Int) = some (b, r) ∧ r.Perm l0 ∧ HP (ky r) n ∧ (∀ k, n ≤ k → r[k]? = l0[k]?) := by
 obtain ⟨o, h1, h2⟩ := loopF_rec (body := container_heap_down_x_c0 (n : Int)) (fun s : Int × List tree_wayT => n - s.1.toNat)
  (fun s => ∃ (j : Nat) (l : List tree_wayT), s = ((j : Int), l) ∧ l.length = l0.length ∧ j < n ∧ l.Perm l0 ∧ DN (ky l) n j ∧ ∀ k, n ≤ k → l[k]? = l0[k]?) (fun _ => False) (fun s => s.2.Perm l0 ∧ HP (ky s.2) n ∧ ∀ k, n ≤ k → s.2[k]? = l0[k]?)
  (fun s ⟨j, l, e, e1, e2, e3, e4, e5⟩ => by
   subst e
   rw [downB (by omega) e2 (by omega)]
   refine ⟨_, rfl, ?_⟩
   by_cases c1 : n ≤ 2 * j + 1
   ·rw [if_pos c1]; exact ⟨e3, e4.fin (fun c _ _ _ => by omega), e5⟩
   ·rw [if_neg c1]
    have key : ∀ m : Nat, (m = 2 * j + 1 ∨ m = 2 * j + 2) → m < n → (∀ c, 0 < c → c < n → (c - 1) / 2 = j → wle (ky l m) (ky l c)) →
      (wle (ky l j) (ky l m) → l.Perm l0 ∧ HP (ky l) n ∧ ∀ k, n ≤ k → l[k]? = l0[k]?) ∧
      (¬ wle (ky l j) (ky l m) → (∃ (j' : Nat) (l' : List tree_wayT), ((m : Int), swp l j m) = ((j' : Int), l') ∧ l'.length = l0.length ∧ j' < n ∧ l'.Perm l0 ∧ DN (ky l') n j' ∧ ∀ k, n ≤ k → l'[k]? = l0[k]?) ∧ n - (m : Int).toNat < n - (j : Int).toNat) := fun m hm hmn hmin => by
     refine ⟨fun c2 => ⟨e3, e4.fin (fun c c0 c1 cp => c2.trans (hmin c c0 c1 cp)), e5⟩, fun c2 => ?_⟩
     refine ⟨⟨_, _, rfl, swp_len.trans e1, hmn, (swp_perm (by omega) (by omega)).trans e3, ?_, fun k hk => ?_⟩, by omega⟩
     ·rw [swp_ky (by omega) (by omega)]
      exact e4.step (by omega) hmn (by omega) (wle.not c2) hmin
     ·rw [swp_ok (by omega) (by omega), List.getElem?_set, if_neg (by omega), List.getElem?_set, if_neg (by omega)]; exact e5 k hk
    by_cases c2 : 2 * j + 2 < n ∧ ¬ wle (ky l (2 * j + 1)) (ky l (2 * j + 2))
    ·rw [if_pos c2]
     have K := key (2 * j + 2) (.inr rfl) c2.1 fun c c0 c1 cp => by
      rcases (show c = 2 * j + 1 ∨ c = 2 * j + 2 by omega) with rfl | rfl
      ·exact wle.not c2.2
      ·exact wle.refl _
     by_cases c3 : wle (ky l j) (ky l (2 * j + 2))
     ·rw [if_pos c3]; exact K.1 c3
     ·rw [if_neg c3]; exact K.2 c3
    ·rw [if_neg c2]
     have K := key (2 * j + 1) (.inl rfl) (by omega) fun c c0 c1 cp => by
      rcases (show c = 2 * j + 1 ∨ c = 2 * j + 2 by omega) with rfl | rfl
      ·exact wle.refl _
      ·exact Classical.byContradiction fun q => c2 ⟨c1, q⟩
     by_cases c3 : wle (ky l j) (ky l (2 * j + 1))
     ·rw [if_pos c3]; exact K.1 c3
     ·rw [if_neg c3]; exact K.2 c3) 1000000 ((i0 : Int), l0) ⟨i0, l0, rfl, rfl, hi0, List.Perm.refl _, hu, fun _ _ => rfl⟩ (by dsimp only; omega)
 unfold container_heap_down_x
 rw [h1]
 cases o with
 | nxt s => exact ⟨_, _, rfl, h2.1, h2.2.1, h2.2.2⟩
 | ret r => exact h2.elim
 | brk s => exact h2.elim
theorem Pop_eq {l : List tree_wayT} (hl : l.length ≤ 800000) (h0 : 0 < l.length) (h : HP (ky l) l.length) :
  ∃ x r, container_heap_Pop_x l = some (x, r) ∧ l.Perm (x :: r) ∧ HP (ky r) r.length ∧ ∀ y ∈ l, wle (wk x) (wk y) := by
 obtain ⟨n, hn⟩ : ∃ n, l.length = n + 1 := ⟨l.length - 1, by omega⟩
 unfold container_heap_Pop_x
 rw [Len_eq, Option.bind_some]
 have e : IntKind.i64.wrap (((l.length : Nat) : Int) - 1) = ((n : Nat) : Int) := by rw [wr_in (by omega) (by omega)]; omega
 rw [e, show (0 : Int) = ((0 : Nat) : Int) from rfl, Swap_eq h0 (by omega), Option.bind_some]
 have hmin : ∀ y ∈ l, wle (wk l[0]) (wk y) := fun y hy => by
  obtain ⟨k, hk, rfl⟩ := List.mem_iff_getElem.1 hy
  have := h.min k hk
  unfold ky at this
  rw [List.getElem?_eq_getElem hk, List.getElem?_eq_getElem h0] at this; exact this
 have fin : ∀ r : List tree_wayT, r.Perm l → r.length = n + 1 → HP (ky r) n → r[n]? = some l[0] → ∃ x r', ((tree_ways_Pop_x r).bind fun y13 => some (y13.1, y13.2)) = some (x, r') ∧ l.Perm (x :: r') ∧ HP (ky r') r'.length ∧ ∀ y ∈ l, wle (wk x) (wk y) := by
  intro r hp hrl hh hx
  have e' : IntKind.i64.wrap (((r.length : Nat) : Int) - 1) = ((n : Nat) : Int) := by rw [wr_in (by omega) (by omega)]; omega
  unfold tree_ways_Pop_x
  rw [e', grd_true ⟨by omega, by omega⟩, Int.toNat_natCast]
  have hg : gixN r n = some l[0] := hx
  rw [hg, Option.bind_some, grd_true ⟨by omega, by omega⟩, Option.bind_some]
  refine ⟨_, _, rfl, ?_, ?_, hmin⟩
  ·have : r = r.take n ++ [l[0]] := by
    have h3 : r.drop n = [l[0]] := by
     have hnr : n < r.length := by omega
     rw [List.drop_eq_getElem_cons hnr, List.drop_of_length_le (by omega)]
     rw [List.getElem?_eq_getElem hnr] at hx
     rw [Option.some.inj hx]
    rw [← h3, List.take_append_drop]
   refine hp.symm.trans ?_
   conv => lhs; rw [this]
   exact List.perm_append_singleton _ _
  ·rw [List.length_take, Nat.min_eq_left (by omega)]
   exact hh.congr fun i hi => by unfold ky; rw [List.getElem?_take, if_pos hi]
 have hsl : (swp l 0 n).length = n + 1 := swp_len.trans hn
 have hlast : (swp l 0 n)[n]? = some l[0] := by
  rw [swp_ok h0 (by omega), List.getElem?_set, if_pos rfl, if_pos (by rw [List.length_set]; omega)]
 by_cases hn0 : n = 0
 ·subst hn0
  have e1 : container_heap_down_x (swp l 0 0) ((0 : Nat) : Int) ((0 : Nat) : Int) = some (false, swp l 0 0) := by
   unfold container_heap_down_x
   unfold loopF container_heap_down_x_c0
   rfl
  rw [e1, Option.bind_some]
  exact fin _ (swp_perm h0 (by omega)) hsl (fun i h1 h2 => by omega) hlast
 ·obtain ⟨b, r, h1, h2, h3, h4⟩ := down_eq (l0 := swp l 0 n) (n := n) (i0 := 0) (by omega) (by omega) (by omega) (by
   refine ⟨fun k k0 k1 k2 => ?_, fun c c0 c1 c2 c3 => by omega⟩
   rw [swp_ky h0 (by omega), sw_o (by omega) (by omega), sw_o (by omega) (by omega)]
   exact h k k0 (by omega))
  rw [h1, Option.bind_some]
  exact fin r (h2.trans (swp_perm h0 (by omega))) (by rw [h2.length_eq, hsl]) h3 (by rw [h4 n (Nat.le_refl _)]; exact hlast)
end
end Go.RX
