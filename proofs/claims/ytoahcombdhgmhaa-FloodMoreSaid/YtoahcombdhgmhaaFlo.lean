/- How far segments are, plainly: round by round, and one by one. -/
import Derived.Test.YtoahcombdhgmhaaCmp
set_option linter.unusedVariables false
namespace Go.RX
/-! How far it is. -/
inductive Wk (G : Int → Int → Prop) (a : Int) : Nat → Int → Prop where
  | zero : Wk G a 0 a
  | succ {n : Nat} {b c : Int} : Wk G a n b → G b c → Wk G a (n + 1) c
def Dist (G : Int → Int → Prop) (a : Int) (n : Nat) (s : Int) : Prop := Wk G a n s ∧ ∀ m, m < n → ¬ Wk G a m s
namespace Wk
variable {G H : Int → Int → Prop} {a b c : Int} {n m : Nat}
theorem trans (h1 : Wk G a n b) (h2 : Wk G b m c) : Wk G a (n + m) c := by
  induction h2 with
  | zero => exact h1
  | succ _ h ih => exact ih.succ h
theorem symm (hs : ∀ x y, G x y → G y x) (h : Wk G a n b) : Wk G b n a := by
  induction h with
  | zero => exact .zero
  | succ h0 h ih =>
    rename_i k u v
    have : Wk G v (1 + k) a := trans (.succ .zero (hs _ _ h)) ih
    rwa [Nat.add_comm] at this
theorem mono (hm : ∀ x y, G x y → H x y) (h : Wk G a n b) : Wk H a n b := by
  induction h with
  | zero => exact .zero
  | succ _ h ih => exact ih.succ (hm _ _ h)
theorem eqv : Eqv G a b ↔ ∃ n, Wk G a n b := by
  constructor
  · intro h
    induction h with
    | refl => exact ⟨0, .zero⟩
    | step _ h ih => obtain ⟨n, ih⟩ := ih; exact ⟨n + 1, ih.succ h⟩
  · rintro ⟨n, h⟩
    induction h with
    | zero => exact .refl
    | succ _ h ih => exact ih.step h
theorem dist (h : Wk G a n b) : ∃ k, k ≤ n ∧ Dist G a k b := by
  induction n using Nat.strongRecOn with
  | _ n ih =>
    by_cases hk : ∃ m, m < n ∧ Wk G a m b
    · obtain ⟨m, h1, h2⟩ := hk
      obtain ⟨k, h3, h4⟩ := ih m h1 h2
      exact ⟨k, by omega, h4⟩
    · exact ⟨n, Nat.le_refl _, h, fun m h1 h2 => hk ⟨m, h1, h2⟩⟩
end Wk
namespace Dist
variable {G H : Int → Int → Prop} {a b c : Int} {n m : Nat}
theorem uniq (h : Dist G a n b) (k : Dist G a m b) : n = m := by
  rcases Nat.lt_trichotomy n m with h' | h' | h'
  · exact absurd h.1 (k.2 n h')
  · exact h'
  · exact absurd k.1 (h.2 m h')
theorem pred (h : Dist G a (n + 1) c) : ∃ b, Dist G a n b ∧ G b c := by
  cases h.1 with
  | succ h1 h2 =>
    rename_i b
    exact ⟨b, ⟨h1, fun m hm hw => h.2 (m + 1) (by omega) (hw.succ h2)⟩, h2⟩
theorem zero : Dist G a 0 a := ⟨.zero, fun m hm => absurd hm (Nat.not_lt_zero _)⟩
theorem zero_iff : Dist G a 0 b ↔ b = a := ⟨fun h => by cases h.1; rfl, fun h => h ▸ zero⟩
theorem symm (hs : ∀ x y, G x y → G y x) (h : Dist G a n b) : Dist G b n a := ⟨h.1.symm hs, fun m hm hw => h.2 m hm (hw.symm hs)⟩
end Dist
/-- What is within bounds is less far than there are numbers. -/
theorem Dist.lt {G : Int → Int → Prop} {a b : Int} {n : Nat} {N : Nat} (ha : 0 ≤ a ∧ a < N) (hG : ∀ x y, G x y → 0 ≤ y ∧ y < N) (h : Dist G a n b) : n < N := by
  have key : ∀ n b, Dist G a n b → ∃ l : List Int, l.length = n + 1 ∧ l.Nodup ∧ (∀ x ∈ l, 0 ≤ x ∧ x < N) ∧ ∀ x ∈ l, ∃ k, k ≤ n ∧ Dist G a k x := by
    intro n
    induction n with
    | zero => intro b h; exact ⟨[a], rfl, by simp, fun x hx => by simp at hx; subst hx; exact ha, fun x hx => by simp at hx; subst hx; exact ⟨0, Nat.le_refl _, .zero⟩⟩
    | succ n ih =>
      intro b h
      obtain ⟨c, h1, h2⟩ := h.pred
      obtain ⟨l, l1, l2, l3, l4⟩ := ih c h1
      refine ⟨b :: l, by simp [l1], List.nodup_cons.2 ⟨fun hb => ?_, l2⟩, fun x hx => ?_, fun x hx => ?_⟩
      · obtain ⟨k, h3, h4⟩ := l4 b hb
        have := h4.uniq h; omega
      · rcases List.mem_cons.1 hx with rfl | hx
        · exact hG _ _ h2
        · exact l3 x hx
      · rcases List.mem_cons.1 hx with rfl | hx
        · exact ⟨n + 1, Nat.le_refl _, h⟩
        · obtain ⟨k, h3, h4⟩ := l4 x hx; exact ⟨k, by omega, h4⟩
  obtain ⟨l, h1, h2, h3, _⟩ := key n b h
  have := nodup_len (m := upI N) h2 fun x hx => mem_upI.2 (h3 x hx)
  have hu : (upI (N : Int)).length = N := by simp [upI]
  omega
/-- A table of how far all is; -1: nothing leads there. -/
def DT (G : Int → Int → Prop) (a : Int) (N : Nat) (d : List Int) : Prop :=
  d.length = N ∧ ∀ s : Nat, s < N → (d[s]? = some (-1) ∧ ∀ n, ¬ Wk G a n s) ∨ ∃ n : Nat, d[s]? = some (n : Int) ∧ Dist G a n s
theorem DT.uniq {G : Int → Int → Prop} {a : Int} {N : Nat} {d e : List Int} (h : DT G a N d) (k : DT G a N e) : d = e := by
  refine List.ext_getElem? fun s => ?_
  by_cases hs : s < N
  · rcases h.2 s hs with ⟨h1, h2⟩ | ⟨n, h1, h2⟩ <;> rcases k.2 s hs with ⟨k1, k2⟩ | ⟨m, k1, k2⟩
    · rw [h1, k1]
    · exact absurd k2.1 (h2 m)
    · exact absurd h2.1 (k2 n)
    · rw [h1, k1, h2.uniq k2]
  · rw [List.getElem?_eq_none (by rw [h.1]; omega), List.getElem?_eq_none (by rw [k.1]; omega)]
theorem DT.congr {G H : Int → Int → Prop} {a : Int} {N : Nat} {d : List Int} (hw : ∀ n s, Wk G a n s ↔ Wk H a n s) : DT G a N d ↔ DT H a N d := by
  have hd : ∀ n s, Dist G a n s ↔ Dist H a n s := fun n s => and_congr (hw n s) (forall_congr' fun m => forall_congr' fun _ => not_congr (hw m s))
  unfold DT
  simp only [hw, hd]
/-! Round by round. -/
def Lv (G : Int → Int → Prop) (a : Int) (N n : Nat) (d : List Int) : Prop :=
  d.length = N ∧ ∀ s : Nat, s < N → (d[s]? = some (-1) ∧ ∀ k, k ≤ n → ¬ Wk G a k s) ∨ ∃ k : Nat, k ≤ n ∧ d[s]? = some (k : Int) ∧ Dist G a k s
/-- A round. -/
def Rd (G : Int → Int → Prop) (n : Nat) (d e : List Int) : Prop :=
  e.length = d.length ∧ ∀ (t : Nat) (v : Int), d[t]? = some v →
    ((v < 0 ∧ ∃ s : Nat, d[s]? = some ((n : Int) - 1) ∧ G s t) → e[t]? = some (n : Int)) ∧ (¬ (v < 0 ∧ ∃ s : Nat, d[s]? = some ((n : Int) - 1) ∧ G s t) → e[t]? = some v)
theorem Lv.round {G : Int → Int → Prop} {a : Int} {N n : Nat} {d e : List Int} (ha : 0 ≤ a ∧ a < N) (hG : ∀ x y, G x y → 0 ≤ y ∧ y < N) (h : Lv G a N n d) (hr : Rd G (n + 1) d e) : Lv G a N (n + 1) e := by
  refine ⟨hr.1.trans h.1, fun t ht => ?_⟩
  have hb : ∀ k s, Wk G a k s → 0 ≤ s ∧ s < N := fun k s hw => by
    cases hw with
    | zero => exact ha
    | succ _ h => exact hG _ _ h
  rcases h.2 t ht with ⟨h1, h2⟩ | ⟨k, h0, h1, h2⟩
  · obtain ⟨r1, r2⟩ := hr.2 t _ h1
    by_cases hs : ∃ s : Nat, d[s]? = some (((n + 1 : Nat) : Int) - 1) ∧ G s t
    · have := r1 ⟨by omega, hs⟩
      obtain ⟨s, h3, h4⟩ := hs
      have hsN : s < N := by have := (List.getElem?_eq_some_iff.1 h3).1; rw [h.1] at this; exact this
      rcases h.2 s hsN with ⟨h5, _⟩ | ⟨k, h6, h5, h7⟩
      · rw [h3] at h5; have := Option.some.inj h5; omega
      · rw [h3] at h5
        have hk := Option.some.inj h5
        have : k = n := by omega
        subst this
        exact .inr ⟨k + 1, Nat.le_refl _, by assumption, h7.1.succ h4, fun m hm => h2 m (by omega)⟩
    · have := r2 fun h => hs h.2
      refine .inl ⟨this, fun k hk hw => ?_⟩
      obtain ⟨j, hj, hd⟩ := hw.dist
      by_cases hjn : j ≤ n
      · exact h2 j hjn hd.1
      · obtain rfl : j = n + 1 := by omega
        obtain ⟨b, hb1, hb2⟩ := hd.pred
        have hbb := hb _ _ hb1.1
        rcases h.2 b.toNat (by omega) with ⟨_, h5⟩ | ⟨k', _, h5, h7⟩
        · exact h5 n (Nat.le_refl _) (by rw [Int.toNat_of_nonneg hbb.1]; exact hb1.1)
        · rw [Int.toNat_of_nonneg hbb.1] at h7
          have := h7.uniq hb1
          subst this
          exact hs ⟨b.toNat, by rw [h5]; congr 1; omega, by rw [Int.toNat_of_nonneg hbb.1]; exact hb2⟩
  · obtain ⟨_, r2⟩ := hr.2 t _ h1
    exact .inr ⟨k, by omega, r2 (fun h => by omega), h2⟩
theorem Lv.start {G : Int → Int → Prop} {a : Nat} {N : Nat} {d : List Int} (hl : d.length = N) (h0 : d[a]? = some 0) (hs : ∀ s, s < N → s ≠ a → d[s]? = some (-1)) : Lv G a N 0 d :=
  ⟨hl, fun s h => by
    by_cases e : s = a
    · subst e; exact .inr ⟨0, Nat.le_refl _, h0, .zero⟩
    · refine .inl ⟨hs s h e, fun k hk hw => ?_⟩
      obtain rfl : k = 0 := by omega
      have := Dist.zero_iff.1 (show Dist G a 0 s from ⟨hw, fun m hm => absurd hm (Nat.not_lt_zero _)⟩)
      omega⟩
theorem Lv.fin {G : Int → Int → Prop} {a : Int} {N n : Nat} {d : List Int} (ha : 0 ≤ a ∧ a < N) (hG : ∀ x y, G x y → 0 ≤ y ∧ y < N) (hn : N ≤ n + 1) (h : Lv G a N n d) : DT G a N d :=
  ⟨h.1, fun s hs => by
    rcases h.2 s hs with ⟨h1, h2⟩ | ⟨k, _, h1, h2⟩
    · refine .inl ⟨h1, fun k hw => ?_⟩
      obtain ⟨j, _, hd⟩ := hw.dist
      exact h2 j (by have := hd.lt ha hG; omega) hd.1
    · exact .inr ⟨k, h1, h2⟩⟩
/-! One by one, in a queue. -/
def dv (d : List Int) (s : Int) : Int := (d[s.toNat]?).getD (-1)
structure QI (G : Int → Int → Prop) (a : Int) (N i : Nat) (P : Int → Prop) (d q : List Int) : Prop where
  len : d.length = N
  nod : q.Nodup
  bnd : ∀ x ∈ q, 0 ≤ x ∧ x < N
  mem : ∀ s : Int, 0 ≤ s → s < N → (s ∈ q ∧ ∃ k : Nat, dv d s = k ∧ Wk G a k s) ∨ (s ∉ q ∧ dv d s = -1)
  mono : q.Pairwise (fun x y => dv d x ≤ dv d y)
  near : ∀ u, q[i]? = some u → ∀ x ∈ q, dv d x ≤ dv d u + 1
  done : ∀ j u, j < i → q[j]? = some u → ∀ t, G u t → 0 ≤ dv d t ∧ dv d t ≤ dv d u + 1
  part : ∀ u, q[i]? = some u → ∀ t, P t → 0 ≤ dv d t ∧ dv d t ≤ dv d u + 1
  zero : a ∈ q ∧ dv d a = 0
  lvl : ∀ (j : Nat) (u : Int), q[j]? = some u → dv d u ≤ j
theorem dv_ne {d : List Int} {s t v : Int} (hs : 0 ≤ s) (ht : 0 ≤ t) (h : s ≠ t) : dv (d.set t.toNat v) s = dv d s := by
  unfold dv; rw [List.getElem?_set_ne (by omega)]
theorem dv_eq {d : List Int} {t v : Int} (ht : 0 ≤ t) (hl : t < d.length) : dv (d.set t.toNat v) t = v := by
  unfold dv; rw [List.getElem?_set_self (by omega)]; rfl
namespace QI
variable {G : Int → Int → Prop} {a : Int} {N i : Nat} {P : Int → Prop} {d q : List Int}
theorem start (ha : 0 ≤ a ∧ a < N) (hd : d.length = N) (h0 : dv d a = 0) (hs : ∀ s : Int, 0 ≤ s → s < N → s ≠ a → dv d s = -1) : QI G a N 0 (fun _ => False) d [a] where
  len := hd
  nod := by simp
  bnd x hx := by simp at hx; subst hx; exact ha
  mem s h1 h2 := by
    by_cases e : s = a
    · subst e; exact .inl ⟨by simp, 0, h0, .zero⟩
    · exact .inr ⟨by simp [e], hs s h1 h2 e⟩
  mono := by simp
  near u hu x hx := by simp at hx hu; subst hx; subst hu; omega
  done j u hj := absurd hj (Nat.not_lt_zero _)
  part _ _ _ h := h.elim
  zero := ⟨by simp, h0⟩
  lvl j u hj := by
    have hj0 : j = 0 := by have := (List.getElem?_eq_some_iff.1 hj).1; simpa using this
    subst hj0
    simp at hj; subst hj; rw [h0]; exact Int.le_refl _
/-- A neighbour that is there already. -/
theorem old (h : QI G a N i P d q) {u t : Int} (hu : q[i]? = some u) (ht : 0 ≤ t ∧ t < N) (hv : 0 ≤ dv d t) : QI G a N i (fun x => P x ∨ x = t) d q :=
  { h with
    part := fun u' hu' x hx => by
      rw [hu] at hu'; cases hu'
      rcases hx with hx | rfl
      · exact h.part u hu x hx
      · refine ⟨hv, h.near u hu x ?_⟩
        rcases h.mem x ht.1 ht.2 with h1 | h1
        · exact h1.1
        · omega }
/-- A neighbour that is new. -/
theorem new (hG : ∀ x y, G x y → 0 ≤ y ∧ y < N) (hP : ∀ x, P x → 0 ≤ x ∧ x < N) (h : QI G a N i P d q) {u t : Int} (hu : q[i]? = some u) (hg : G u t) (hv : dv d t < 0) :
    QI G a N i (fun x => P x ∨ x = t) (d.set t.toNat (dv d u + 1)) (q ++ [t]) := by
  have ht := hG u t hg
  have htq : t ∉ q := by
    rcases h.mem t ht.1 ht.2 with ⟨_, k, hk, _⟩ | h1
    · omega
    · exact h1.1
  have hd : dv (d.set t.toNat (dv d u + 1)) t = dv d u + 1 := dv_eq ht.1 (by rw [h.len]; exact ht.2)
  have hne : ∀ x, 0 ≤ x → x ≠ t → dv (d.set t.toNat (dv d u + 1)) x = dv d x := fun x hx hn => dv_ne hx ht.1 hn
  have hq : ∀ x ∈ q, dv (d.set t.toNat (dv d u + 1)) x = dv d x := fun x hx => hne x (h.bnd x hx).1 fun e => htq (e ▸ hx)
  have huq : u ∈ q := List.mem_of_getElem? hu
  have hi : i < q.length := (List.getElem?_eq_some_iff.1 hu).1
  have hu0 : ∃ k : Nat, dv d u = k ∧ Wk G a k u := by
    have hb := h.bnd u huq
    rcases h.mem u hb.1 hb.2 with h1 | h1
    · exact h1.2
    · exact absurd huq h1.1
  have get : ∀ {j v}, j < q.length → (q ++ [t])[j]? = some v → q[j]? = some v := fun hj hv => by rwa [List.getElem?_append_left hj] at hv
  refine { len := by rw [List.length_set, h.len], nod := ?_, bnd := ?_, mem := ?_, mono := ?_, near := ?_, done := ?_, part := ?_, zero := ?_, lvl := ?_ }
  · rw [List.nodup_append]
    exact ⟨h.nod, by simp, fun x hx y hy => by simp at hy; subst hy; exact fun e => htq (e ▸ hx)⟩
  · intro x hx
    rcases List.mem_append.1 hx with hx | hx
    · exact h.bnd x hx
    · simp at hx; subst hx; exact ht
  · intro s h1 h2
    by_cases e : s = t
    · subst e
      obtain ⟨k, hk, hw⟩ := hu0
      exact .inl ⟨by simp, k + 1, by rw [hd]; omega, hw.succ hg⟩
    · rw [hne s h1 e]
      rcases h.mem s h1 h2 with h3 | h3
      · exact .inl ⟨List.mem_append_left _ h3.1, h3.2⟩
      · exact .inr ⟨by simp [h3.1, e], h3.2⟩
  · rw [List.pairwise_append]
    refine ⟨List.Pairwise.imp_of_mem (fun {x y} hx hy hxy => by rw [hq x hx, hq y hy]; exact hxy) h.mono, by simp, fun x hx y hy => ?_⟩
    simp at hy; subst hy
    rw [hq x hx, hd]; exact h.near u hu x hx
  · intro u' hu' x hx
    have := get hi hu'
    rw [hu] at this; cases this
    rw [hq u huq]
    rcases List.mem_append.1 hx with hx | hx
    · rw [hq x hx]; exact h.near u hu x hx
    · simp at hx; subst hx; rw [hd]; exact Int.le_refl _
  · intro j v hj hv x hx
    have hv := get (by omega) hv
    have hvq := List.mem_of_getElem? hv
    have hb := hG v x hx
    rw [hq v hvq]
    have := h.done j v hj hv x hx
    rw [hne x hb.1 fun e => by subst e; omega]
    exact this
  · intro u' hu' x hx
    have := get hi hu'
    rw [hu] at this; cases this
    rw [hq u huq]
    obtain ⟨k, hk, _⟩ := hu0
    rcases hx with hx | rfl
    · by_cases e : x = t
      · subst e; rw [hd]; omega
      · rw [hne x (hP x hx).1 e]; exact h.part u hu x hx
    · rw [hd]; omega
  · exact ⟨List.mem_append_left _ h.zero.1, by rw [hq a h.zero.1]; exact h.zero.2⟩
  · intro j v hj
    have hjl := (List.getElem?_eq_some_iff.1 hj).1
    rw [List.length_append, List.length_singleton] at hjl
    by_cases e : j < q.length
    · have hj := get e hj
      rw [hq v (List.mem_of_getElem? hj)]; exact h.lvl j v hj
    · have e : j = q.length := by omega
      subst e
      rw [List.getElem?_append_right (Nat.le_refl _), Nat.sub_self] at hj
      simp at hj; subst hj
      rw [hd]
      have := h.lvl i u hu
      omega
theorem next (h : QI G a N i P d q) {u : Int} (hu : q[i]? = some u) (hP : ∀ t, G u t → P t) : QI G a N (i + 1) (fun _ => False) d q :=
  { h with
    near := fun v hv x hx => by
      have h1 := h.near u hu x hx
      obtain ⟨hi, rfl⟩ := List.getElem?_eq_some_iff.1 hu
      obtain ⟨hi', rfl⟩ := List.getElem?_eq_some_iff.1 hv
      have := List.pairwise_iff_getElem.1 h.mono i (i + 1) hi hi' (by omega)
      omega
    done := fun j v hj hv t ht => by
      by_cases e : j = i
      · subst e; rw [hu] at hv; cases hv; exact h.part u hu t (hP t ht)
      · exact h.done j v (by omega) hv t ht
    part := fun _ _ _ h => h.elim }
theorem size (h : QI G a N i P d q) : q.length ≤ N := by
  have := nodup_len (m := upI N) h.nod fun x hx => mem_upI.2 (h.bnd x hx)
  have hu : (upI (N : Int)).length = N := by simp [upI]
  omega
theorem fin (ha : 0 ≤ a ∧ a < N) (hG : ∀ x y, G x y → 0 ≤ y ∧ y < N) (h : QI G a N i P d q) (hi : q.length ≤ i) : DT G a N d := by
  have hb : ∀ k s, Wk G a k s → 0 ≤ s ∧ s < N := fun k s hw => by
    cases hw with
    | zero => exact ha
    | succ _ h => exact hG _ _ h
  have key : ∀ n s, Wk G a n s → 0 ≤ dv d s ∧ dv d s ≤ n := by
    intro n s hw
    induction hw with
    | zero => rw [h.zero.2]; omega
    | succ h1 h2 ih =>
      rename_i n b c
      have hbb := hb _ _ h1
      have hbq : b ∈ q := by
        rcases h.mem b hbb.1 hbb.2 with h3 | h3
        · exact h3.1
        · omega
      obtain ⟨j, hj⟩ := List.getElem?_of_mem hbq
      have := h.done j b (by have := (List.getElem?_eq_some_iff.1 hj).1; omega) hj c h2
      omega
  refine ⟨h.len, fun s hs => ?_⟩
  have hget : d[s]? = some (dv d s) := by
    unfold dv; rw [Int.toNat_natCast]
    rw [List.getElem?_eq_getElem (by rw [h.len]; exact hs)]; rfl
  rcases h.mem s (by omega) (by omega) with ⟨_, k, hk, hw⟩ | ⟨_, hk⟩
  · refine .inr ⟨k, by rw [hget, hk], hw, fun m hm hw' => ?_⟩
    have := key m s hw'; omega
  · refine .inl ⟨by rw [hget, hk], fun n hw => ?_⟩
    have := key n s hw; omega
end QI
end Go.RX
