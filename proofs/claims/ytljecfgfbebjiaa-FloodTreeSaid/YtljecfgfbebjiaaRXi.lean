/- RX, part i: how the call's own blocks come, change and go. -/
import Derived.Test.YtljecfgfbebjiaaRXh
set_option linter.unusedVariables false
namespace Go.RX

def rm (x : Nat) : List (Nat × Blk) → List (Nat × Blk)
 | [] => []
 | (j, b) :: r => match Nat.beq x j with
  | true => rm x r
  | false => (j, b) :: rm x r

def upd (x : Nat) (b' : Blk) : List (Nat × Blk) → List (Nat × Blk)
 | [] => []
 | (j, b) :: r => match Nat.beq x j with
  | true => (j, b') :: r
  | false => (j, b) :: upd x b' r

def rmo : Option Nat → List (Nat × Blk) → List (Nat × Blk)
 | none, l => l
 | some x, l => rm x l

theorem beq_comm' (a b : Nat) : Nat.beq a b = Nat.beq b a := by
 cases h : Nat.beq a b with
 | true => rw [Nat.eq_of_beq_eq_true h]; simp
 | false =>
  cases h' : Nat.beq b a with
  | false => rfl
  | true => have := Nat.eq_of_beq_eq_true h'; subst this; simp at h

theorem look_rm (x : Nat) : ∀ (l : List (Nat × Blk)) (y : Nat), look (rm x l) y = if x = y then none else look l y
 | [], y => by simp [rm, look]
 | (j, b) :: r, y => by
  simp only [rm]
  cases h : Nat.beq x j with
  | true =>
   have := Nat.eq_of_beq_eq_true h; subst this
   simp only
   rw [look_rm x r y]
   by_cases hxy : x = y
   ·simp [hxy]
   ·have : Nat.beq y x = false := by cases h2 : Nat.beq y x with
     | false => rfl
     | true => exact absurd (Nat.eq_of_beq_eq_true h2).symm hxy
    simp [hxy, look, this]
  | false =>
   simp only [look]
   rw [look_rm x r y]
   cases h2 : Nat.beq y j with
   | true =>
    have := Nat.eq_of_beq_eq_true h2; subst this
    have : x ≠ y := fun e => by subst e; simp at h
    simp [this]
   | false => rfl

theorem look_upd (x : Nat) (b' : Blk) : ∀ (l : List (Nat × Blk)) (y : Nat), look (upd x b' l) y = if x = y ∧ (look l y).isSome then some b' else look l y
 | [], y => by simp [upd, look]
 | (j, b) :: r, y => by
  simp only [upd]
  cases h : Nat.beq x j with
  | true =>
   have := Nat.eq_of_beq_eq_true h; subst this
   simp only [look]
   rcases Bool.eq_false_or_eq_true (Nat.beq y x) with h2 | h2
   ·have := Nat.eq_of_beq_eq_true h2; subst this; simp
   ·have : x ≠ y := fun e => by subst e; simp at h2
    simp [h2, this]
  | false =>
   simp only [look]
   rcases Bool.eq_false_or_eq_true (Nat.beq y j) with h2 | h2
   ·have := Nat.eq_of_beq_eq_true h2; subst this
    have : x ≠ y := fun e => by subst e; simp at h
    simp [this]
   ·simp only [h2]; exact look_upd x b' r y

theorem relH_bind {E : Env} {H : Heap} {w w' : World} (hr : RelH E H w) (xo : Option Nat) (k e sz : Nat) (es : List (List LV)) (arr : Array Value)
  (hk : w'.heap[k]? = some (.cells arr e (0, 0)))
  (hnew : w.heap.size ≤ k ∨ ∃ x s, xo = some x ∧ E.φ x = some (some k, s))
  (hsz : w.heap.size ≤ w'.heap.size) (hkeep : ∀ j, j < w.heap.size → j ≠ k → w'.heap[j]? = w.heap[j]?)
  (hold : ∀ (a : Array Value) (t : TypeId) (fr : Nat × Nat), w.heap[k]? = some (Obj.cells a t fr) → t = e ∧ a.size = arr.size)
  (hmap : ∀ (a : Array MapEntry) (c : Nat), w.heap[k]? ≠ some (Obj.map a c))
  (hos : w'.os = w.os) (hout : w'.output = w.output) (htape : w'.tape = w.tape)
  (hle : es.length * sz ≤ arr.size) (h1 : ∀ i, i < es.length * sz → (arr.getD i undef).oneCell' = true)
  (hg : ∀ (i : Nat) (cs : List LV), es[i]? = some cs → cs.length = sz ∧ ∀ j y, cs[j]? = some y → G E w y (arr.getD (i * sz + j) undef)) :
  ∃ E', RelH E' ⟨H.nx + 1, (H.nx, .row e sz es) :: rmo xo H.live⟩ w' ∧ Ext E w E' w' ∧ E'.φ H.nx = some (some k, sz) := by
 have hx : ∀ x q, E.φ x = some q → x < H.nx := fun x q h => by have := hr.name x q h; rw [hr.nx] at this; exact this
 have hnok : ¬ E.ok k := by
  rcases hnew with h | ⟨x, s, _, h⟩
  ·exact fun hok => by have := hr.okl k hok; omega
  ·exact (hr.nok x k s h).1
 let E' : Env := ⟨H.nx + 1, fun z => if z = H.nx then some (some k, sz) else if some z = xo then none else E.φ z, E.ok⟩
 have hφ : ∀ z q, E'.φ z = some q → (z = H.nx ∧ q = (some k, sz)) ∨ (some z ≠ xo ∧ E.φ z = some q) := by
  intro z q h
  simp only [E'] at h
  split at h
  ·exact .inl ⟨by assumption, (Option.some.inj h).symm⟩
  ·split at h
   ·cases h
   ·exact .inr ⟨by assumption, h⟩
 have hφo : ∀ z, z ≠ H.nx → some z ≠ xo → E'.φ z = E.φ z := fun z h1 h2 => by simp only [E']; rw [if_neg h1, if_neg h2]
 have hext : Ext E w E' w' := by
  refine ⟨by rw [hr.nx]; exact Nat.le_succ _, hsz, ?_, ?_, ?_, fun b hb => hb, fun b hb => .inl hb, ?_, hos, hout, htape⟩
  ·intro j hj hn
   refine hkeep j hj (fun e => ?_)
   subst e
   rcases hnew with h | ⟨x, s, _, h⟩
   ·omega
   ·exact hn x s h
  ·intro j a t fr hj
   by_cases hjk : j = k
   ·subst hjk
    obtain ⟨rfl, hs⟩ := hold a t fr hj
    exact ⟨arr, (0, 0), hk, hs.symm⟩
   ·have hlt : j < w.heap.size := (Array.getElem?_eq_some_iff.1 hj).1
    exact ⟨a, fr, (hkeep j hlt hjk).trans hj, rfl⟩
  ·intro z hz
   rw [hr.nx] at hz
   by_cases hzx : some z = xo
   ·exact .inl (by simp only [E']; rw [if_neg (by omega), if_pos hzx])
   ·exact .inr (hφo z (by omega) hzx)
  ·intro z j s hz hzs
   rcases hφ z _ hzs with ⟨_, h⟩ | ⟨_, h⟩
   ·cases h
    rcases hnew with h | ⟨x, s', _, h⟩
    ·exact .inl h
    ·exact .inr ⟨x, s', h⟩
   ·exact .inr ⟨z, s, h⟩
 refine ⟨E', ?_, hext, by simp [E']⟩
 have hlk : ∀ z b, look ((H.nx, Blk.row e sz es) :: rmo xo H.live) z = some b →
   (z = H.nx ∧ b = .row e sz es) ∨ (z ≠ H.nx ∧ some z ≠ xo ∧ look H.live z = some b) := by
  intro z b h
  simp only [look] at h
  cases hz : Nat.beq z H.nx with
  | true => rw [hz] at h; cases h; exact .inl ⟨Nat.eq_of_beq_eq_true hz, rfl⟩
  | false =>
   rw [hz] at h
   have hne : z ≠ H.nx := fun e => by subst e; simp at hz
   refine .inr ⟨hne, ?_⟩
   cases xo with
   | none => exact ⟨by simp, h⟩
   | some x =>
    simp only [rmo] at h
    rw [look_rm] at h
    split at h
    ·cases h
    ·rename_i hxz
     exact ⟨fun e => hxz (Option.some.inj e).symm, h⟩
 have gm : ∀ {l v}, G E w l v → G E' w' l v := fun h => h.ext hr hext
 have kne : ∀ z j s, some z ≠ xo → E.φ z = some (some j, s) → j ≠ k := by
  intro z j s hzx hz e
  subst e
  have hlt := (hr.nok z j s hz).2
  rcases hnew with h | ⟨x, s', hxo, h⟩
  ·omega
  ·exact hzx (by rw [hxo, hr.inj z x j s s' hz h])
 refine ⟨rfl, ?_, ?_, ?_, ?_, ?_, ?_, fun b hb => Nat.lt_of_lt_of_le (hr.okl b hb) hsz⟩
 ·intro z e' sz' es' hl
  rcases hlk z _ hl with ⟨rfl, hb⟩ | ⟨hne, hzx, hl⟩
  ·cases hb
   exact .inr ⟨k, arr, by simp [E'], hk, hle, h1, fun i cs hi => ⟨(hg i cs hi).1, fun j y hj => gm ((hg i cs hi).2 j y hj)⟩⟩
  ·rw [hφo z hne hzx]
   rcases hr.row z e' sz' es' hl with h | ⟨k', arr', h2, h3, h4, h5, h6⟩
   ·exact .inl h
   ·have hlt := (hr.nok z k' sz' h2).2
    exact .inr ⟨k', arr', h2, (hkeep k' hlt (kne z k' sz' hzx h2)).trans h3, h4, h5, fun i cs hi => ⟨(h6 i cs hi).1, fun j y hj => gm ((h6 i cs hi).2 j y hj)⟩⟩
 ·intro z es' hl
  rcases hlk z _ hl with ⟨rfl, hb⟩ | ⟨hne, hzx, hl⟩
  ·cases hb
  ·rw [hφo z hne hzx]
   obtain ⟨k', en, cl, h2, h3, h4, h5, h6, h7⟩ := hr.mp z es' hl
   have hlt := (hr.nok z k' 0 h2).2
   refine ⟨k', en, cl, h2, (hkeep k' hlt (kne z k' 0 hzx h2)).trans h3, h4, h5, h6, fun i p hp => ?_⟩
   obtain ⟨en', h8, h9, h10⟩ := h7 i p hp
   exact ⟨en', h8, gm h9, gm h10⟩
 ·intro z hl
  simp only [look] at hl
  cases hz : Nat.beq z H.nx with
  | true => rw [hz] at hl; cases hl
  | false =>
   rw [hz] at hl
   have hne : z ≠ H.nx := fun e => by subst e; simp at hz
   by_cases hzx : some z = xo
   ·simp only [E']; rw [if_neg hne, if_pos hzx]
   ·rw [hφo z hne hzx]
    refine hr.none z ?_
    cases xo with
    | none => exact hl
    | some x =>
     simp only [rmo] at hl
     rw [look_rm, if_neg (fun e => hzx (by rw [e]))] at hl
     exact hl
 ·intro z b hl
  rcases hlk z _ hl with ⟨rfl, _⟩ | ⟨_, _, hl⟩
  ·exact Nat.lt_succ_self _
  ·exact Nat.lt_succ_of_lt (hr.lt z b hl)
 ·intro x y j s s' hx' hy'
  rcases hφ x _ hx' with ⟨rfl, h1⟩ | ⟨hxx, h1⟩ <;> rcases hφ y _ hy' with ⟨rfl, h2⟩ | ⟨hyx, h2⟩
  ·rfl
  ·cases h1; exact absurd rfl (kne y k s' hyx h2)
  ·cases h2; exact absurd rfl (kne x k s hxx h1)
  ·exact hr.inj x y j s s' h1 h2
 ·intro z j s hz
  rcases hφ z _ hz with ⟨_, h⟩ | ⟨_, h⟩
  ·cases h
   exact ⟨hnok, (Array.getElem?_eq_some_iff.1 hk).1⟩
  ·exact ⟨(hr.nok z j s h).1, Nat.lt_of_lt_of_le (hr.nok z j s h).2 hsz⟩

theorem relH_virt {E : Env} {H : Heap} {w : World} (hr : RelH E H w) (xo : Option Nat) (e sz : Nat) :
  ∃ E', RelH E' ⟨H.nx + 1, (H.nx, .row e sz []) :: rmo xo H.live⟩ w ∧ Ext E w E' w ∧ E'.φ H.nx = some (none, sz) := by
 let E' : Env := ⟨H.nx + 1, fun z => if z = H.nx then some (none, sz) else if some z = xo then none else E.φ z, E.ok⟩
 have hφ : ∀ z q, E'.φ z = some q → (z = H.nx ∧ q = (none, sz)) ∨ (some z ≠ xo ∧ E.φ z = some q) := by
  intro z q h
  simp only [E'] at h
  split at h
  ·exact .inl ⟨by assumption, (Option.some.inj h).symm⟩
  ·split at h
   ·cases h
   ·exact .inr ⟨by assumption, h⟩
 have hφo : ∀ z, z ≠ H.nx → some z ≠ xo → E'.φ z = E.φ z := fun z h1 h2 => by simp only [E']; rw [if_neg h1, if_neg h2]
 have hext : Ext E w E' w := by
  refine ⟨by rw [hr.nx]; exact Nat.le_succ _, Nat.le_refl _, fun _ _ _ => rfl, fun _ a t fr h => ⟨a, fr, h, rfl⟩, ?_, fun b hb => hb, fun b hb => .inl hb, ?_, rfl, rfl, rfl⟩
  ·intro z hz
   rw [hr.nx] at hz
   by_cases hzx : some z = xo
   ·exact .inl (by simp only [E']; rw [if_neg (by omega), if_pos hzx])
   ·exact .inr (hφo z (by omega) hzx)
  ·intro z j s hz hzs
   rcases hφ z _ hzs with ⟨_, h⟩ | ⟨_, h⟩
   ·cases h
   ·exact .inr ⟨z, s, h⟩
 refine ⟨E', ?_, hext, by simp [E']⟩
 have hlk : ∀ z b, look ((H.nx, Blk.row e sz []) :: rmo xo H.live) z = some b →
   (z = H.nx ∧ b = .row e sz []) ∨ (z ≠ H.nx ∧ some z ≠ xo ∧ look H.live z = some b) := by
  intro z b h
  simp only [look] at h
  cases hz : Nat.beq z H.nx with
  | true => rw [hz] at h; cases h; exact .inl ⟨Nat.eq_of_beq_eq_true hz, rfl⟩
  | false =>
   rw [hz] at h
   have hne : z ≠ H.nx := fun e => by subst e; simp at hz
   refine .inr ⟨hne, ?_⟩
   cases xo with
   | none => exact ⟨by simp, h⟩
   | some x =>
    simp only [rmo] at h
    rw [look_rm] at h
    split at h
    ·cases h
    ·rename_i hxz
     exact ⟨fun e => hxz (Option.some.inj e).symm, h⟩
 have gm : ∀ {l v}, G E w l v → G E' w l v := fun h => h.ext hr hext
 refine ⟨rfl, ?_, ?_, ?_, ?_, ?_, ?_, hr.okl⟩
 ·intro z e' sz' es' hl
  rcases hlk z _ hl with ⟨rfl, hb⟩ | ⟨hne, hzx, hl⟩
  ·cases hb
   exact .inl ⟨by simp [E'], rfl⟩
  ·rw [hφo z hne hzx]
   rcases hr.row z e' sz' es' hl with h | ⟨k', arr', h2, h3, h4, h5, h6⟩
   ·exact .inl h
   ·exact .inr ⟨k', arr', h2, h3, h4, h5, fun i cs hi => ⟨(h6 i cs hi).1, fun j y hj => gm ((h6 i cs hi).2 j y hj)⟩⟩
 ·intro z es' hl
  rcases hlk z _ hl with ⟨rfl, hb⟩ | ⟨hne, hzx, hl⟩
  ·cases hb
  ·rw [hφo z hne hzx]
   obtain ⟨k', en, cl, h2, h3, h4, h5, h6, h7⟩ := hr.mp z es' hl
   refine ⟨k', en, cl, h2, h3, h4, h5, h6, fun i p hp => ?_⟩
   obtain ⟨en', h8, h9, h10⟩ := h7 i p hp
   exact ⟨en', h8, gm h9, gm h10⟩
 ·intro z hl
  simp only [look] at hl
  cases hz : Nat.beq z H.nx with
  | true => rw [hz] at hl; cases hl
  | false =>
   rw [hz] at hl
   have hne : z ≠ H.nx := fun e => by subst e; simp at hz
   by_cases hzx : some z = xo
   ·simp only [E']; rw [if_neg hne, if_pos hzx]
   ·rw [hφo z hne hzx]
    refine hr.none z ?_
    cases xo with
    | none => exact hl
    | some x =>
     simp only [rmo] at hl
     rw [look_rm, if_neg (fun e => hzx (by rw [e]))] at hl
     exact hl
 ·intro z b hl
  rcases hlk z _ hl with ⟨rfl, _⟩ | ⟨_, _, hl⟩
  ·exact Nat.lt_succ_self _
  ·exact Nat.lt_succ_of_lt (hr.lt z b hl)
 ·intro x y j s s' hx' hy'
  rcases hφ x _ hx' with ⟨rfl, h1⟩ | ⟨hxx, h1⟩ <;> rcases hφ y _ hy' with ⟨rfl, h2⟩ | ⟨hyx, h2⟩
  ·rfl
  ·cases h1
  ·cases h2
  ·exact hr.inj x y j s s' h1 h2
 ·intro z j s hz
  rcases hφ z _ hz with ⟨_, h⟩ | ⟨_, h⟩
  ·cases h
  ·exact hr.nok z j s h

theorem relH_store {E : Env} {H : Heap} {w w' : World} (hr : RelH E H w) {x e sz k : Nat} {es es' : List (List LV)} {arr arr' : Array Value}
  (hl : look H.live x = some (.row e sz es)) (hφ : E.φ x = some (some k, sz)) (hold : w.heap[k]? = some (.cells arr e (0, 0)))
  (hk : w'.heap[k]? = some (.cells arr' e (0, 0))) (hs : arr'.size = arr.size)
  (hsz : w'.heap.size = w.heap.size) (hkeep : ∀ j, j < w.heap.size → j ≠ k → w'.heap[j]? = w.heap[j]?)
  (hos : w'.os = w.os) (hout : w'.output = w.output) (htape : w'.tape = w.tape)
  (hle : es'.length * sz ≤ arr'.size) (h1 : ∀ i, i < es'.length * sz → (arr'.getD i undef).oneCell' = true)
  (hg : ∀ (i : Nat) (cs : List LV), es'[i]? = some cs → cs.length = sz ∧ ∀ j y, cs[j]? = some y → G E w y (arr'.getD (i * sz + j) undef)) :
  RelH E ⟨H.nx, upd x (.row e sz es') H.live⟩ w' ∧ Ext E w E w' := by
 have hext : Ext E w E w' := by
  refine ⟨Nat.le_refl _, by omega, ?_, ?_, fun _ _ => .inr rfl, fun _ h => h, fun _ h => .inl h, fun z j s _ h => .inr ⟨z, s, h⟩, hos, hout, htape⟩
  ·intro j hj hn
   exact hkeep j hj (fun e => hn x sz (e ▸ hφ))
  ·intro j a t fr hj
   by_cases hjk : j = k
   ·subst hjk
    rw [hold] at hj; cases hj
    exact ⟨arr', (0, 0), hk, hs⟩
   ·have hlt : j < w.heap.size := (Array.getElem?_eq_some_iff.1 hj).1
    exact ⟨a, fr, (hkeep j hlt hjk).trans hj, rfl⟩
 have gm : ∀ {l v}, G E w l v → G E w' l v := fun h => h.ext hr hext
 have hlk : ∀ z b, look (upd x (.row e sz es') H.live) z = some b → (z = x ∧ b = .row e sz es') ∨ (z ≠ x ∧ look H.live z = some b) := by
  intro z b h
  rw [look_upd] at h
  split at h
  ·rename_i hc
   exact .inl ⟨hc.1.symm, (Option.some.inj h).symm⟩
  ·rename_i hc
   refine .inr ⟨fun e => ?_, h⟩
   subst e
   exact hc ⟨rfl, by rw [hl]; rfl⟩
 refine ⟨⟨hr.nx, ?_, ?_, ?_, ?_, hr.inj, fun z j s hz => ⟨(hr.nok z j s hz).1, by rw [hsz]; exact (hr.nok z j s hz).2⟩, fun b hb => by rw [hsz]; exact hr.okl b hb⟩, hext⟩
 ·intro z e2 sz2 es2 hz
  rcases hlk z _ hz with ⟨rfl, hb⟩ | ⟨hne, hz⟩
  ·cases hb
   exact .inr ⟨k, arr', hφ, hk, hle, h1, fun i cs hi => ⟨(hg i cs hi).1, fun j y hj => gm ((hg i cs hi).2 j y hj)⟩⟩
  ·rcases hr.row z e2 sz2 es2 hz with h | ⟨k', arr2, h2, h3, h4, h5, h6⟩
   ·exact .inl h
   ·have hkk : k' ≠ k := fun e => by subst e; exact hne (hr.inj z x k' sz2 sz h2 hφ)
    have hlt := (hr.nok z k' sz2 h2).2
    exact .inr ⟨k', arr2, h2, (hkeep k' hlt hkk).trans h3, h4, h5, fun i cs hi => ⟨(h6 i cs hi).1, fun j y hj => gm ((h6 i cs hi).2 j y hj)⟩⟩
 ·intro z es2 hz
  rcases hlk z _ hz with ⟨rfl, hb⟩ | ⟨hne, hz⟩
  ·cases hb
  ·obtain ⟨k', en, cl, h2, h3, h4, h5, h6, h7⟩ := hr.mp z es2 hz
   have hkk : k' ≠ k := fun e => by subst e; exact hne (hr.inj z x k' 0 sz h2 hφ)
   have hlt := (hr.nok z k' 0 h2).2
   refine ⟨k', en, cl, h2, (hkeep k' hlt hkk).trans h3, h4, h5, h6, fun i p hp => ?_⟩
   obtain ⟨en', h8, h9, h10⟩ := h7 i p hp
   exact ⟨en', h8, gm h9, gm h10⟩
 ·intro z hz
  refine hr.none z ?_
  rw [look_upd] at hz
  split at hz
  ·cases hz
  ·exact hz
 ·intro z b hz
  rcases hlk z _ hz with ⟨rfl, _⟩ | ⟨_, hz⟩
  ·exact hr.lt z _ hl
  ·exact hr.lt z b hz
end Go.RX
