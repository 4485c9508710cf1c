/- RX, part w: a loop's head, where the call's own blocks get new names. -/
import Derived.Test.YtljecfgfbebjiaaRXv
set_option linter.unusedVariables false
namespace Go.RX

def asc : List (Nat × Nat) → Nat → Option Nat
 | [], _ => none
 | (a, b) :: r, x => match Nat.beq a x with
  | true => some b
  | false => asc r x

mutual
def ren (ρ : List (Nat × Nat)) : LV → LV
 | .ptr x i o => match asc ρ x with
  | some y => .ptr y i o
  | none => .any
 | .sl x i o => match asc ρ x with
  | some y => .sl y i o
  | none => .any
 | .map x => match asc ρ x with
  | some y => .map y
  | none => .any
 | .agg cs => .agg (rens ρ cs)
 | .tup cs => .tup (rens ρ cs)
 | .func f a b => .func f (rens ρ a) (rens ρ b)
 | .iface t v => .iface t (ren ρ v)
 | .ite c a b => .ite c (ren ρ a) (ren ρ b)
 | v => v
def rens (ρ : List (Nat × Nat)) : List LV → List LV
 | [] => []
 | x :: r => ren ρ x :: rens ρ r
end

theorem rens_eq (ρ : List (Nat × Nat)) : ∀ l : List LV, rens ρ l = l.map (ren ρ)
 | [] => rfl
 | x :: r => by simp [rens, rens_eq ρ r]

mutual
theorem ren_NL {ρ : List (Nat × Nat)} : ∀ {l : LV}, NL l → ren ρ l = l
 | .agg cs, h => by simp only [NL] at h; simp only [ren, rens_NL h]
 | .tup cs, h => by simp only [NL] at h; simp only [ren, rens_NL h]
 | .func _ a b, h => by simp only [NL] at h; simp only [ren, rens_NL h.1, rens_NL h.2]
 | .iface _ v, h => by simp only [NL] at h; simp only [ren, ren_NL h]
 | .ite _ a b, h => by simp only [NL] at h; simp only [ren, ren_NL h.1, ren_NL h.2]
 | .ptr _ _ _, h => by simp [NL] at h
 | .sl _ _ _, h => by simp [NL] at h
 | .map _, h => by simp [NL] at h
 | .any, h => by simp [ren]
 | .und, h => by simp [ren]
 | .bool _, h => by simp [ren]
 | .int _ _, h => by simp [ren]
 | .str _, h => by simp [ren]
 | .nilp, h => by simp [ren]
 | .rptr _, h => by simp [ren]
 | .ro _ _, h => by simp [ren]
 | .nils, h => by simp [ren]
 | .nilm, h => by simp [ren]
 | .nilf, h => by simp [ren]
 | .nili, h => by simp [ren]
theorem rens_NL {ρ : List (Nat × Nat)} : ∀ {l : List LV}, NLs l → rens ρ l = l
 | [], h => rfl
 | x :: r, h => by simp only [NLs] at h; simp only [rens, ren_NL h.1, rens_NL h.2]
end

theorem G.ren {E E' : Env} {w : World} (hok : ∀ b, E.ok b → E'.ok b) {ρ : List (Nat × Nat)} (hm : ∀ x y, asc ρ x = some y → y < E'.nx ∧ (E'.φ y = E.φ x ∨ E'.φ y = none)) {l : LV} {v : Value} (h : G E w l v) : G E' w (ren ρ l) v := by
 induction h with
 | any v => exact .any v
 | und => exact .und
 | bool b => exact .bool b
 | int k n => exact .int k n
 | str s => exact .str s
 | agg cs arr hl h1 _ ih =>
  simp only [RX.ren, rens_eq]
  exact .agg _ arr (by simpa using hl) h1 (fun i x hi => by
   simp only [List.getElem?_map, Option.map_eq_some_iff] at hi
   obtain ⟨y, hy, rfl⟩ := hi
   exact ih i y hy)
 | tup cs arr hl _ ih =>
  simp only [RX.ren, rens_eq]
  exact .tup _ arr (by simpa using hl) (fun i x hi => by
   simp only [List.getElem?_map, Option.map_eq_some_iff] at hi
   obtain ⟨y, hy, rfl⟩ := hi
   exact ih i y hy)
 | nilp => exact .nilp
 | ptrDead x i o v h hx =>
  simp only [RX.ren]
  split
  ·rename_i y hy
   refine .ptrDead y i o v ?_ (hm x y hy).1
   rcases (hm x y hy).2 with h1 | h1
   ·rw [h1, h]
   ·exact h1
  ·exact .any _
 | ptr x i o k sz h =>
  simp only [RX.ren]
  split
  ·rename_i y hy
   rcases (hm x y hy).2 with h1 | h1
   ·exact .ptr y i o k sz (h1.trans h)
   ·exact .ptrDead y i o _ h1 (hm x y hy).1
  ·exact .any _
 | rptr cs b off f hok' hbl hn hc h1 _ ih =>
  refine .rptr cs b off f (hok b hok') hbl hn hc h1 (fun j x hj => ?_)
  have := ih j x hj
  rwa [ren_NL (hn j x hj)] at this
 | slDead x off len v h hx =>
  simp only [RX.ren]
  split
  ·rename_i y hy
   refine .slDead y off len v ?_ (hm x y hy).1
   rcases (hm x y hy).2 with h1 | h1
   ·rw [h1, h]
   ·exact h1
  ·exact .any _
 | sl x off len cap k sz arr t fr h hlc hcm hk hcap =>
  simp only [RX.ren]
  split
  ·rename_i y hy
   rcases (hm x y hy).2 with h1 | h1
   ·exact .sl y off len cap k sz arr t fr (h1.trans h) hlc hcm hk hcap
   ·exact .slDead y off len _ h1 (hm x y hy).1
  ·exact .any _
 | slV x sz h =>
  simp only [RX.ren]
  split
  ·rename_i y hy
   rcases (hm x y hy).2 with h1 | h1
   ·exact .slV y sz (h1.trans h)
   ·exact .slDead y 0 0 _ h1 (hm x y hy).1
  ·exact .any _
 | roNil sz => exact .roNil sz
 | roZ sz a => exact .roZ sz a
 | ro sz xs b off cap f hok' hbl hcap hsz hn hc h1 _ ih =>
  exact .ro sz xs b off cap f (hok b hok') hbl hcap hsz hn hc h1 (fun i cs j x hi hj => by
   have := ih i cs j x hi hj
   rwa [ren_NL (hn i cs j x hi hj)] at this)
 | nils => exact .nils
 | mapDead x v h hx =>
  simp only [RX.ren]
  split
  ·rename_i y hy
   refine .mapDead y v ?_ (hm x y hy).1
   rcases (hm x y hy).2 with h1 | h1
   ·rw [h1, h]
   ·exact h1
  ·exact .any _
 | map x k sz h =>
  simp only [RX.ren]
  split
  ·rename_i y hy
   rcases (hm x y hy).2 with h1 | h1
   ·exact .map y k sz (h1.trans h)
   ·exact .mapDead y _ h1 (hm x y hy).1
  ·exact .any _
 | nilm => exact .nilm
 | func fn a b c d hc hd _ _ ih1 ih2 =>
  simp only [RX.ren, rens_eq]
  exact .func fn _ _ c d (by simpa using hc) (by simpa using hd) (fun i x hi => by
   simp only [List.getElem?_map, Option.map_eq_some_iff] at hi
   obtain ⟨y, hy, rfl⟩ := hi
   exact ih1 i y hy) (fun i x hi => by
   simp only [List.getElem?_map, Option.map_eq_some_iff] at hi
   obtain ⟨y, hy, rfl⟩ := hi
   exact ih2 i y hy)
 | nilf => exact .nilf
 | iface t x v _ ih => simp only [RX.ren]; exact .iface t _ v ih
 | nili => exact .nili
 | iteT a b v _ ih => simp only [RX.ren]; exact .iteT _ _ v ih
 | iteF a b v _ ih => simp only [RX.ren]; exact .iteF _ _ v ih

def renS (ρ : List (Nat × Nat)) (s : Slots) : Slots → Prop
 | [] => True
 | (t, v) :: r => ren ρ (get s t) = v ∧ renS ρ s r
theorem renS_spec {ρ : List (Nat × Nat)} {s : Slots} : ∀ {s' : Slots}, renS ρ s s' → ∀ t, get s' t = .any ∨ get s' t = ren ρ (get s t)
 | [], h, t => .inl rfl
 | (u, v) :: r, h, t => by
  simp only [get]
  cases hb : Nat.beq t u with
  | true => have := Nat.eq_of_beq_eq_true hb; subst this; exact .inr h.1.symm
  | false => exact renS_spec h.2 t

def renB (ρ : List (Nat × Nat)) : Blk → Blk → Prop
 | .row e sz es, .row e' sz' es' => e = e' ∧ sz = sz' ∧ ((es = es' ∧ NLss es) ∨ es.map (rens ρ) = es')
 | .mp es, .mp es' => (es = es' ∧ ∀ p ∈ es, NL p.1 ∧ NL p.2) ∨ (es.map fun p => (ren ρ p.1, ren ρ p.2)) = es'
 | _, _ => False

def renL (ρ : List (Nat × Nat)) (l : List (Nat × Blk)) (m n0 : Nat) : List (Nat × Nat) → List (Nat × Blk) → Prop
 | [], [] => True
 | (x, y) :: q, (z, b') :: r => (match look l x with
   | some b => renB ρ b b'
   | none => False) ∧ Nat.beq y z = true ∧ Nat.ble n0 y = true ∧ renL ρ l m n0 q r
 | _, _ => False

theorem renL_spec {ρ : List (Nat × Nat)} {l : List (Nat × Blk)} {m n0 : Nat} : ∀ {q : List (Nat × Nat)} {l' : List (Nat × Blk)}, renL ρ l m n0 q l' → ∀ y b', look l' y = some b' → ∃ x b, (x, y) ∈ q ∧ look l x = some b ∧ renB ρ b b' ∧ n0 ≤ y
 | [], [], h, y, b', hl => by simp [look] at hl
 | (x, y) :: q, (z, b) :: r, h, u, b', hl => by
  obtain ⟨h1, h2, h3, h4⟩ := h
  have := Nat.eq_of_beq_eq_true h2; subst this
  simp only [look] at hl
  cases hb : Nat.beq u y with
  | true =>
   rw [hb] at hl
   cases hl
   have := Nat.eq_of_beq_eq_true hb; subst this
   split at h1
   ·rename_i b hbk
    exact ⟨x, b, List.mem_cons_self, hbk, h1, Nat.le_of_ble_eq_true h3⟩
   ·exact h1.elim
  | false =>
   rw [hb] at hl
   obtain ⟨x', b2, h5, h6⟩ := renL_spec h4 u b' hl
   exact ⟨x', b2, List.mem_cons_of_mem _ h5, h6⟩
 | [], _ :: _, h, _, _, _ => h.elim
 | _ :: _, [], h, _, _, _ => h.elim

def onceP (m : Nat) : List (Nat × Nat) → Bool
 | [] => true
 | (x, y) :: r => match Nat.ble (y + 1) m, inT x (r.map (·.1)), inT y (r.map (·.2)) with
  | true, false, false => onceP m r
  | _, _, _ => false

theorem onceP_spec {m : Nat} : ∀ {ρ : List (Nat × Nat)}, onceP m ρ = true → (∀ p ∈ ρ, p.2 < m) ∧ (∀ p ∈ ρ, ∀ q ∈ ρ, p.1 = q.1 → p = q) ∧ ∀ p ∈ ρ, ∀ q ∈ ρ, p.2 = q.2 → p = q
 | [], h => by simp
 | (x, y) :: r, h => by
  simp only [onceP] at h
  split at h
  ·rename_i h1 h2 h3
   obtain ⟨i1, i2, i3⟩ := onceP_spec h
   have n2 : ∀ p ∈ r, p.1 ≠ x := fun p hp e => by
    rw [inT_iff.2 (List.mem_map.2 ⟨p, hp, e⟩)] at h2; cases h2
   have n3 : ∀ p ∈ r, p.2 ≠ y := fun p hp e => by
    rw [inT_iff.2 (List.mem_map.2 ⟨p, hp, e⟩)] at h3; cases h3
   refine ⟨fun p hp => ?_, fun p hp q hq he => ?_, fun p hp q hq he => ?_⟩
   ·rcases List.mem_cons.1 hp with rfl | hp
    ·exact Nat.le_of_ble_eq_true h1
    ·exact i1 p hp
   ·rcases List.mem_cons.1 hp with rfl | hp <;> rcases List.mem_cons.1 hq with rfl | hq
    ·rfl
    ·exact absurd he.symm (n2 q hq)
    ·exact absurd he (n2 p hp)
    ·exact i2 p hp q hq he
   ·rcases List.mem_cons.1 hp with rfl | hp <;> rcases List.mem_cons.1 hq with rfl | hq
    ·rfl
    ·exact absurd he.symm (n3 q hq)
    ·exact absurd he (n3 p hp)
    ·exact i3 p hp q hq he
  ·cases h

theorem asc_mem : ∀ {ρ : List (Nat × Nat)} {x y : Nat}, asc ρ x = some y → (x, y) ∈ ρ
 | [], x, y, h => by cases h
 | (a, b) :: r, x, y, h => by
  simp only [asc] at h
  split at h
  ·rename_i hb; have := Nat.eq_of_beq_eq_true hb; subst this; cases h; exact List.mem_cons_self
  ·exact List.mem_cons_of_mem _ (asc_mem h)

section
variable {P : Program} {T : List (Nat × TE)}

theorem LoopW.ren {n n0 : Nat} {c : Code} {Q : Exit → Slots → Heap → Prop} {s : Slots} {H : Heap} (ρ : List (Nat × Nat)) (s' : Slots) (m : Nat) (l' : List (Nat × Blk)) (hρ : onceP m ρ = true) (hs : renS ρ s s')
  (hl : renL ρ H.live m n0 ρ l') (h0 : Nat.ble n0 m = true) (h : LoopW P n n0 c Q s' ⟨m, l'⟩) : LoopW P n n0 c Q s H := by
 intro E0 w0 hn E w a hsr hr hx
 obtain ⟨hlt, hi1, hi2⟩ := onceP_spec hρ
 have hl' := renL_spec hl
 let pre : Nat → Option Nat := fun y => (ρ.find? fun p => p.2 == y).map (·.1)
 have hpre : ∀ x y, (x, y) ∈ ρ → pre y = some x := by
  intro x y hm
  simp only [pre]
  cases hf : ρ.find? (fun p => p.2 == y) with
  | none =>
   have := List.find?_eq_none.1 hf _ hm
   simp at this
  | some p =>
   have h1 := List.mem_of_find?_eq_some hf
   have h2 : p.2 = y := by simpa using List.find?_some hf
   have := hi2 p h1 (x, y) hm h2
   subst this
   rfl
 let E' : Env := ⟨m, fun y => if (look l' y).isSome then (pre y).bind E.φ else none, E.ok⟩
 have hφ : ∀ y b', look l' y = some b' → ∃ x b, (x, y) ∈ ρ ∧ look H.live x = some b ∧ renB ρ b b' ∧ n0 ≤ y ∧ E'.φ y = E.φ x := by
  intro y b' hy
  obtain ⟨x, b, h1, h2, h3, h4⟩ := hl' y b' hy
  refine ⟨x, b, h1, h2, h3, h4, ?_⟩
  simp only [E', hy, Option.isSome_some, if_true, hpre x y h1, Option.bind_some]
 have hφ2 : ∀ y q, E'.φ y = some q → ∃ x, (x, y) ∈ ρ ∧ n0 ≤ y ∧ E.φ x = some q := by
  intro y q hq
  cases hy : look l' y with
  | none => simp [E', hy] at hq
  | some b' =>
   obtain ⟨x, b, h1, h2, h3, h4, h5⟩ := hφ y b' hy
   exact ⟨x, h1, h4, by rw [← h5, hq]⟩
 have turn : ∀ {l v}, G E w l v → G E' w (RX.ren ρ l) v := fun hg => G.ren (E := E) (E' := E') (fun b hb => hb) (fun x y hxy => by
  have hm := asc_mem hxy
  refine ⟨hlt _ hm, ?_⟩
  cases hy : look l' y with
  | none => exact .inr (by simp [E', hy])
  | some b' =>
   obtain ⟨x', b, h1, _, _, _, h5⟩ := hφ y b' hy
   have := hi2 _ h1 _ hm rfl
   cases this
   exact .inl h5) hg
 have hr' : RelH E' ⟨m, l'⟩ w := by
  refine ⟨rfl, ?_, ?_, ?_, ?_, ?_, ?_, hr.okl⟩
  ·intro y e sz es' hy
   obtain ⟨x, b, h1, h2, h3, h4, h5⟩ := hφ y _ hy
   rw [h5]
   cases b with
   | mp es => exact h3.elim
   | row e0 sz0 es =>
    obtain ⟨rfl, rfl, hes⟩ := h3
    have hlen : es.length = es'.length := by rcases hes with ⟨rfl, _⟩ | rfl <;> simp
    rcases hr.row x _ _ es h2 with ⟨h6, h7⟩ | ⟨k, arr, h6, h7, h8, h9, h10⟩
    ·refine .inl ⟨h6, ?_⟩
     subst h7
     exact List.eq_nil_of_length_eq_zero hlen.symm
    ·refine .inr ⟨k, arr, h6, h7, by rw [← hlen]; exact h8, by rw [← hlen]; exact h9, fun i cs hi => ?_⟩
     rcases hes with ⟨rfl, hnl⟩ | rfl
     ·obtain ⟨h11, h12⟩ := h10 i cs hi
      refine ⟨h11, fun j z hj => ?_⟩
      have := turn (h12 j z hj)
      rwa [ren_NL (NLss_iff.1 hnl cs (List.mem_of_getElem? hi) z (List.mem_of_getElem? hj))] at this
     ·simp only [List.getElem?_map, Option.map_eq_some_iff] at hi
      obtain ⟨cs0, hi, rfl⟩ := hi
      obtain ⟨h11, h12⟩ := h10 i cs0 hi
      refine ⟨by rw [rens_eq, List.length_map]; exact h11, fun j z hj => ?_⟩
      rw [rens_eq] at hj
      simp only [List.getElem?_map, Option.map_eq_some_iff] at hj
      obtain ⟨z0, hj, rfl⟩ := hj
      exact turn (h12 j z0 hj)
  ·intro y es' hy
   obtain ⟨x, b, h1, h2, h3, h4, h5⟩ := hφ y _ hy
   cases b with
   | row e0 sz0 es => exact h3.elim
   | mp es =>
    obtain ⟨k, en, cl, h6, h7, h8, h9, h10, h11⟩ := hr.mp x es h2
    refine ⟨k, en, cl, by rw [h5]; exact h6, h7, by rw [h8]; rcases h3 with ⟨rfl, _⟩ | rfl <;> simp, h9, h10, fun i p hp => ?_⟩
    rcases h3 with ⟨rfl, hnl⟩ | rfl
    ·obtain ⟨e1, h12, h13, h14⟩ := h11 i p hp
     have hn := hnl p (List.mem_of_getElem? hp)
     have g1 := turn h13
     have g2 := turn h14
     rw [ren_NL hn.1] at g1
     rw [ren_NL hn.2] at g2
     exact ⟨e1, h12, g1, g2⟩
    ·simp only [List.getElem?_map, Option.map_eq_some_iff] at hp
     obtain ⟨p0, hp, rfl⟩ := hp
     obtain ⟨e1, h12, h13, h14⟩ := h11 i p0 hp
     exact ⟨e1, h12, turn h13, turn h14⟩
  ·intro y hy
   simp only at hy
   simp only [E', hy]
   rfl
  ·intro y b' hy
   obtain ⟨x, b, h1, _⟩ := hφ y b' hy
   exact hlt _ h1
  ·intro y z k s1 s2 h1 h2
   obtain ⟨x1, m1, _, e1⟩ := hφ2 y _ h1
   obtain ⟨x2, m2, _, e2⟩ := hφ2 z _ h2
   have := hr.inj x1 x2 k s1 s2 e1 e2
   subst this
   have := hi1 _ m1 _ m2 rfl
   cases this
   rfl
  ·intro y k s1 h1
   obtain ⟨x1, m1, _, e1⟩ := hφ2 y _ h1
   exact hr.nok x1 k s1 e1
 refine h E0 w0 hn E' w a ⟨hsr.size, hsr.defers, fun t => ?_⟩ hr' ?_
 ·rcases renS_spec hs t with h1 | h1
  ·rw [h1]; exact .any _
  ·rw [h1]; exact turn (hsr.slot t)
 ·have reach : ∀ x k s1, E.φ x = some (some k, s1) → w0.heap.size ≤ k ∨ ∃ y s', E0.φ y = some (some k, s') := by
   intro x k s1 hx1
   rcases Nat.lt_or_ge x E0.nx with hlt0 | hge
   ·rcases hx.old x hlt0 with h1 | h1
    ·rw [h1] at hx1; cases hx1
    ·exact .inr ⟨x, s1, h1 ▸ hx1⟩
   ·exact hx.fresh x k s1 hge hx1
  refine ⟨by rw [hn]; exact Nat.le_of_ble_eq_true h0, hx.size, hx.keep, hx.cells, ?_, hx.ok, hx.okNew, ?_, hx.os, hx.output, hx.tape⟩
  ·intro y hy
   left
   cases hq : E'.φ y with
   | none => rfl
   | some q =>
    obtain ⟨x, _, h4, _⟩ := hφ2 y q hq
    omega
  ·intro y k s1 hy h1
   obtain ⟨x, _, _, e1⟩ := hφ2 y _ h1
   exact reach x k s1 e1
end
end Go.RX
