/- RX, part B: a nil slice in a box is a row that is still empty. -/
import Derived.Test.YtljecfgfbebjiaaRXA
import Derived.Test.YtljecfgfbebjiaaSeq
set_option linter.unusedVariables false
namespace Go.RX
variable {P : Program}
theorem LoopW.virtB {n n0 : Nat} {c : Code} {Q : Exit → Slots → Heap → Prop} {s : Slots} {H : Heap} (b t e sz : Nat) (hs : look H.live b = some (.row t 1 [[.nils]])) (hb : Nat.ble (b + 1) H.nx = true)
  (h : LoopW P n n0 c Q s ⟨H.nx + 1, upd b (.row t 1 [[.sl H.nx 0 0]]) ((H.nx, .row e sz []) :: H.live)⟩) : LoopW P n n0 c Q s H := by
 have hb := Nat.le_of_ble_eq_true hb
 intro E0 w0 hn E w a hsr hr hx
 obtain ⟨E', hr', hx', hφ⟩ := relH_virt hr none e sz
 have hs' := hsr.ext hr hx'
 have hne : Nat.beq b H.nx = false := by
  cases hq : Nat.beq b H.nx with
  | false => rfl
  | true => have := Nat.eq_of_beq_eq_true hq; omega
 have hl : look ((H.nx, .row e sz []) :: H.live) b = some (.row t 1 [[.nils]]) := by
  simp only [look, hne]; exact hs
 have hr2 := relH_box hr' (cs' := [.sl H.nx 0 0]) hl rfl (fun k arr h1 h2 j y hj => by
  match j, hj with
  | 0, hj =>
   simp at hj; subst hj
   have hold : E.φ b = some (some k, 1) := by
    rcases hx'.old b (by rw [hr.nx]; exact hb) with h3 | h3
    ·rw [h3] at h1; cases h1
    ·rw [← h3]; exact h1
   rcases hr.row b t 1 _ hs with ⟨h4, _⟩ | ⟨k', arr', h4, h5, _, _, h8⟩
   ·rw [hold] at h4; cases h4
   ·rw [hold] at h4
    have hk : k = k' := by injection h4 with h4; injection h4 with h4 _; injection h4
    subst hk
    rw [h2] at h5
    have ha : arr = arr' := by injection h5 with h5; injection h5
    subst ha
    have h9 : G E w .nils (arr.getD 0 undef) := (h8 0 [.nils] rfl).2 0 .nils rfl
    generalize arr.getD 0 undef = v at h9
    cases h9
    exact .slV _ _ hφ)
 exact h E0 w0 hn E' w a hs' hr2 (hx.trans hx')
theorem W.norm {n n0 : Nat} {c : Code} {Q : Exit → Slots → Heap → Prop} {s : Slots} {H : Heap} (s' : Slots) (m : Nat) (l' : List (Nat × Blk)) (hs : subC s s') (hl : subL H.live m l') (hb : belS m s')
  (h0 : Nat.ble n0 m = true) (h : W P n n0 c Q s' ⟨m, l'⟩) : W P n n0 c Q s H := by
 intro E0 w0 hn E w a hsr hr hx
 let E' : Env := ⟨m, fun x => if (look l' x).isSome then E.φ x else none, E.ok⟩
 have hl' := subL_spec hl
 have hφ : ∀ x q, E'.φ x = some q → (look l' x).isSome ∧ E.φ x = some q := by
  intro x q h
  simp only [E'] at h
  split at h
  ·exact ⟨by assumption, h⟩
  ·cases h
 have turn : ∀ {l v}, G E w l v → bel m l → G E' w l v := fun hg hbl => G.turn (E := E) (E' := E') (m := m) (fun b hb => hb) (fun x hx => by
  simp only [E']
  split
  ·exact .inl rfl
  ·exact .inr ⟨rfl, hx⟩) (Nat.le_refl _) hg hbl
 have hr' : RelH E' ⟨m, l'⟩ w := by
  refine ⟨rfl, ?_, ?_, ?_, fun x b hx => (hl' x b hx).2.1, ?_, ?_, hr.okl⟩
  ·intro x e sz es hx
   obtain ⟨h1, h2, h3⟩ := hl' x _ hx
   have hE : E'.φ x = E.φ x := by simp [E', hx]
   rw [hE]
   rcases hr.row x e sz es h1 with h4 | ⟨k, arr, h4, h5, h6, h7, h8⟩
   ·exact .inl h4
   ·exact .inr ⟨k, arr, h4, h5, h6, h7, fun i cs hi => ⟨(h8 i cs hi).1, fun j y hj => turn ((h8 i cs hi).2 j y hj) (h3 cs (List.mem_of_getElem? hi) y (List.mem_of_getElem? hj))⟩⟩
  ·intro x es hx
   obtain ⟨h1, h2, h3⟩ := hl' x _ hx
   have hE : E'.φ x = E.φ x := by simp [E', hx]
   rw [hE]
   obtain ⟨k, en, cl, h4, h5, h6, h7, h8, h9⟩ := hr.mp x es h1
   refine ⟨k, en, cl, h4, h5, h6, h7, h8, fun i p hp => ?_⟩
   obtain ⟨en', h10, h11, h12⟩ := h9 i p hp
   have := h3 p (List.mem_of_getElem? hp)
   exact ⟨en', h10, turn h11 this.1, turn h12 this.2⟩
  ·intro x hx
   simp only [E']
   rw [hx]
   rfl
  ·intro x y k s1 s2 h1 h2
   exact hr.inj x y k s1 s2 (hφ x _ h1).2 (hφ y _ h2).2
  ·intro x k s1 h1
   exact hr.nok x k s1 (hφ x _ h1).2
 refine h E0 w0 hn E' w a ⟨hsr.size, hsr.defers, fun t => ?_⟩ hr' ?_
 ·rcases subC_spec hs t with h1 | h1
  ·rw [h1]; exact .any _
  ·have hbt := belS_get (t := t) hb
   rw [h1] at hbt ⊢
   exact turn (hsr.slot t) hbt
 ·refine ⟨by rw [hn]; exact Nat.le_of_ble_eq_true h0, hx.size, hx.keep, hx.cells, ?_, hx.ok, hx.okNew, ?_, hx.os, hx.output, hx.tape⟩
  ·intro x hx0
   simp only [E']
   split
   ·exact hx.old x hx0
   ·exact .inl rfl
  ·intro x k s1 hx0 h1
   exact hx.fresh x k s1 hx0 (hφ x _ h1).2

end Go.RX
