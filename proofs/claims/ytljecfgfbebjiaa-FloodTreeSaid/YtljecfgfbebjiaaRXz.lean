/- RX, part z: what a call leaves behind is dropped. -/
import Derived.Test.YtljecfgfbebjiaaRXy
set_option linter.unusedVariables false
namespace Go.RX

section
variable {P : Program} {T : List (Nat × TE)}

theorem relH_sub {E : Env} {H : Heap} {w : World} (hr : RelH E H w) {m : Nat} {l' : List (Nat × Blk)} (hl : subL H.live m l') :
  ∃ E', E'.nx = m ∧ E'.ok = E.ok ∧ RelH E' ⟨m, l'⟩ w ∧ (∀ {l : LV} {v : Value}, G E w l v → bel m l → G E' w l v) ∧ (∀ x q, E'.φ x = some q → x < m ∧ E.φ x = some q) := by
 let E' : Env := ⟨m, fun x => if (look l' x).isSome then E.φ x else none, E.ok⟩
 have hl' := subL_spec hl
 have hφ : ∀ x q, E'.φ x = some q → (look l' x).isSome ∧ E.φ x = some q := by
  intro x q h
  simp only [E'] at h
  split at h
  ·exact ⟨by assumption, h⟩
  ·cases h
 have turn : ∀ {l v}, G E w l v → bel m l → G E' w l v := fun hg hbl => G.turn (E := E) (E' := E') (m := m) (fun b hb => hb) (fun x hx => by
  simp only [E']
  split
  ·exact .inl rfl
  ·exact .inr ⟨rfl, hx⟩) (Nat.le_refl _) hg hbl
 refine ⟨E', rfl, rfl, ⟨rfl, ?_, ?_, ?_, fun x b hx => (hl' x b hx).2.1, ?_, ?_, hr.okl⟩, turn, fun x q h => ?_⟩
 ·intro x e sz es hx
  obtain ⟨h1, h2, h3⟩ := hl' x _ hx
  have hE : E'.φ x = E.φ x := by simp [E', hx]
  rw [hE]
  rcases hr.row x e sz es h1 with h4 | ⟨k, arr, h4, h5, h6, h7, h8⟩
  ·exact .inl h4
  ·exact .inr ⟨k, arr, h4, h5, h6, h7, fun i cs hi => ⟨(h8 i cs hi).1, fun j y hj => turn ((h8 i cs hi).2 j y hj) (h3 cs (List.mem_of_getElem? hi) y (List.mem_of_getElem? hj))⟩⟩
 ·intro x es hx
  obtain ⟨h1, h2, h3⟩ := hl' x _ hx
  have hE : E'.φ x = E.φ x := by simp [E', hx]
  rw [hE]
  obtain ⟨k, en, cl, h4, h5, h6, h7, h8, h9⟩ := hr.mp x es h1
  refine ⟨k, en, cl, h4, h5, h6, h7, h8, fun i p hp => ?_⟩
  obtain ⟨en', h10, h11, h12⟩ := h9 i p hp
  have := h3 p (List.mem_of_getElem? hp)
  exact ⟨en', h10, turn h11 this.1, turn h12 this.2⟩
 ·intro x hx
  simp only [E']
  rw [hx]
  rfl
 ·intro x y k s1 s2 h1 h2
  exact hr.inj x y k s1 s2 (hφ x _ h1).2 (hφ y _ h2).2
 ·intro x k s1 h1
  exact hr.nok x k s1 (hφ x _ h1).2
 ·obtain ⟨h1, h2⟩ := hφ x q h
  obtain ⟨b, hb⟩ := Option.isSome_iff_exists.1 h1
  exact ⟨(hl' x b hb).2.1, h2⟩

theorem CallW.shrink {f : FuncId} {args : List LV} {H : Heap} {K : LV → Heap → Prop} (h : CallW P f args H fun lv H' => ∃ l', subL H'.live H.nx l' ∧ bel H.nx lv ∧ K lv ⟨H.nx, l'⟩) : CallW P f args H K := by
 refine ⟨h.1, fun E w vals hr hg => (h.2 E w vals hr hg).mono fun e w' he => ?_⟩
 cases e with
 | panicked c => exact he.elim
 | outgrown => exact he.elim
 | returned v =>
  obtain ⟨E1, lv, H1, ⟨l', h1, h2, h3⟩, hr1, hgv, hx⟩ := he
  obtain ⟨E2, e1, e2, hr2, ht, hφ⟩ := relH_sub hr1 h1
  refine ⟨E2, lv, _, h3, hr2, ht hgv h2, ⟨by rw [e1, hr.nx]; exact Nat.le_refl _, hx.size, hx.keep, hx.cells, fun x hxl => ?_, fun b hb => by rw [e2]; exact hx.ok b hb, fun b hb => hx.okNew b (by rw [e2] at hb; exact hb), fun x k s hxn h4 => ?_, hx.os, hx.output, hx.tape⟩⟩
  ·cases hc : E2.φ x with
   | none => exact .inl rfl
   | some q =>
    have h5 := (hφ x q hc).2
    rcases hx.old x hxl with h6 | h6
    ·rw [h6] at h5; cases h5
    ·exact .inr (by rw [← h6, h5])
  ·obtain ⟨h5, h6⟩ := hφ x _ h4
   rw [hr.nx] at hxn
   omega
theorem CallF.of {f : FuncId} {args : List LV} {e sz : Nat} {es : List (List LV)} (hnl : NLss es)
  (h : CallW P f args ⟨0, []⟩ fun lv H' => (lv = .nils ∧ es = []) ∨ ∃ y, lv = .sl y 0 es.length ∧ look H'.live y = some (.row e sz es)) : CallF P f args e sz es := by
 refine ⟨h.1, fun E w vals hr hg => (h.2 E w vals hr hg).mono fun ee w' he => ?_⟩
 cases ee with
 | panicked c => exact he.elim
 | outgrown => exact he.elim
 | returned v =>
  obtain ⟨E1, lv, H1, hc, hr1, hgv, hx⟩ := he
  have hE0 : E.nx = 0 := hr.nx
  have beq0 : ∀ x b, look [(0, b)] x = (if x = 0 then some b else (none : Option Blk)) := fun x b => by
   cases x with
   | zero => rfl
   | succ n => rfl
  rcases hc with ⟨rfl, rfl⟩ | ⟨y, rfl, hl⟩
  ·cases hgv
   refine ⟨⟨1, fun x => if x = 0 then some (none, sz) else none, E1.ok⟩, .sl 0 0 0, ⟨1, [(0, .row e sz [])]⟩, ⟨rfl, rfl⟩, ⟨rfl, ?_, ?_, ?_, ?_, ?_, ?_, hr1.okl⟩, .slV 0 sz rfl, ⟨by rw [hE0]; exact Nat.zero_le _, hx.size, hx.keep, hx.cells, fun x hxl => by omega, hx.ok, hx.okNew, ?_, hx.os, hx.output, hx.tape⟩⟩
   ·intro x e' sz' es' hlk
    rw [beq0] at hlk
    split at hlk
    ·rename_i h0; cases hlk; exact .inl ⟨if_pos h0, rfl⟩
    ·cases hlk
   ·intro x es' hlk
    rw [beq0] at hlk
    split at hlk <;> cases hlk
   ·intro x hlk
    rw [beq0] at hlk
    split at hlk
    ·cases hlk
    ·rename_i h0; exact if_neg h0
   ·intro x b hlk
    rw [beq0] at hlk
    split at hlk
    ·show x < 1; omega
    ·cases hlk
   ·intro x x' k s s' h1 h2
    simp only at h1
    split at h1 <;> cases h1
   ·intro x k s h1
    simp only at h1
    split at h1 <;> cases h1
   ·intro x k s _ h1
    simp only at h1
    split at h1 <;> cases h1
  ·let F : Env := ⟨1, fun x => if x = 0 then E1.φ y else none, E1.ok⟩
   have F0 : F.φ 0 = E1.φ y := by show (if (0 : Nat) = 0 then E1.φ y else none) = E1.φ y; exact if_pos rfl
   have gn : ∀ {l : LV} {u : Value}, NL l → G E1 w' l u → G F w' l u := fun hl h => G.turn (E := E1) (E' := F) (m := 0) (fun b hb => hb) (fun x hx => by omega) (Nat.zero_le _) h hl.bel
   have honly : ∀ x q, F.φ x = some q → x = 0 ∧ E1.φ y = some q := fun x q h => by
    simp only [F] at h
    split at h
    ·rename_i h0; exact ⟨h0, h⟩
    ·cases h
   refine ⟨F, .sl 0 0 es.length, ⟨1, [(0, .row e sz es)]⟩, ⟨rfl, rfl⟩, ⟨rfl, ?_, ?_, ?_, ?_, ?_, ?_, hr1.okl⟩, ?_, ⟨by rw [hE0]; exact Nat.zero_le _, hx.size, hx.keep, hx.cells, fun x hxl => by omega, hx.ok, hx.okNew, ?_, hx.os, hx.output, hx.tape⟩⟩
   ·intro x e' sz' es' hlk
    rw [beq0] at hlk
    split at hlk
    ·rename_i h0
     cases hlk
     rw [h0, F0]
     rcases hr1.row y e sz es hl with h1 | ⟨k, arr, h1, h2, h3, h4, h5⟩
     ·exact .inl h1
     ·exact .inr ⟨k, arr, h1, h2, h3, h4, fun i cs hi => ⟨(h5 i cs hi).1, fun j u hj => gn (NLss_iff.1 hnl cs (List.mem_of_getElem? hi) u (List.mem_of_getElem? hj)) ((h5 i cs hi).2 j u hj)⟩⟩
    ·cases hlk
   ·intro x es' hlk
    rw [beq0] at hlk
    split at hlk <;> cases hlk
   ·intro x hlk
    rw [beq0] at hlk
    split at hlk
    ·cases hlk
    ·rename_i h0; exact if_neg h0
   ·intro x b hlk
    rw [beq0] at hlk
    split at hlk
    ·show x < 1; omega
    ·cases hlk
   ·intro x x' k s s' h1 h2
    rw [(honly x _ h1).1, (honly x' _ h2).1]
   ·intro x k s h1
    exact hr1.nok y k s (honly x _ h1).2
   ·generalize hlen : es.length = len at hgv ⊢
    have hne : E1.φ y ≠ none := by
     rcases hr1.row y e sz es hl with ⟨h1, _⟩ | ⟨k, arr, h1, _⟩ <;> rw [h1] <;> simp
    cases hgv with
    | slDead _ _ _ _ h1 _ => exact absurd h1 hne
    | sl _ _ _ cap k s arr t fr h1 h2 h3 h4 h5 => exact .sl 0 0 len cap k s arr t fr (F0.trans h1) h2 h3 h4 h5
    | slV _ s h1 => exact .slV 0 s (F0.trans h1)
   ·intro x k s _ h1
    exact hx.fresh y k s (by omega) (honly x _ h1).2
end
end Go.RX
