/- RX, part o: code; loops; a call out of a body; a call that is seen by its value alone. -/
import Derived.Test.YtljecfgfbebjiaaRXn
import Derived.Scope
set_option linter.unusedVariables false
namespace Go.RX

section
variable {P : Program} {T : List (Nat × TE)}

def Phys (E0 : Env) (w0 : World) (n : Nat) (Q : Exit → Slots → Heap → Prop) : Exit → Act → World → Prop :=
 fun e a w => ∃ E s H, Q e s H ∧ SR E w n s a ∧ RelH E H w ∧ Ext E0 w0 E w

def W (P : Program) (n n0 : Nat) (c : Code) (Q : Exit → Slots → Heap → Prop) (s : Slots) (H : Heap) : Prop :=
 ∀ (E0 : Env) (w0 : World), E0.nx = n0 → ∀ (E : Env) (w : World) (a : Act), SR E w n s a → RelH E H w → Ext E0 w0 E w → c.wp P (Phys E0 w0 n Q) a w

def LoopFrom (P : Program) (c : Code) (Q : Exit → Act → World → Prop) (a : Act) (w : World) : Prop :=
 ∀ (b : Frame) (k : List Item) (cs : List Frame), ∃ e a' w', Q e a' w' ∧ Arrives P (lone (b.at a (.code c :: .inLoop c :: k)) cs w) b k cs e a' w'

theorem LoopFrom.wp {c : Code} {Q : Exit → Act → World → Prop} {a : Act} {w : World} (h : LoopFrom P c Q a w) : (Code.loop c).wp P Q a w := by
 intro b k cs
 obtain ⟨e, a', w', hq, harr⟩ := h b k cs
 exact ⟨e, a', w', hq, .of_steps (.one step_loop) harr⟩

theorem LoopFrom.unfold {c : Code} {Q : Exit → Act → World → Prop} {a : Act} {w : World} (h : c.wp P (Exit.then (LoopFrom P c Q) Q) a w) : LoopFrom P c Q a w := by
 intro b k cs
 obtain ⟨e, a₁, w₁, hq, harr⟩ := h b (.inLoop c :: k) cs
 cases e with
 | normal =>
  obtain ⟨e₂, a₂, w₂, hq₂, harr₂⟩ := hq b k cs
  exact ⟨e₂, a₂, w₂, hq₂, .of_steps (Steps.trans harr (.one step_inLoop)) harr₂⟩
 | exit id => exact ⟨_, a₁, w₁, hq, .pass (x := .inLoop c) rfl (fun _ _ => .inl (by simp)) harr⟩
 | goto l => exact ⟨_, a₁, w₁, hq, .pass (x := .inLoop c) rfl (fun _ _ => .inl (by simp)) harr⟩
 | ret => exact ⟨_, a₁, w₁, hq, .pass (x := .inLoop c) rfl (fun _ _ => .inl (by simp)) harr⟩
 | panic ch => exact ⟨_, a₁, w₁, hq, .pass (x := .inLoop c) rfl (fun _ _ => .inl (by simp)) harr⟩
 | outgrown => exact ⟨_, a₁, w₁, hq, .pass (x := .inLoop c) rfl (fun _ _ => .inl (by simp)) harr⟩

def LoopW (P : Program) (n n0 : Nat) (c : Code) (Q : Exit → Slots → Heap → Prop) (s : Slots) (H : Heap) : Prop :=
 ∀ (E0 : Env) (w0 : World), E0.nx = n0 → ∀ (E : Env) (w : World) (a : Act), SR E w n s a → RelH E H w → Ext E0 w0 E w → LoopFrom P c (Phys E0 w0 n Q) a w

def thenK (next : Slots → Heap → Prop) (Q : Exit → Slots → Heap → Prop) : Exit → Slots → Heap → Prop
 | .normal, s, H => next s H
 | .exit i, s, H => Q (.exit i) s H
 | .goto l, s, H => Q (.goto l) s H
 | .ret, s, H => Q .ret s H
 | .panic c, s, H => Q (.panic c) s H
 | .outgrown, s, H => Q .outgrown s H

def blockK (id : Nat) (Q : Exit → Slots → Heap → Prop) : Exit → Slots → Heap → Prop
 | .normal, s, H => Q .normal s H
 | .exit i, s, H => match Nat.beq i id with
  | true => Q .normal s H
  | false => Q (.exit i) s H
 | .goto l, s, H => Q (.goto l) s H
 | .ret, s, H => Q .ret s H
 | .panic c, s, H => Q (.panic c) s H
 | .outgrown, s, H => Q .outgrown s H

def keepK : List Nat → Slots → (Slots → Prop) → Prop
 | [], s, k => k []
 | t :: r, s, k => match get s t with
  | .any => keepK r s k
  | v => force v fun v => keepK r s fun s' => k ((t, v) :: s')

theorem keepK_spec {s : Slots} : ∀ {l : List Nat} {k : Slots → Prop}, keepK l s k → ∃ s', k s' ∧ ∀ t, get s' t = .any ∨ get s' t = get s t
 | [], k, h => ⟨[], h, fun t => .inl rfl⟩
 | u :: r, k, h => by
  simp only [keepK] at h
  split at h
  ·exact keepK_spec h
  ·rename_i hne
   rw [force_eq] at h
   obtain ⟨s', h1, h2⟩ := keepK_spec h
   refine ⟨_, h1, fun t => ?_⟩
   simp only [get]
   cases hb : Nat.beq t u with
   | true => exact .inr (by rw [Nat.eq_of_beq_eq_true hb])
   | false => exact h2 t

theorem SR.sub {E : Env} {w : World} {n : Nat} {s s' : Slots} {a : Act} (h : SR E w n s a) (hs : ∀ t, get s' t = .any ∨ get s' t = get s t) : SR E w n s' a :=
 ⟨h.size, h.defers, fun t => by
  rcases hs t with h1 | h1
  ·rw [h1]; exact .any _
  ·rw [h1]; exact h.slot t⟩

def noGotoK (Q : Exit → Slots → Heap → Prop) : Exit → Slots → Heap → Prop
 | .normal, s, H => Q .normal s H
 | .exit i, s, H => Q (.exit i) s H
 | .goto _, _, _ => False
 | .ret, s, H => Q .ret s H
 | .panic c, s, H => Q (.panic c) s H
 | .outgrown, s, H => Q .outgrown s H

def wpc (P : Program) (T : List (Nat × TE)) (n n0 : Nat) (keep : List Nat) : Code → (Exit → Slots → Heap → Prop) → Slots → Heap → Prop
 | .skip, Q, s, H => Q .normal s H
 | .label _, Q, s, H => Q .normal s H
 | .region id ops draw, Q, s, H => match draw with
  | false => wpr P T n keep ops.toList ops.toList s H fun s' H' => keepK keep s' fun s'' => Q .normal s'' H'
  | true => W P n n0 (.region id ops true) (thenK (fun s' H' => keepK keep s' fun s'' => Q .normal s'' H') Q) s H
 | .seq a b, Q, s, H => wpc P T n n0 keep a (thenK (fun s H => wpc P T n n0 keep b Q s H) Q) s H
 | .cond c a b, Q, s, H => match asB (ev s c) with
  | some (t, p) => p ∧ (t = true → wpc P T n n0 keep a Q s H) ∧ (t = false → wpc P T n n0 keep b Q s H)
  | none => False
 | .block id c, Q, s, H => wpc P T n n0 keep c (blockK id Q) s H
 | .loop c, Q, s, H => LoopW P n n0 c Q s H
 | .scope c, Q, s, H => wpc P T n n0 keep c (noGotoK Q) s H
 | .exit id, Q, s, H => Q (.exit id) s H
 | .ret, Q, s, H => Q .ret s H
 | _, _, _, _ => False

theorem Phys.mono {E0 : Env} {w0 : World} {n : Nat} {Q Q' : Exit → Slots → Heap → Prop} (h : ∀ e s H, Q e s H → Q' e s H) : ∀ e a w, Phys E0 w0 n Q e a w → Phys E0 w0 n Q' e a w :=
 fun e a w ⟨E, s, H, hq, r⟩ => ⟨E, s, H, h e s H hq, r⟩

theorem W.mono {n n0 : Nat} {c : Code} {Q Q' : Exit → Slots → Heap → Prop} {s : Slots} {H : Heap} (h : W P n n0 c Q s H) (hq : ∀ e s H, Q e s H → Q' e s H) : W P n n0 c Q' s H :=
 fun E0 w0 h0 E w a hs hr hx => wp_mono (h E0 w0 h0 E w a hs hr hx) (Phys.mono hq)

theorem wpc_sound (hT : TOk P T) {n n0 : Nat} {keep : List Nat} : ∀ (c : Code) (Q : Exit → Slots → Heap → Prop) (s : Slots) (H : Heap), wpc P T n n0 keep c Q s H → W P n n0 c Q s H := by
 intro c
 induction c with
 | skip => exact fun Q s H h E0 w0 h0 E w a hs hr hx => wp_skip ⟨E, s, H, h, hs, hr, hx⟩
 | label l => exact fun Q s H h E0 w0 h0 E w a hs hr hx => wp_label ⟨E, s, H, h, hs, hr, hx⟩
 | region id ops draw =>
  intro Q s H h E0 w0 h0 E w a hs hr hx
  cases draw with
  | false =>
   refine wp_region_list (wpr_sound hT ops.toList s H E w a h hs hr hx fun E s H a w hk hs hr hx => ?_)
   obtain ⟨s', h1, h2⟩ := keepK_spec hk
   exact ⟨E, s', H, h1, hs.sub h2, hr, hx⟩
  | true =>
   refine wp_mono (h E0 w0 h0 E w a hs hr hx) fun e a w ⟨E, s, H, hq, hs, hr, hx⟩ => ?_
   cases e with
   | normal => obtain ⟨s', h1, h2⟩ := keepK_spec hq; exact ⟨E, s', H, h1, hs.sub h2, hr, hx⟩
   | _ => exact ⟨E, s, H, hq, hs, hr, hx⟩
 | seq x y ihx ihy =>
  intro Q s H h E0 w0 h0 E w a hs hr hx
  refine wp_seq (wp_mono (ihx _ s H h E0 w0 h0 E w a hs hr hx) fun e a w ⟨E, s, H, hq, hs, hr, hx⟩ => ?_)
  cases e with
  | normal => exact ihy Q s H hq E0 w0 h0 E w a hs hr hx
  | _ => exact ⟨E, s, H, hq, hs, hr, hx⟩
 | cond c x y ihx ihy =>
  intro Q s H h E0 w0 h0 E w a hs hr hx
  simp only [wpc] at h
  split at h
  ·rename_i t p ht
   obtain ⟨hp, h1, h2⟩ := h
   have hc := asB_spec ht hp (hs.ev c)
   exact wp_cond_split hc (fun e => ihx Q s H (h1 e) E0 w0 h0 E w a hs hr hx) (fun e => ihy Q s H (h2 e) E0 w0 h0 E w a hs hr hx)
  ·exact h.elim
 | block id c ih =>
  intro Q s H h E0 w0 h0 E w a hs hr hx
  refine wp_block (wp_mono (ih _ s H h E0 w0 h0 E w a hs hr hx) fun e a w ⟨E, s, H, hq, hs, hr, hx⟩ => ?_)
  cases e with
  | exit i =>
   simp only [blockK] at hq
   simp only [Exit.inBlock]
   cases hb : Nat.beq i id with
   | true =>
    rw [hb] at hq
    rw [if_pos (Nat.eq_of_beq_eq_true hb)]
    exact ⟨E, s, H, hq, hs, hr, hx⟩
   | false =>
    rw [hb] at hq
    rw [if_neg (fun e => by subst e; simp at hb)]
    exact ⟨E, s, H, hq, hs, hr, hx⟩
  | _ => exact ⟨E, s, H, hq, hs, hr, hx⟩
 | loop c ih =>
  intro Q s H h E0 w0 h0 E w a hs hr hx
  exact (h E0 w0 h0 E w a hs hr hx).wp
 | exit id => exact fun Q s H h E0 w0 h0 E w a hs hr hx => wp_exit ⟨E, s, H, h, hs, hr, hx⟩
 | ret => exact fun Q s H h E0 w0 h0 E w a hs hr hx => wp_ret ⟨E, s, H, h, hs, hr, hx⟩
 | rangeFunc f ps a b _ _ => exact fun Q s H h => h.elim
 | scope b ih =>
  intro Q s H h E0 w0 h0 E w a hs hr hx
  refine wp_scope_straight (wp_mono (ih _ s H h E0 w0 h0 E w a hs hr hx) fun e a w ⟨E, s, H, hq, hs, hr, hx⟩ => ?_)
  cases e with
  | goto l => exact hq.elim
  | _ => exact ⟨E, s, H, hq, hs, hr, hx⟩
 | goto l => exact fun Q s H h => h.elim
 | refuse w => exact fun Q s H h => h.elim

theorem LoopW.unfold {n n0 : Nat} {c : Code} {Q : Exit → Slots → Heap → Prop} {s : Slots} {H : Heap} (h : W P n n0 c (thenK (LoopW P n n0 c Q) Q) s H) : LoopW P n n0 c Q s H := by
 intro E0 w0 h0 E w a hs hr hx
 refine LoopFrom.unfold (wp_mono (h E0 w0 h0 E w a hs hr hx) fun e a w ⟨E, s, H, hq, hs, hr, hx⟩ => ?_)
 cases e with
 | normal => exact hq E0 w0 h0 E w a hs hr hx
 | _ => exact ⟨E, s, H, hq, hs, hr, hx⟩

theorem LoopW.round (hT : TOk P T) {n n0 : Nat} (keep : List Nat) {c : Code} {Q : Exit → Slots → Heap → Prop} {s : Slots} {H : Heap} (h : wpc P T n n0 keep c (thenK (LoopW P n n0 c Q) Q) s H) : LoopW P n n0 c Q s H :=
 .unfold (wpc_sound hT c _ s H h)

mutual
def bel (m : Nat) : LV → Prop
 | .ptr x _ _ => Nat.ble (x + 1) m = true
 | .sl x _ _ => Nat.ble (x + 1) m = true
 | .map x => Nat.ble (x + 1) m = true
 | .agg cs => bels m cs
 | .tup vs => bels m vs
 | .func _ a b => bels m a ∧ bels m b
 | .iface _ v => bel m v
 | .ite _ a b => bel m a ∧ bel m b
 | _ => True
def bels (m : Nat) : List LV → Prop
 | [] => True
 | x :: r => bel m x ∧ bels m r
end
theorem bels_get {m : Nat} : ∀ {l : List LV} {i : Nat} {x : LV}, bels m l → l[i]? = some x → bel m x
 | [], i, x, _, h => by simp at h
 | a :: r, 0, x, hn, h => by simp at h; subst h; simp only [bels] at hn; exact hn.1
 | a :: r, i + 1, x, hn, h => by simp only [bels] at hn; exact bels_get hn.2 (by simpa using h)

mutual
theorem NL.bel {m : Nat} : ∀ {l : LV}, NL l → bel m l
 | .agg cs, h => by simp only [NL] at h; simp only [RX.bel]; exact NLs.bels h
 | .tup cs, h => by simp only [NL] at h; simp only [RX.bel]; exact NLs.bels h
 | .func _ a b, h => by simp only [NL] at h; simp only [RX.bel]; exact ⟨NLs.bels h.1, NLs.bels h.2⟩
 | .iface _ v, h => by simp only [NL] at h; simp only [RX.bel]; exact NL.bel h
 | .ite _ a b, h => by simp only [NL] at h; simp only [RX.bel]; exact ⟨NL.bel h.1, NL.bel h.2⟩
 | .ptr _ _ _, h => by simp [NL] at h
 | .sl _ _ _, h => by simp [NL] at h
 | .map _, h => by simp [NL] at h
 | .any, h => by simp [RX.bel]
 | .und, h => by simp [RX.bel]
 | .bool _, h => by simp [RX.bel]
 | .int _ _, h => by simp [RX.bel]
 | .str _, h => by simp [RX.bel]
 | .nilp, h => by simp [RX.bel]
 | .rptr _, h => by simp [RX.bel]
 | .ro _ _, h => by simp [RX.bel]
 | .nils, h => by simp [RX.bel]
 | .nilm, h => by simp [RX.bel]
 | .nilf, h => by simp [RX.bel]
 | .nili, h => by simp [RX.bel]
theorem NLs.bels {m : Nat} : ∀ {l : List LV}, NLs l → bels m l
 | [], h => by simp [RX.bels]
 | x :: r, h => by simp only [NLs] at h; simp only [RX.bels]; exact ⟨NL.bel h.1, NLs.bels h.2⟩
end

theorem G.turn {E E' : Env} {w : World} (hok : ∀ b, E.ok b → E'.ok b) {m : Nat} (hm : ∀ x, x < m → E'.φ x = E.φ x ∨ (E'.φ x = none ∧ x < E'.nx)) (hm' : m ≤ E'.nx) {l : LV} {v : Value} (h : G E w l v) (hb : bel m l) : G E' w l v := by
 have lt : ∀ {x}, Nat.ble (x + 1) m = true → x < m := fun h => Nat.le_of_ble_eq_true h
 induction h with
 | any v => exact .any v
 | und => exact .und
 | bool b => exact .bool b
 | int k n => exact .int k n
 | str s => exact .str s
 | agg cs arr hl h1 _ ih => simp only [bel] at hb; exact .agg cs arr hl h1 (fun i x hi => ih i x hi (bels_get hb hi))
 | tup cs arr hl _ ih => simp only [bel] at hb; exact .tup cs arr hl (fun i x hi => ih i x hi (bels_get hb hi))
 | nilp => exact .nilp
 | ptrDead x i o v h hx =>
  simp only [bel] at hb
  refine .ptrDead x i o v ?_ (Nat.lt_of_lt_of_le (lt hb) hm')
  rcases hm x (lt hb) with h1 | h1
  ·rw [h1, h]
  ·exact h1.1
 | ptr x i o k sz h =>
  simp only [bel] at hb
  rcases hm x (lt hb) with h1 | h1
  ·exact .ptr x i o k sz (h1.trans h)
  ·exact .ptrDead x i o _ h1.1 h1.2
 | rptr cs b off f hok' hbl hn hc h1 _ ih => exact .rptr cs b off f (hok b hok') hbl hn hc h1 (fun j x hj => ih j x hj (hn j x hj).bel)
 | slDead x off len v h hx =>
  simp only [bel] at hb
  refine .slDead x off len v ?_ (Nat.lt_of_lt_of_le (lt hb) hm')
  rcases hm x (lt hb) with h1 | h1
  ·rw [h1, h]
  ·exact h1.1
 | sl x off len cap k sz arr t fr h hlc hcm hk hcap =>
  simp only [bel] at hb
  rcases hm x (lt hb) with h1 | h1
  ·exact .sl x off len cap k sz arr t fr (h1.trans h) hlc hcm hk hcap
  ·exact .slDead x off len _ h1.1 h1.2
 | slV x sz h =>
  simp only [bel] at hb
  rcases hm x (lt hb) with h1 | h1
  ·exact .slV x sz (h1.trans h)
  ·exact .slDead x 0 0 _ h1.1 h1.2
 | roNil sz => exact .roNil sz
 | roZ sz a => exact .roZ sz a
 | ro sz xs b off cap f hok' hbl hcap hsz hn hc h1 _ ih => exact .ro sz xs b off cap f (hok b hok') hbl hcap hsz hn hc h1 (fun i cs j x hi hj => ih i cs j x hi hj (hn i cs j x hi hj).bel)
 | nils => exact .nils
 | mapDead x v h hx =>
  simp only [bel] at hb
  refine .mapDead x v ?_ (Nat.lt_of_lt_of_le (lt hb) hm')
  rcases hm x (lt hb) with h1 | h1
  ·rw [h1, h]
  ·exact h1.1
 | map x k sz h =>
  simp only [bel] at hb
  rcases hm x (lt hb) with h1 | h1
  ·exact .map x k sz (h1.trans h)
  ·exact .mapDead x _ h1.1 h1.2
 | nilm => exact .nilm
 | func fn a b c d hc hd _ _ ih1 ih2 => simp only [bel] at hb; exact .func fn a b c d hc hd (fun i x hi => ih1 i x hi (bels_get hb.1 hi)) (fun i x hi => ih2 i x hi (bels_get hb.2 hi))
 | nilf => exact .nilf
 | iface t x v _ ih => simp only [bel] at hb; exact .iface t x v (ih hb)
 | nili => exact .nili
 | iteT a b v _ ih => simp only [bel] at hb; exact .iteT a b v (ih hb.1)
 | iteF a b v _ ih => simp only [bel] at hb; exact .iteF a b v (ih hb.2)
end
end Go.RX
