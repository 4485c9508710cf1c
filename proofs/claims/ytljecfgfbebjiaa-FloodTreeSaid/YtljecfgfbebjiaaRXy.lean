/- RX, part y: own rows lent to a call; a call that answers a row of the caller's own. -/
import Derived.Test.YtljecfgfbebjiaaRXx
set_option linter.unusedVariables false
namespace Go.RX

mutual
def FL : LV → Prop
 | .bool _ | .int _ _ | .str _ | .nils | .nilp | .nilm => True
 | .agg cs => FLs cs
 | .tup vs => FLs vs
 | _ => False
def FLs : List LV → Prop
 | [] => True
 | x :: r => FL x ∧ FLs r
end
theorem FLs_get : ∀ {l : List LV} {i : Nat} {x : LV}, FLs l → l[i]? = some x → FL x
 | [], i, x, _, h => by simp at h
 | a :: r, 0, x, h, e => by simp at e; subst e; simp only [FLs] at h; exact h.1
 | a :: r, i + 1, x, h, e => by simp at e; simp only [FLs] at h; exact FLs_get h.2 e

theorem G.flat {E E' : Env} {w w' : World} {l : LV} {v : Value} (h : G E w l v) (hf : FL l) : G E' w' l v := by
 induction h with
 | any v => simp [FL] at hf
 | und => simp [FL] at hf
 | bool b => exact .bool b
 | int k n => exact .int k n
 | str s => exact .str s
 | agg cs arr hl h1 h ih => unfold FL at hf; exact .agg cs arr hl h1 fun i x hx => ih i x hx (FLs_get hf hx)
 | tup vs arr hl h ih => unfold FL at hf; exact .tup vs arr hl fun i x hx => ih i x hx (FLs_get hf hx)
 | nilp => exact .nilp
 | nils => exact .nils
 | nilm => exact .nilm
 | _ => simp [FL] at hf

def lendK (H : Heap) : List LV → List LV → Prop
 | [], [] => True
 | .sl x o n :: r, y :: r' => (match look H.live x with
   | some (.row _ sz es) => o = 0 ∧ n = es.length ∧ NLss es ∧ y = .ro sz es
   | _ => False) ∧ lendK H r r'
 | x :: r, y :: r' => (NL x ∧ x = y) ∧ lendK H r r'
 | _, _ => False

theorem lendK_get {H : Heap} : ∀ {a b : List LV}, lendK H a b → a.length = b.length ∧ ∀ (i : Nat) (x y : LV), a[i]? = some x → b[i]? = some y →
  (NL x ∧ x = y) ∨ ∃ z e sz es, x = .sl z 0 es.length ∧ look H.live z = some (.row e sz es) ∧ NLss es ∧ y = .ro sz es
 | [], [], _ => ⟨rfl, fun i x y h => by simp at h⟩
 | [], b :: r', h => by simp [lendK] at h
 | a :: r, [], h => by cases a <;> simp [lendK] at h
 | a :: r, b :: r', h => by
  have step : ∀ {p : Prop}, (p → (NL a ∧ a = b) ∨ ∃ z e sz es, a = .sl z 0 es.length ∧ look H.live z = some (.row e sz es) ∧ NLss es ∧ b = .ro sz es) → p ∧ lendK H r r' →
    (a :: r).length = (b :: r').length ∧ ∀ (i : Nat) (x y : LV), (a :: r)[i]? = some x → (b :: r')[i]? = some y →
    (NL x ∧ x = y) ∨ ∃ z e sz es, x = .sl z 0 es.length ∧ look H.live z = some (.row e sz es) ∧ NLss es ∧ y = .ro sz es := by
   intro p hp ⟨h1, h2⟩
   obtain ⟨h3, h4⟩ := lendK_get h2
   refine ⟨by simp [h3], fun i x y hx hy => ?_⟩
   cases i with
   | zero => simp at hx hy; subst hx; subst hy; exact hp h1
   | succ i => exact h4 i x y (by simpa using hx) (by simpa using hy)
  cases a with
  | sl x o n =>
   unfold lendK at h
   refine step (fun h1 => ?_) h
   split at h1
   ·rename_i e sz es hl
    obtain ⟨rfl, rfl, h3, rfl⟩ := h1
    exact .inr ⟨x, e, sz, es, rfl, hl, h3, rfl⟩
   ·exact h1.elim
  | _ => unfold lendK at h; exact step .inl h

section
variable {P : Program} {T : List (Nat × TE)}

theorem CallW.done {f : FuncId} {args : List LV} {r : LV} {H H2 : Heap} {K : LV → Heap → Prop} (h : CallW P f args H fun lv H' => lv = r ∧ H' = H2) (hk : K r H2) : CallW P f args H K :=
 h.mono fun _ _ ⟨h1, h2⟩ => by rw [h1, h2]; exact hk

theorem CallP.lend {f : FuncId} {args args' : List LV} {r : LV} (h : CallP P f args' r) (hfl : FL r) {H : Heap} (hl : lendK H args args') : CallW P f args H (fun lv H' => lv = r ∧ H' = H) := by
 refine ⟨(h H).1, fun E w vals hr hg => ?_⟩
 obtain ⟨hlen, hget⟩ := lendK_get hl
 let E0 : Env := ⟨0, fun _ => none, fun b => E.ok b ∨ ∃ x s, E.φ x = some (some b, s)⟩
 have hr0 : RelH E0 ⟨0, []⟩ w := ⟨rfl, fun x e sz es h => by simp [look] at h, fun x es h => by simp [look] at h, fun _ _ => rfl, fun x b h => by simp [look] at h, fun x y k s s' h => (by cases h), fun x k s h => (by cases h), fun b hb => by
  rcases hb with hb | ⟨x, s, hb⟩
  ·exact hr.okl b hb
  ·exact (hr.nok x b s hb).2⟩
 have hg0 : Gs E0 w args' vals := by
  refine ⟨by rw [← hlen]; exact hg.1, fun i y v hy hv => ?_⟩
  have hi : i < args.length := by rw [hlen]; exact (List.getElem?_eq_some_iff.1 hy).1
  have hx := List.getElem?_eq_getElem hi
  have hgx := hg.2 i _ v hx hv
  rcases hget i _ y hx hy with ⟨h1, h2⟩ | ⟨z, e, sz, es, h1, h2, h3, h4⟩
  ·rw [← h2]
   exact G.turn (E := E) (E' := E0) (m := 0) (fun b hb => .inl hb) (fun x hx => by omega) (Nat.zero_le _) hgx h1.bel
  ·rw [h1] at hgx
   obtain ⟨E1, hr1, hx1, hf, hp⟩ := relH_freeze hr h2 (NLss_iff.1 h3)
   have := hf v hgx
   rw [h4]
   refine G.turn (E := E1) (E' := E0) (m := 0) (fun b hb => ?_) (fun x hx => by omega) (Nat.zero_le _) this (show NL (LV.ro sz es) by simp [NL]).bel
   rcases hx1.okNew b hb with h5 | h5 | h5
   ·exact .inl h5
   ·have := hr1.okl b hb; omega
   ·exact .inr h5
 refine ((h ⟨0, []⟩).2 E0 w vals hr0 hg0).mono fun e w' he => ?_
 cases e with
 | panicked c => exact he.elim
 | outgrown => exact he.elim
 | returned v =>
  obtain ⟨E1, lv, H1, ⟨rfl, rfl⟩, hr1, hgv, hx⟩ := he
  have hext : Ext E w E w' := ⟨Nat.le_refl _, hx.size, fun k hk _ => hx.keep k hk (fun x s h => by cases h), hx.cells, fun _ _ => .inr rfl, fun b hb => hb, fun b hb => .inl hb, fun x k s _ h => .inr ⟨x, s, h⟩, hx.os, hx.output, hx.tape⟩
  have keep : ∀ x k s, E.φ x = some (some k, s) → w'.heap[k]? = w.heap[k]? := fun x k s h => hx.keep k (hr.nok x k s h).2 (fun x s h => by cases h)
  have gm : ∀ {l v}, G E w l v → G E w' l v := fun h => h.ext hr hext
  refine ⟨E, _, H, ⟨rfl, rfl⟩, ⟨hr.nx, ?_, ?_, hr.none, hr.lt, hr.inj, fun x k s h1 => ⟨(hr.nok x k s h1).1, Nat.lt_of_lt_of_le (hr.nok x k s h1).2 hx.size⟩, fun b hb => Nat.lt_of_lt_of_le (hr.okl b hb) hx.size⟩, hgv.flat hfl, hext⟩
  ·intro x e sz es hl
   rcases hr.row x e sz es hl with h1 | ⟨k, arr, h1, h2, h3, h4, h5⟩
   ·exact .inl h1
   ·exact .inr ⟨k, arr, h1, (keep x k sz h1).trans h2, h3, h4, fun i cs hi => ⟨(h5 i cs hi).1, fun j y hj => gm ((h5 i cs hi).2 j y hj)⟩⟩
  ·intro x es hl
   obtain ⟨k, en, cl, h1, h2, h3, h4, h5, h6⟩ := hr.mp x es hl
   refine ⟨k, en, cl, h1, (keep x k 0 h1).trans h2, h3, h4, h5, fun i p hp => ?_⟩
   obtain ⟨en', h7, h8, h9⟩ := h6 i p hp
   exact ⟨en', h7, gm h8, gm h9⟩

def lendE (E : Env) : Env := ⟨0, fun _ => none, fun b => E.ok b ∨ ∃ x s, E.φ x = some (some b, s)⟩
def Lent (H : Heap) (x y : LV) : Prop := NL y ∧ ∀ E w v, RelH E H w → G E w x v → G (lendE E) w y v
def Lents (H : Heap) : List LV → List LV → Prop
 | [], [] => True
 | x :: r, y :: s => Lent H x y ∧ Lents H r s
 | _, _ => False
theorem Lents.get {H : Heap} : ∀ {a b : List LV}, Lents H a b → a.length = b.length ∧ ∀ (i : Nat) (x y : LV), a[i]? = some x → b[i]? = some y → Lent H x y
 | [], [], _ => ⟨rfl, fun i x y h => by simp at h⟩
 | [], b :: r', h => h.elim
 | a :: r, [], h => h.elim
 | a :: r, b :: r', h => by
  obtain ⟨h3, h4⟩ := Lents.get h.2
  refine ⟨by simp [h3], fun i x y hx hy => ?_⟩
  cases i with
  | zero => simp at hx hy; subst hx; subst hy; exact h.1
  | succ i => exact h4 i x y (by simpa using hx) (by simpa using hy)
theorem Lents.nl {H : Heap} : ∀ {a b : List LV}, Lents H a b → NLs b
 | [], [], _ => True.intro
 | [], b :: r', h => h.elim
 | a :: r, [], h => h.elim
 | a :: r, b :: r', h => ⟨h.1.1, Lents.nl h.2⟩
theorem Lents.at' {H : Heap} {a b : List LV} (h : Lents H a b) {i : Nat} {y : LV} (hy : b[i]? = some y) : ∃ x, a[i]? = some x ∧ Lent H x y := by
 obtain ⟨h1, h2⟩ := h.get
 have hi : i < a.length := by rw [h1]; exact (List.getElem?_eq_some_iff.1 hy).1
 have hx := List.getElem?_eq_getElem hi
 exact ⟨_, hx, h2 i _ y hx hy⟩
theorem Lent.of {H : Heap} {x : LV} (h : NL x) : Lent H x x := ⟨h, fun E w v hr hg =>
 G.turn (E := E) (E' := lendE E) (m := 0) (fun b hb => .inl hb) (fun x hx => by omega) (Nat.zero_le _) hg h.bel⟩
theorem Lents.of {H : Heap} : ∀ {l : List LV}, NLs l → Lents H l l
 | [], _ => True.intro
 | x :: r, h => ⟨.of h.1, Lents.of h.2⟩
theorem Lent.sl {H : Heap} {z e sz : Nat} {es : List (List LV)} (hl : look H.live z = some (.row e sz es)) (hn : NLss es) : Lent H (.sl z 0 es.length) (.ro sz es) := by
 refine ⟨by simp [NL], fun E w v hr hg => ?_⟩
 obtain ⟨E1, hr1, hx1, hf, hp⟩ := relH_freeze hr hl (NLss_iff.1 hn)
 refine G.turn (E := E1) (E' := lendE E) (m := 0) (fun b hb => ?_) (fun x hx => by omega) (Nat.zero_le _) (hf v hg) (show NL (LV.ro sz es) by simp [NL]).bel
 rcases hx1.okNew b hb with h5 | h5 | h5
 ·exact .inl h5
 ·have := hr1.okl b hb; omega
 ·exact .inr h5
theorem Lent.box {H : Heap} {z t sz : Nat} {cs cs' : List LV} (hl : look H.live z = some (.row t sz [cs])) (hs : Lents H cs cs') : Lent H (.ptr z 0 0) (.rptr cs') := by
 refine ⟨by simp [NL], fun E w v hr hg => ?_⟩
 rcases hr.row z t sz _ hl with ⟨_, h1⟩ | ⟨k, arr, h1, h2, h3, h4, h5⟩
 ·cases h1
 obtain ⟨h6, h7⟩ := h5 0 cs rfl
 have hlen := hs.get.1
 have hd : ∀ j, j < sz → j < arr.size := fun j hj => by simp at h3; omega
 cases hg with
 | ptrDead _ _ _ _ h => rw [h1] at h; cases h
 | ptr _ _ _ k' sz' h =>
  rw [h1] at h; cases h
  simp only [Nat.zero_mul, Nat.zero_add] at *
  refine .rptr cs' k 0 (fun j => if j < sz then arr.getD j undef else .bool true) (.inr ⟨z, sz, h1⟩) (hr.nok z k sz h1).2 (fun j x hj => NLs.get hs.nl hj) (fun j x hj => ?_) (fun j => ?_) (fun j x hj => ?_)
  ·have hj' : j < sz := by rw [← h6, hlen]; exact (List.getElem?_eq_some_iff.1 hj).1
   simp only [hj', if_true, Nat.zero_add]
   have := hd j hj'
   simp [World.cell?, h2, Array.getD, this]
  ·show (if j < sz then arr.getD j undef else .bool true).oneCell' = true
   split
   ·exact h4 j (by simpa using by assumption)
   ·rfl
  ·obtain ⟨x', hx', hL⟩ := hs.at' hj
   have hj' : j < sz := by rw [← h6, hlen]; exact (List.getElem?_eq_some_iff.1 hj).1
   simp only [hj', if_true]
   exact hL.2 E w _ hr (by simpa using h7 j x' hx')
theorem Lent.func {H : Heap} {fn : Fn} {a a' b b' : List LV} (ha : Lents H a a') (hb : Lents H b b') : Lent H (.func fn a b) (.func fn a' b') := by
 refine ⟨?_, fun E w v hr hg => ?_⟩
 ·show NLs a' ∧ NLs b'
  exact ⟨ha.nl, hb.nl⟩
 ·cases hg with
  | func _ _ _ c d hc hd h1 h2 =>
   refine .func fn a' b' c d (hc.trans ha.get.1) (hd.trans hb.get.1) (fun i x hx => ?_) (fun i x hx => ?_)
   ·obtain ⟨x', hx', hL⟩ := ha.at' hx; exact hL.2 E w _ hr (h1 i x' hx')
   ·obtain ⟨x', hx', hL⟩ := hb.at' hx; exact hL.2 E w _ hr (h2 i x' hx')

theorem CallP.lendG {f : FuncId} {args args' : List LV} {r : LV} (h : CallP P f args' r) (hfl : FL r) {H : Heap} (hl : Lents H args args') : CallW P f args H (fun lv H' => lv = r ∧ H' = H) := by
 refine ⟨(h H).1, fun E w vals hr hg => ?_⟩
 have hr0 : RelH (lendE E) ⟨0, []⟩ w := ⟨rfl, fun x e sz es h => by simp [look] at h, fun x es h => by simp [look] at h, fun _ _ => rfl, fun x b h => by simp [look] at h, fun x y k s s' h => (by cases h), fun x k s h => (by cases h), fun b hb => by
  rcases hb with hb | ⟨x, s, hb⟩
  ·exact hr.okl b hb
  ·exact (hr.nok x b s hb).2⟩
 have hg0 : Gs (lendE E) w args' vals := by
  refine ⟨by rw [← hl.get.1]; exact hg.1, fun i y v hy hv => ?_⟩
  obtain ⟨x, hx, hL⟩ := hl.at' hy
  exact hL.2 E w v hr (hg.2 i x v hx hv)
 refine ((h ⟨0, []⟩).2 (lendE E) w vals hr0 hg0).mono fun e w' he => ?_
 cases e with
 | panicked c => exact he.elim
 | outgrown => exact he.elim
 | returned v =>
  obtain ⟨E1, lv, H1, ⟨rfl, rfl⟩, hr1, hgv, hx⟩ := he
  have hext : Ext E w E w' := ⟨Nat.le_refl _, hx.size, fun k hk _ => hx.keep k hk (fun x s h => by cases h), hx.cells, fun _ _ => .inr rfl, fun b hb => hb, fun b hb => .inl hb, fun x k s _ h => .inr ⟨x, s, h⟩, hx.os, hx.output, hx.tape⟩
  have keep : ∀ x k s, E.φ x = some (some k, s) → w'.heap[k]? = w.heap[k]? := fun x k s h => hx.keep k (hr.nok x k s h).2 (fun x s h => by cases h)
  have gm : ∀ {l v}, G E w l v → G E w' l v := fun h => h.ext hr hext
  refine ⟨E, _, H, ⟨rfl, rfl⟩, ⟨hr.nx, ?_, ?_, hr.none, hr.lt, hr.inj, fun x k s h1 => ⟨(hr.nok x k s h1).1, Nat.lt_of_lt_of_le (hr.nok x k s h1).2 hx.size⟩, fun b hb => Nat.lt_of_lt_of_le (hr.okl b hb) hx.size⟩, hgv.flat hfl, hext⟩
  ·intro x e sz es hl
   rcases hr.row x e sz es hl with h1 | ⟨k, arr, h1, h2, h3, h4, h5⟩
   ·exact .inl h1
   ·exact .inr ⟨k, arr, h1, (keep x k sz h1).trans h2, h3, h4, fun i cs hi => ⟨(h5 i cs hi).1, fun j y hj => gm ((h5 i cs hi).2 j y hj)⟩⟩
  ·intro x es hl
   obtain ⟨k, en, cl, h1, h2, h3, h4, h5, h6⟩ := hr.mp x es hl
   refine ⟨k, en, cl, h1, (keep x k 0 h1).trans h2, h3, h4, h5, fun i p hp => ?_⟩
   obtain ⟨en', h7, h8, h9⟩ := h6 i p hp
   exact ⟨en', h7, gm h8, gm h9⟩

def CallS (P : Program) (f : FuncId) (args : List LV) (S : LV → Prop) : Prop := ∀ H, CallW P f args H fun lv H' => S lv ∧ H' = H

theorem CallS.use {f : FuncId} {args : List LV} {S : LV → Prop} {H : Heap} {K : LV → Heap → Prop} (h : CallS P f args S) (hk : ∀ r, S r → K r H) : CallW P f args H K :=
 (h H).mono fun lv H' ⟨h1, h2⟩ => by rw [h2]; exact hk lv h1

theorem CallS.intro {f : FuncId} {args : List LV} {S : LV → Prop} (hnl : NLs args) (h : CallW P f args ⟨0, []⟩ fun lv H' => ∃ r, fle H' lv r ∧ S r) : CallS P f args S := by
 intro H
 refine ⟨h.1, fun E w vals hr hg => ?_⟩
 have hr0 : RelH ⟨0, fun _ => none, E.ok⟩ ⟨0, []⟩ w := ⟨rfl, fun x e sz es h => by simp [look] at h, fun x es h => by simp [look] at h, fun _ _ => rfl, fun x b h => by simp [look] at h, fun x y k s s' h => (by cases h), fun x k s h => (by cases h), hr.okl⟩
 have hg0 : Gs ⟨0, fun _ => none, E.ok⟩ w args vals := ⟨hg.1, fun i x v hx hv => G.turn (E := E) (E' := ⟨0, fun _ => none, E.ok⟩) (m := 0) (fun b hb => hb) (fun x hx => by omega) (Nat.zero_le _) (hg.2 i x v hx hv) (NLs.get hnl hx).bel⟩
 refine (h.2 _ w vals hr0 hg0).mono fun e w' he => ?_
 cases e with
 | panicked c => exact he.elim
 | outgrown => exact he.elim
 | returned v =>
  obtain ⟨E1, lv, H1, ⟨r, hf, hS⟩, hr1, hgv, hx⟩ := he
  obtain ⟨F, h1, h2, h3⟩ := lift0 hr hr1 hgv hx hf
  exact ⟨F, r, H, ⟨hS, rfl⟩, h1, h2, h3⟩

def CallF (P : Program) (f : FuncId) (args : List LV) (e sz : Nat) (es : List (List LV)) : Prop :=
 CallW P f args ⟨0, []⟩ fun lv H' => lv = .sl 0 0 es.length ∧ H' = ⟨1, [(0, .row e sz es)]⟩

theorem CallF.at {f : FuncId} {args : List LV} {e sz : Nat} {es : List (List LV)} (h : CallF P f args e sz es) (hnl : NLs args) (hes : NLss es) {H : Heap} :
  CallW P f args H (fun lv H' => lv = .sl H.nx 0 es.length ∧ H' = ⟨H.nx + 1, (H.nx, .row e sz es) :: H.live⟩) := by
 refine ⟨h.1, fun E w vals hr hg => ?_⟩
 let E0 : Env := ⟨0, fun _ => none, E.ok⟩
 have hr0 : RelH E0 ⟨0, []⟩ w := ⟨rfl, fun x e sz es h => by simp [look] at h, fun x es h => by simp [look] at h, fun _ _ => rfl, fun x b h => by simp [look] at h, fun x y k s s' h => (by cases h), fun x k s h => (by cases h), hr.okl⟩
 have hg0 : Gs E0 w args vals := ⟨hg.1, fun i x v hx hv => G.turn (E := E) (E' := E0) (m := 0) (fun b hb => hb) (fun x hx => by omega) (Nat.zero_le _) (hg.2 i x v hx hv) (NLs.get hnl hx).bel⟩
 refine (h.2 E0 w vals hr0 hg0).mono fun ee w' he => ?_
 cases ee with
 | panicked c => exact he.elim
 | outgrown => exact he.elim
 | returned v =>
  obtain ⟨E1, lv, H1, ⟨rfl, rfl⟩, hr1, hgv, hx⟩ := he
  have h0 : E1.φ 0 ≠ none := by
   rcases hr1.row 0 e sz es (by simp [look]) with ⟨h1, _⟩ | ⟨k, arr, h1, _⟩ <;> rw [h1] <;> simp
  have honly : ∀ x q, E1.φ x = some q → x = 0 := fun x q h1 => by
   rcases Nat.eq_zero_or_pos x with h2 | h2
   ·exact h2
   ·have := hr1.none x (by simp only [look]; rw [show Nat.beq x 0 = false from by cases x with | zero => omega | succ n => rfl])
    rw [this] at h1; cases h1
  let F : Env := ⟨E.nx + 1, fun x => if x = E.nx then E1.φ 0 else E.φ x, E1.ok⟩
  have Enx : E.φ E.nx = none := by
   cases hc : E.φ E.nx with
   | none => rfl
   | some q =>
    have : look H.live E.nx ≠ none := fun h1 => by rw [hr.none _ h1] at hc; cases hc
    obtain ⟨b, hb⟩ := Option.ne_none_iff_exists'.1 this
    have := hr.lt _ _ hb
    rw [hr.nx] at this; omega
  have oldnew : ∀ x, x ≠ E.nx → F.φ x = E.φ x := fun x hxn => if_neg hxn
  have atnew : F.φ E.nx = E1.φ 0 := if_pos rfl
  have newBig : ∀ k s, E1.φ 0 = some (some k, s) → w.heap.size ≤ k := fun k s h1 => by
   rcases hx.fresh 0 k s (Nat.zero_le _) h1 with h2 | ⟨y, s', h2⟩
   ·exact h2
   ·cases h2
  have okNew : ∀ b, E1.ok b → E.ok b ∨ w.heap.size ≤ b := fun b hb => by
   rcases hx.okNew b hb with h2 | h2 | ⟨x, s, h2⟩
   ·exact .inl h2
   ·exact .inr h2
   ·cases h2
  have hext : Ext E w F w' := by
   refine ⟨Nat.le_succ _, hx.size, fun k hk _ => hx.keep k hk (fun x s h => by cases h), hx.cells, fun x hxl => .inr (oldnew x (by omega)), hx.ok, fun b hb => ?_, fun x k s hxn h1 => ?_, hx.os, hx.output, hx.tape⟩
   ·rcases okNew b hb with h1 | h1
    ·exact .inl h1
    ·exact .inr (.inl h1)
   ·by_cases hxe : x = E.nx
    ·subst hxe; rw [atnew] at h1; exact .inl (newBig k s h1)
    ·rw [oldnew x hxe] at h1; exact .inr ⟨x, s, h1⟩
  have keep : ∀ x k s, E.φ x = some (some k, s) → w'.heap[k]? = w.heap[k]? := fun x k s h => hx.keep k (hr.nok x k s h).2 (fun x s h => by cases h)
  have gm : ∀ {l v}, G E w l v → G F w' l v := fun h => h.ext hr hext
  have gn : ∀ {l v}, NL l → G E1 w' l v → G F w' l v := fun hl h => G.turn (E := E1) (E' := F) (m := 0) (fun b hb => hb) (fun x hx => by omega) (Nat.zero_le _) h hl.bel
  have lookN : ∀ x b, look ((E.nx, Blk.row e sz es) :: H.live) x = some b → (x = E.nx ∧ b = Blk.row e sz es) ∨ (x ≠ E.nx ∧ look H.live x = some b) := fun x b h1 => by
   simp only [look] at h1
   cases hb : Nat.beq x E.nx with
   | true => rw [hb] at h1; cases h1; exact .inl ⟨Nat.eq_of_beq_eq_true hb, rfl⟩
   | false => rw [hb] at h1; exact .inr ⟨fun h2 => by (subst h2; rw [Nat.beq_refl] at hb; cases hb), h1⟩
  have hnes := NLss_iff.1 hes
  refine ⟨F, .sl E.nx 0 es.length, ⟨E.nx + 1, (E.nx, .row e sz es) :: H.live⟩, by rw [hr.nx]; exact ⟨rfl, rfl⟩, ⟨rfl, ?_, ?_, ?_, ?_, ?_, ?_, hr1.okl⟩, ?_, hext⟩
  ·intro x e' sz' es' hl
   rcases lookN x _ hl with ⟨rfl, h2⟩ | ⟨hne, hl⟩
   ·cases h2
    rw [atnew]
    rcases hr1.row 0 e sz es (by simp [look]) with h1 | ⟨k, arr, h1, h2, h3, h4, h5⟩
    ·exact .inl h1
    ·exact .inr ⟨k, arr, h1, h2, h3, h4, fun i cs hi => ⟨(h5 i cs hi).1, fun j y hj => gn (hnes cs (List.mem_of_getElem? hi) y (List.mem_of_getElem? hj)) ((h5 i cs hi).2 j y hj)⟩⟩
   ·rw [oldnew x hne]
    rcases hr.row x e' sz' es' hl with h1 | ⟨k, arr, h1, h2, h3, h4, h5⟩
    ·exact .inl h1
    ·exact .inr ⟨k, arr, h1, (keep x k sz' h1).trans h2, h3, h4, fun i cs hi => ⟨(h5 i cs hi).1, fun j y hj => gm ((h5 i cs hi).2 j y hj)⟩⟩
  ·intro x es' hl
   rcases lookN x _ hl with ⟨rfl, h2⟩ | ⟨hne, hl⟩
   ·cases h2
   ·rw [oldnew x hne]
    obtain ⟨k, en, cl, h1, h2, h3, h4, h5, h6⟩ := hr.mp x es' hl
    refine ⟨k, en, cl, h1, (keep x k 0 h1).trans h2, h3, h4, h5, fun i p hp => ?_⟩
    obtain ⟨en', h7, h8, h9⟩ := h6 i p hp
    exact ⟨en', h7, gm h8, gm h9⟩
  ·intro x hn
   simp only [look] at hn
   cases hb : Nat.beq x E.nx with
   | true => rw [hb] at hn; cases hn
   | false =>
    rw [hb] at hn
    rw [oldnew x (fun h2 => by subst h2; rw [Nat.beq_refl] at hb; cases hb)]
    exact hr.none x hn
  ·intro x b hl
   show x < E.nx + 1
   rcases lookN x _ hl with ⟨rfl, h2⟩ | ⟨hne, hl⟩
   ·omega
   ·have := hr.lt _ _ hl; rw [← hr.nx] at this; omega
  ·intro x y k s s' h1 h2
   by_cases hx0 : x = E.nx <;> by_cases hy0 : y = E.nx
   ·rw [hx0, hy0]
   ·subst hx0; rw [atnew] at h1; rw [oldnew y hy0] at h2
    have := newBig k s h1; have := (hr.nok y k s' h2).2; omega
   ·subst hy0; rw [atnew] at h2; rw [oldnew x hx0] at h1
    have := newBig k s' h2; have := (hr.nok x k s h1).2; omega
   ·rw [oldnew x hx0] at h1; rw [oldnew y hy0] at h2; exact hr.inj x y k s s' h1 h2
  ·intro x k s h1
   by_cases hx0 : x = E.nx
   ·subst hx0; rw [atnew] at h1; exact hr1.nok 0 k s h1
   ·rw [oldnew x hx0] at h1
    refine ⟨fun h2 => ?_, Nat.lt_of_lt_of_le (hr.nok x k s h1).2 hx.size⟩
    rcases okNew k h2 with h3 | h3
    ·exact (hr.nok x k s h1).1 h3
    ·have := (hr.nok x k s h1).2; omega
  ·generalize hlen : es.length = len at hgv ⊢
   cases hgv with
   | slDead _ _ _ _ h1 _ => exact absurd h1 h0
   | sl _ _ _ cap k s arr t fr h1 h2 h3 h4 h5 => exact .sl E.nx 0 len cap k s arr t fr (atnew.trans h1) h2 h3 h4 h5
   | slV _ s h1 => exact .slV E.nx s (atnew.trans h1)
end
end Go.RX
