/- RX, part q: a call that is seen by its value alone. -/
import Derived.Test.YtljecfgfbebjiaaRXp
set_option linter.unusedVariables false
namespace Go.RX

section
variable {P : Program} {T : List (Nat × TE)}

def fleP (H : Heap) (i o : Nat) (es : List (List LV)) (cs : List LV) : Prop := match es with
 | [[.sl y2 off2 len2]] => match cs with
  | [.ro s' ys] => (i = 0 ∧ o = 0) ∧ match look H.live y2 with
   | some (.row _ sz es2) => match off2 with
    | 0 => len2 = es2.length ∧ sz = s' ∧ es2 = ys ∧ NLss es2
    | _ + 1 => False
   | _ => False
  | _ => False
 | _ => ptrAs es i o = .rptr cs ∧ NLss es
mutual
def fle (H : Heap) : LV → LV → Prop
 | .bool a, r => match r with
  | .bool b => a = b
  | _ => False
 | .int k a, r => match r with
  | .int k' b => k = k' ∧ a = b
  | _ => False
 | .str a, r => match r with
  | .str b => a = b
  | _ => False
 | .agg a, r => match r with
  | .agg b => fles H a b
  | _ => False
 | .tup a, r => match r with
  | .tup b => fles H a b
  | _ => False
 | .ro s xs, r => match r with
  | .ro s' ys => s = s' ∧ xs = ys
  | _ => False
 | .nils, r => match r with
  | .ro _ ys => ys = []
  | .nils => True
  | _ => False
 | .sl y off len, r => match r with
  | .ro s' ys => match look H.live y with
   | some (.row _ sz es) => match off with
    | 0 => len = es.length ∧ sz = s' ∧ es = ys ∧ NLss es
    | _ + 1 => False
   | _ => False
  | _ => False
 | .ptr y i o, r => match r with
  | .rptr cs => match look H.live y with
   | some (.row _ _ es) => fleP H i o es cs
   | _ => False
  | _ => False
 | .rptr cs, r => match r with
  | .rptr cs' => cs = cs'
  | _ => False
 | .nilp, r => match r with
  | .nilp => True
  | _ => False
 | .nilm, r => match r with
  | .nilm => True
  | _ => False
 | .nilf, r => match r with
  | .nilf => True
  | _ => False
 | .nili, r => match r with
  | .nili => True
  | _ => False
 | .und, r => match r with
  | .und => True
  | _ => False
 | .func fn a b, r => match r with
  | .func fn' a' b' => fn = fn' ∧ fles H a a' ∧ fles H b b'
  | _ => False
 | .iface t a, r => match r with
  | .iface t' b => t = t' ∧ fle H a b
  | _ => False
 | .ite c a b, r => (c = true → fle H a r) ∧ (c = false → fle H b r)
 | .any, r => match r with
  | .any => True
  | _ => False
 | _, _ => False
def fles (H : Heap) : List LV → List LV → Prop
 | [], [] => True
 | a :: r, b :: s => fle H a b ∧ fles H r s
 | _, _ => False
end

theorem fles_get {H : Heap} : ∀ {a b : List LV}, fles H a b → a.length = b.length ∧ ∀ (i : Nat) (x y : LV), a[i]? = some x → b[i]? = some y → fle H x y
 | [], [], _ => ⟨rfl, fun i x y h => by simp at h⟩
 | [], b :: s, h => by simp [fles] at h
 | a :: r, [], h => by simp [fles] at h
 | a :: r, b :: s, h => by
  simp only [fles] at h
  obtain ⟨h1, h2⟩ := fles_get h.2
  refine ⟨by simp [h1], fun i x y hx hy => ?_⟩
  cases i with
  | zero => simp at hx hy; subst hx; subst hy; exact h.1
  | succ i => exact h2 i x y (by simpa using hx) (by simpa using hy)

theorem fle_sound {E F : Env} {H : Heap} {w : World} (hr : RelH E H w) (hok : ∀ b, E.ok b → F.ok b) (hlive : ∀ x k s, E.φ x = some (some k, s) → F.ok k) :
  ∀ {l : LV} {v : Value}, G E w l v → ∀ {r : LV}, fle H l r → G F w r v := by
 have nl : ∀ {l v}, G E w l v → NL l → G F w l v := fun hg hn => G.turn (E := E) (E' := F) (m := 0) hok (fun x hx => by omega) (Nat.zero_le _) hg hn.bel
 have ro : ∀ {s : Nat} {xs : List (List LV)} {v : Value}, G E w (.ro s xs) v → G F w (.ro s xs) v := fun hg => nl hg (by simp [NL])
 have sl : ∀ {y off len : Nat} {v : Value}, G E w (.sl y off len) v → ∀ {r : LV}, fle H (.sl y off len) r → G F w r v := by
  intro y off len v hv r hf
  simp only [fle] at hf
  split at hf
  ·split at hf
   ·rename_i s' ys _ _ e sz es hl
    split at hf
    ·obtain ⟨rfl, rfl, rfl, hnl⟩ := hf
     rcases sl_real hr hl hv with ⟨rfl, rfl, _⟩ | ⟨k, arr, cap, rfl, hφ, hh, hlc, hcm, hcap, hle, hone, hg⟩
     ·exact .roNil _
     ·refine .ro _ es k 0 cap (fun i j => if i < es.length ∧ j < sz then arr.getD (i * sz + j) undef else .bool true) (hlive y k _ hφ) (hr.nok y k _ hφ).2 hlc (fun i cs hi => (hg i cs hi).1)
       (fun i cs j x hi hj => NLss_iff.1 hnl cs (List.mem_of_getElem? hi) x (List.mem_of_getElem? hj)) ?_ ?_ ?_
      ·intro i j hi hj
       have hlt : i * sz + j < es.length * sz := by
        have : (i + 1) * sz ≤ es.length * sz := Nat.mul_le_mul_right _ hi
        rw [Nat.succ_mul] at this; omega
       have hlt2 : i * sz + j < arr.size := by omega
       simp [World.cell?, hh, hi, hj, Array.getD, hlt2]
      ·intro i j
       split
       ·rename_i hc
        refine hone _ ?_
        have : (i + 1) * sz ≤ es.length * sz := Nat.mul_le_mul_right _ hc.1
        rw [Nat.succ_mul] at this; omega
       ·rfl
      ·intro i cs j x hi hj
       have h1 : i < es.length := (List.getElem?_eq_some_iff.1 hi).1
       have h2 : j < sz := by rw [← (hg i cs hi).1]; exact (List.getElem?_eq_some_iff.1 hj).1
       simp only [h1, h2, and_self, if_true]
       exact nl ((hg i cs hi).2 j x hj) (NLss_iff.1 hnl cs (List.mem_of_getElem? hi) x (List.mem_of_getElem? hj))
    ·exact hf.elim
   ·exact hf.elim
  ·exact hf.elim
 have pt : ∀ {y i o : Nat} {v : Value}, G E w (.ptr y i o) v → ∀ {r : LV}, fle H (.ptr y i o) r → G F w r v := by
  intro y i o v hv r hf
  cases r <;> simp only [fle] at hf
  split at hf
  ·rename_i e sz es hl
   unfold fleP at hf
   split at hf
   ·rename_i y2 off2 len2
    split at hf
    ·rename_i s' ys
     obtain ⟨⟨rfl, rfl⟩, hf⟩ := hf
     split at hf
     ·rename_i e2 sz2 es2 hl2
      split at hf
      ·rcases hr.row y e sz _ hl with ⟨_, h0⟩ | ⟨k, arr, hφ, hh, hle, hone, hg⟩
       ·cases h0
       ·have hsz : sz = 1 := (hg 0 _ rfl).1.symm
        subst hsz
        have hc := (hg 0 _ rfl).2 0 _ rfl
        have hro := sl hc (r := .ro s' ys) (by simp only [fle, hl2]; exact hf)
        have hsize : 1 ≤ arr.size := by simpa using hle
        simp only [Nat.zero_mul, Nat.add_zero] at hro
        obtain rfl : v = .pointer (some ⟨k, 0, none⟩) := by
         cases hv with
         | ptrDead _ _ _ _ hx _ => rw [hφ] at hx; cases hx
         | ptr _ _ _ k' s2 hx =>
          rw [hφ] at hx
          obtain ⟨hkk, rfl⟩ := Prod.mk.inj (Option.some.inj hx)
          cases hkk
          simp
        refine .rptr [.ro s' ys] k 0 (fun j => if j = 0 then arr.getD 0 undef else .bool true) (hlive y k _ hφ) (hr.nok y k _ hφ).2 (fun j x hj => ?_) (fun j x hj => ?_) (fun j => ?_) (fun j x hj => ?_)
        ·match j, hj with
         | 0, hj => simp at hj; subst hj; simp [NL]
        ·match j, hj with
         | 0, hj =>
          have h0 : 0 < arr.size := hsize
          simp [World.cell?, hh, Array.getD, h0]
        ·by_cases h0 : j = 0
         ·rw [if_pos h0]; exact hone 0 (by simp)
         ·rw [if_neg h0]; rfl
        ·match j, hj with
         | 0, hj => simp at hj; subst hj; exact hro
      ·exact hf.elim
     ·exact hf.elim
    ·exact hf.elim
   ·skip
    obtain ⟨E', hr', hx', _, hp⟩ := relH_freeze hr hl (NLss_iff.1 hf.2)
    have := hp i o v hv
    rw [hf.1] at this
    refine G.turn (E := E') (E' := F) (m := 0) (fun b hb => ?_) (fun x hx => by omega) (Nat.zero_le _) this (show NL (LV.rptr _) by simp [NL]).bel
    rcases hx'.okNew b hb with h1 | h1 | ⟨x, s, h1⟩
    ·exact hok b h1
    ·have := hr'.okl b hb; omega
    ·exact hlive x b s h1
  ·exact hf.elim
 have lst : ∀ {a b : List LV} {arr : Array Value}, arr.size = a.length → fles H a b → (∀ (i : Nat) (x : LV), a[i]? = some x → ∀ {r : LV}, fle H x r → G F w r (arr.getD i undef)) →
   arr.size = b.length ∧ ∀ (i : Nat) (y : LV), b[i]? = some y → G F w y (arr.getD i undef) := by
  intro a b arr hl hf ih
  obtain ⟨h1, h2⟩ := fles_get hf
  refine ⟨by rw [hl, h1], fun i y hy => ?_⟩
  have hi : i < a.length := by rw [h1]; exact (List.getElem?_eq_some_iff.1 hy).1
  have hx : a[i]? = some a[i] := by simp [hi]
  exact ih i _ hx (h2 i _ y hx hy)
 intro l v h
 induction h with
 | any v => intro r hf; cases r <;> simp [fle] at hf; exact .any v
 | und => intro r hf; cases r <;> simp [fle] at hf; exact .und
 | bool b => intro r hf; cases r <;> simp [fle] at hf; subst hf; exact .bool _
 | int k n => intro r hf; cases r <;> simp [fle] at hf; obtain ⟨rfl, rfl⟩ := hf; exact .int _ _
 | str s => intro r hf; cases r <;> simp [fle] at hf; subst hf; exact .str _
 | agg cs arr hl h1 hg ih =>
  intro r hf
  cases r <;> simp only [fle] at hf
  obtain ⟨h2, h3⟩ := lst hl hf ih
  exact .agg _ arr h2 h1 h3
 | tup cs arr hl hg ih =>
  intro r hf
  cases r <;> simp only [fle] at hf
  obtain ⟨h2, h3⟩ := lst hl hf ih
  exact .tup _ arr h2 h3
 | nilp => intro r hf; cases r <;> simp [fle] at hf; exact .nilp
 | ptrDead x i o v h hx => exact fun hf => pt (.ptrDead x i o v h hx) hf
 | ptr x i o k sz h => exact fun hf => pt (.ptr x i o k sz h) hf
 | rptr cs b off f hok' hb hn hc h1 hg ih =>
  intro r hf
  cases r <;> simp only [fle] at hf
  subst hf
  exact nl (.rptr cs b off f hok' hb hn hc h1 hg) (by simp [NL])
 | slDead x off len v h hx => exact fun hf => sl (.slDead x off len v h hx) hf
 | sl x off len cap k s arr t fr h hlc hcm hk hcap => exact fun hf => sl (.sl x off len cap k s arr t fr h hlc hcm hk hcap) hf
 | slV x s h => exact fun hf => sl (.slV x s h) hf
 | roNil s =>
  intro r hf
  cases r <;> simp only [fle] at hf
  obtain ⟨rfl, rfl⟩ := hf
  exact .roNil _
 | roZ s a =>
  intro r hf
  cases r <;> simp only [fle] at hf
  obtain ⟨rfl, rfl⟩ := hf
  exact .roZ _ a
 | ro s xs b off cap f hok' hb hcap hsz hn hc h1 hg ih =>
  intro r hf
  cases r <;> simp only [fle] at hf
  obtain ⟨rfl, rfl⟩ := hf
  exact ro (.ro s xs b off cap f hok' hb hcap hsz hn hc h1 hg)
 | nils =>
  intro r hf
  cases r <;> simp only [fle] at hf
  ·subst hf; exact .roNil _
  ·exact .nils
 | mapDead x v h hx => intro r hf; simp [fle] at hf
 | map x k sz h => intro r hf; simp [fle] at hf
 | nilm => intro r hf; cases r <;> simp [fle] at hf; exact .nilm
 | func fn a b c d hc hd ha hb ih1 ih2 =>
  intro r hf
  cases r <;> simp only [fle] at hf
  obtain ⟨rfl, h1, h2⟩ := hf
  obtain ⟨h3, h4⟩ := lst hc h1 ih1
  obtain ⟨h5, h6⟩ := lst hd h2 ih2
  exact .func _ _ _ c d h3 h5 h4 h6
 | nilf => intro r hf; cases r <;> simp [fle] at hf; exact .nilf
 | iface t x v h ih =>
  intro r hf
  cases r <;> simp only [fle] at hf
  obtain ⟨rfl, hf⟩ := hf
  exact .iface _ _ v (ih hf)
 | nili => intro r hf; cases r <;> simp [fle] at hf; exact .nili
 | iteT a b v h ih => intro r hf; unfold fle at hf; exact ih (hf.1 rfl)
 | iteF a b v h ih => intro r hf; unfold fle at hf; exact ih (hf.2 rfl)

mutual
theorem fle_NL {H : Heap} : ∀ {l r : LV}, fle H l r → NL r
 | .bool a, r, h => by cases r <;> simp [fle] at h <;> simp [NL]
 | .int k a, r, h => by cases r <;> simp [fle] at h <;> simp [NL]
 | .str a, r, h => by cases r <;> simp [fle] at h <;> simp [NL]
 | .agg a, r, h => by cases r <;> simp only [fle] at h; simp only [NL]; exact fles_NL h
 | .tup a, r, h => by cases r <;> simp only [fle] at h; simp only [NL]; exact fles_NL h
 | .ro s xs, r, h => by cases r <;> simp [fle] at h <;> simp [NL]
 | .nils, r, h => by cases r <;> simp [fle] at h <;> simp [NL]
 | .sl y off len, r, h => by cases r <;> simp [fle] at h <;> simp [NL]
 | .nilp, r, h => by cases r <;> simp [fle] at h <;> simp [NL]
 | .nilm, r, h => by cases r <;> simp [fle] at h <;> simp [NL]
 | .nilf, r, h => by cases r <;> simp [fle] at h <;> simp [NL]
 | .nili, r, h => by cases r <;> simp [fle] at h <;> simp [NL]
 | .und, r, h => by cases r <;> simp [fle] at h <;> simp [NL]
 | .func fn a b, r, h => by cases r <;> simp only [fle] at h; simp only [NL]; exact ⟨fles_NL h.2.1, fles_NL h.2.2⟩
 | .iface t a, r, h => by cases r <;> simp only [fle] at h; simp only [NL]; exact fle_NL h.2
 | .ite c a b, r, h => by
  simp only [fle] at h
  cases c with
  | true => exact fle_NL (h.1 rfl)
  | false => exact fle_NL (h.2 rfl)
 | .any, r, h => by cases r <;> simp [fle] at h <;> simp [NL]
 | .ptr _ _ _, r, h => by cases r <;> simp [fle] at h <;> simp [NL]
 | .rptr _, r, h => by cases r <;> simp [fle] at h <;> simp [NL]
 | .map _, r, h => by simp [fle] at h
theorem fles_NL {H : Heap} : ∀ {a b : List LV}, fles H a b → NLs b
 | [], [], _ => by simp [NLs]
 | [], b :: s, h => by simp [fles] at h
 | a :: r, [], h => by simp [fles] at h
 | a :: r, b :: s, h => by simp only [fles] at h; simp only [NLs]; exact ⟨fle_NL h.1, fles_NL h.2⟩
end

theorem CallP.intro {f : FuncId} {args : List LV} {r : LV} (hnl : NLs args) (h : CallW P f args ⟨0, []⟩ fun lv H' => fle H' lv r) : CallP P f args r := by
 intro H
 refine ⟨h.1, fun E w vals hr hg => ?_⟩
 let E0 : Env := ⟨0, fun _ => none, E.ok⟩
 have hr0 : RelH E0 ⟨0, []⟩ w := ⟨rfl, fun x e sz es h => by simp [look] at h, fun x es h => by simp [look] at h, fun _ _ => rfl, fun x b h => by simp [look] at h, fun x y k s s' h => (by cases h), fun x k s h => (by cases h), hr.okl⟩
 have hg0 : Gs E0 w args vals := ⟨hg.1, fun i x v hx hv => G.turn (E := E) (E' := E0) (m := 0) (fun b hb => hb) (fun x hx => by omega) (Nat.zero_le _) (hg.2 i x v hx hv) (NLs.get hnl hx).bel⟩
 refine (h.2 E0 w vals hr0 hg0).mono fun e w' he => ?_
 cases e with
 | panicked c => exact he.elim
 | outgrown => exact he.elim
 | returned v =>
  obtain ⟨E1, lv, H1, hf, hr1, hgv, hx⟩ := he
  let F : Env := ⟨E.nx, E.φ, fun b => E1.ok b ∨ ∃ x s, E1.φ x = some (some b, s)⟩
  have new : ∀ b, (E1.ok b ∨ ∃ x s, E1.φ x = some (some b, s)) → E.ok b ∨ w.heap.size ≤ b := by
   rintro b (h1 | ⟨x, s, h1⟩)
   ·rcases hx.okNew b h1 with h2 | h2 | ⟨x, s, h2⟩
    ·exact .inl h2
    ·exact .inr h2
    ·cases h2
   ·rcases hx.fresh x b s (Nat.zero_le _) h1 with h2 | ⟨y, s', h2⟩
    ·exact .inr h2
    ·cases h2
  have hext : Ext E w F w' := by
   refine ⟨Nat.le_refl _, hx.size, fun k hk _ => hx.keep k hk (fun x s h => by cases h), hx.cells, fun _ _ => .inr rfl, fun b hb => .inl (hx.ok b hb), fun b hb => ?_, fun x k s _ h => .inr ⟨x, s, h⟩, hx.os, hx.output, hx.tape⟩
   rcases new b hb with h1 | h1
   ·exact .inl h1
   ·exact .inr (.inl h1)
  have keep : ∀ x k s, E.φ x = some (some k, s) → w'.heap[k]? = w.heap[k]? := fun x k s h => hx.keep k (hr.nok x k s h).2 (fun x s h => by cases h)
  have gm : ∀ {l v}, G E w l v → G F w' l v := fun h => h.ext hr hext
  refine ⟨F, r, H, ⟨rfl, rfl⟩, ⟨hr.nx, ?_, ?_, hr.none, hr.lt, hr.inj, ?_, ?_⟩, ?_, hext⟩
  ·intro x e sz es hl
   rcases hr.row x e sz es hl with h1 | ⟨k, arr, h1, h2, h3, h4, h5⟩
   ·exact .inl h1
   ·exact .inr ⟨k, arr, h1, (keep x k sz h1).trans h2, h3, h4, fun i cs hi => ⟨(h5 i cs hi).1, fun j y hj => gm ((h5 i cs hi).2 j y hj)⟩⟩
  ·intro x es hl
   obtain ⟨k, en, cl, h1, h2, h3, h4, h5, h6⟩ := hr.mp x es hl
   refine ⟨k, en, cl, h1, (keep x k 0 h1).trans h2, h3, h4, h5, fun i p hp => ?_⟩
   obtain ⟨en', h7, h8, h9⟩ := h6 i p hp
   exact ⟨en', h7, gm h8, gm h9⟩
  ·intro x k s h1
   refine ⟨fun h2 => ?_, Nat.lt_of_lt_of_le (hr.nok x k s h1).2 hx.size⟩
   rcases new k h2 with h3 | h3
   ·exact (hr.nok x k s h1).1 h3
   ·have := (hr.nok x k s h1).2; omega
  ·rintro b (h1 | ⟨x, s, h1⟩)
   ·exact hr1.okl b h1
   ·exact (hr1.nok x b s h1).2
  ·exact fle_sound (F := F) hr1 (fun b hb => Or.inl hb) (fun x k s h => Or.inr ⟨x, s, h⟩) hgv hf
end
end Go.RX
