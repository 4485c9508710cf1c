/- RX, part g: slices cut, builtins that only read; and all reading operations as one. -/
import Derived.Test.YtljecfgfbebjiaaRXf
set_option linter.unusedVariables false
namespace Go.RX

section
variable {P : Program} {T : List (Nat × TE)} {gd : Prop} {C : Prop → Prop} {H : Heap} {K : LV → Prop}

def roCut (sz : Nat) (xs : List (List LV)) (lo hi mx : Option LV) (C : Prop → Prop) (K : LV → Prop) : Prop :=
 match lo, hi, mx with
 | none, some (.int _ h), none => C (0 ≤ h ∧ h ≤ xs.length) ∧ K (.ro sz (xs.take h.toNat))
 | some (.int _ l), none, none => C (0 ≤ l ∧ l ≤ xs.length) ∧ K (.ro sz (xs.drop l.toNat))
 | some (.int _ l), some (.int _ h), none => C (0 ≤ l ∧ l ≤ h ∧ h ≤ xs.length) ∧ K (.ro sz ((xs.take h.toNat).drop l.toNat))
 | none, some (.int _ h), some (.int _ m) => C (0 ≤ h ∧ h ≤ m ∧ m ≤ xs.length) ∧ K (.ro sz (xs.take h.toNat))
 | none, none, none => K (.ro sz xs)
 | some (.int _ l), some (.int _ h), some (.int _ m) => C (0 ≤ l ∧ l ≤ h ∧ h ≤ m ∧ m ≤ xs.length) ∧ K (.ro sz ((xs.take h.toNat).drop l.toNat))
 | _, _, _ => False

def strCut (s : ByteArray) (lo hi : Option LV) (C : Prop → Prop) (K : LV → Prop) : Prop :=
 match lo, hi with
 | none, some (.int _ h) => C (0 ≤ h ∧ h ≤ s.size) ∧ K (.str (s.extract 0 h.toNat))
 | some (.int _ l), none => C (0 ≤ l ∧ l ≤ s.size) ∧ K (.str (s.extract l.toNat s.size))
 | some (.int _ l), some (.int _ h) => C (0 ≤ l ∧ l ≤ h ∧ h ≤ s.size) ∧ K (.str (s.extract l.toNat h.toNat))
 | _, _ => False

def slCut (same : Bool) (y off len : Nat) (lo hi mx : Option LV) (C : Prop → Prop) (K : LV → Prop) : Prop :=
 match lo, hi, mx with
 | none, some (.int _ h), none => C (0 ≤ h ∧ h ≤ len) ∧ K (.sl y off h.toNat)
 | none, none, none => K (.sl y off len)
 | some (.int _ l), none, none => match same with
  | true => C (0 ≤ l ∧ l < len) ∧ K (.sl y (off + l.toNat) (len - l.toNat))
  | false => False
 | _, _, _ => False

def sliceK (T : List (Nat × TE)) (H : Heap) (t : Nat) (x : LV) (lo hi mx : Option LV) (C : Prop → Prop) (K : LV → Prop) : Prop :=
 match tyq T t with
 | some e => match e.u with
  | .slice el => match tyq T el with
   | some e' => match x with
    | .ro sz xs => match Nat.beq sz e'.size with
     | true => roCut sz xs lo hi mx C K
     | false => False
    | .sl y off len => match look H.live y with
     | some (.row _ sz0 _) => slCut (Nat.beq sz0 e'.size) y off len lo hi mx C K
     | _ => False
    | _ => False
   | none => False
  | .str => match x with
   | .str s => match mx with
    | none => strCut s lo hi C K
    | some _ => False
   | _ => False
  | .arr m el => match tyq T el with
   | some e' => match x, lo, hi, mx with
    | .ptr y 0 0, none, none, none => match look H.live y with
     | some (.row _ sz es) => match Nat.beq sz e'.size, Nat.ble 1 m, Nat.ble m 1000 with
      | true, true, true => m = es.length ∧ K (.sl y 0 m)
      | _, _, _ => False
     | _ => False
    | _, _, _, _ => False
   | none => False
  | _ => False
 | none => False

theorem roSub {E : Env} {w : World} {sz : Nat} {xs : List (List LV)} {v : Value} (h : G E w (.ro sz xs) v) {l k m : Nat} (h1 : l ≤ k) (h2 : k ≤ xs.length) (hm : k ≤ m) :
  ∃ a len cap, v = .slice a len cap ∧ len = xs.length ∧ len ≤ cap ∧ (m ≤ cap → G E w (.ro sz ((xs.take k).drop l)) (sliced a l k m sz)) := by
 cases h with
 | roNil =>
  refine ⟨none, 0, 0, rfl, rfl, Nat.le_refl _, fun hmc => ?_⟩
  have hk : k = 0 := by simpa using h2
  have hl : l = 0 := by omega
  have hm0 : m = 0 := by omega
  subst hk; subst hl; subst hm0
  simpa [sliced] using G.roNil (E := E) (w := w) sz
 | roZ _ a =>
  refine ⟨some a, 0, 0, rfl, rfl, Nat.le_refl _, fun hmc => ?_⟩
  have hk : k = 0 := by simpa using h2
  have hl : l = 0 := by omega
  have hm0 : m = 0 := by omega
  subst hk; subst hl; subst hm0
  simpa [sliced] using G.roZ (E := E) (w := w) sz a
 | ro _ _ b off cap f hok hb hcap hsz hnl hc hone hg =>
  refine ⟨_, _, cap, rfl, rfl, hcap, fun hmc => ?_⟩
  have hlen : ((xs.take k).drop l).length = k - l := by simp; omega
  by_cases hml : m = l
  ·have hkl : k = l := by omega
   have hnil : (xs.take k).drop l = [] := List.eq_nil_of_length_eq_zero (by rw [hlen]; omega)
   rw [hnil]
   have := G.ro (E := E) (w := w) sz [] b off 0 f hok hb (Nat.le_refl _) (fun i cs hi => by simp at hi) (fun i cs j x hi _ => by simp at hi) (fun i j hi _ => by simp at hi) hone (fun i cs j x hi _ => by simp at hi)
   simpa [sliced, hml, hkl] using this
  ·have hs : sliced (some ⟨b, off, none⟩) l k m sz = .slice (some ⟨b, off + l * sz, none⟩) ((xs.take k).drop l).length (m - l) := by
    simp only [sliced, if_neg hml, Option.map_some, addr_add, hlen]
   rw [hs]
   have hget : ∀ i (cs : List LV), ((xs.take k).drop l)[i]? = some cs → xs[l + i]? = some cs := by
    intro i cs hi
    rw [List.getElem?_drop, List.getElem?_take] at hi
    split at hi
    ·exact hi
    ·cases hi
   refine .ro sz _ b _ _ (fun i j => f (l + i) j) hok hb (by rw [hlen]; omega) (fun i cs hi => hsz _ cs (hget i cs hi)) (fun i cs j x hi hj => hnl (l + i) cs j x (hget i cs hi) hj) (fun i j hi hj => ?_) (fun i j => hone _ _)
    (fun i cs j x hi hj => hg (l + i) cs j x (hget i cs hi) hj)
   have := hc (l + i) j (by rw [hlen] at hi; omega) hj
   rw [Nat.add_mul] at this
   rw [show off + l * sz + i * sz + j = off + (l * sz + i * sz) + j by omega]
   exact this

theorem sliceK_spec (hT : TOk P T) (hC : ∀ p, C p → gd → p) {t : Nat} {x : LV} {lo hi mx : Option LV} (h : sliceK T H t x lo hi mx C K) :
  ∃ lv, K lv ∧ (gd → ∀ (E : Env) (w : World) (u : Value) (a b c : Option Value), RelH E H w → G E w x u → (a.isSome = lo.isSome ∧ ∀ l v, lo = some l → a = some v → G E w l v) →
   (b.isSome = hi.isSome ∧ ∀ l v, hi = some l → b = some v → G E w l v) → (c.isSome = mx.isSome ∧ ∀ l v, mx = some l → c = some v → G E w l v) → Ans P E w (Instr.sliceAt t u a b c) lv) := by
 have none_ : ∀ {E : Env} {w : World} {a : Option Value}, (a.isSome = (none : Option LV).isSome ∧ ∀ l v, (none : Option LV) = some l → a = some v → G E w l v) → a = none := by
  intro E w a h; cases a with
  | none => rfl
  | some v => simp at h
 have some_ : ∀ {E : Env} {w : World} {a : Option Value} {k : IntKind} {n : Int}, (a.isSome = (some (LV.int k n)).isSome ∧ ∀ l v, some (LV.int k n) = some l → a = some v → G E w l v) → a = some (.int k n) := by
  intro E w a k n h; cases a with
  | none => simp at h
  | some v => have := h.2 _ v rfl rfl; cases this; rfl
 unfold sliceK at h
 split at h
 ·rename_i e he
  obtain ⟨d, hd, hof⟩ := (hT _ _ he).desc
  split at h
  ·rename_i el hel
   rw [hel] at hof
   have := TI.of_slice hof; subst this
   have hel' := elem_of hd
   have hd' : P.underlying t = some (.slice (P.elem t)) := by rw [hel']; exact hd
   split at h
   ·rename_i e' he'
    have hsize : ∀ w : World, (sizeOf (P.elem t)).run P w = .ok e'.size w := fun w => by rw [hel']; exact run_size (hT _ _ he')
    split at h
    ·rename_i sz xs
     split at h
     ·rename_i hb
      have hsz := Nat.eq_of_beq_eq_true hb
      subst hsz
      unfold roCut at h
      split at h
      ·rename_i k n
       refine ⟨_, h.2, fun hg E w u a b c hr hu h1 h2 h3 => ?_⟩
       obtain ⟨hn0, hn1⟩ := hC _ h.1 hg
       rw [none_ h1, some_ h2, none_ h3]
       obtain ⟨a', len, cap, rfl, rfl, hlc, hG⟩ := roSub hu (l := 0) (k := n.toNat) (m := (match u with | .slice _ _ c => c | _ => 0)) (Nat.zero_le _) (by omega) (by
        obtain ⟨a', len, cap, rfl, rfl, hlc, _⟩ := roSub hu (l := 0) (k := 0) (m := 0) (Nat.zero_le _) (Nat.zero_le _) (Nat.zero_le _)
        simp; omega)
       simp only [List.drop_zero] at hG
       refine ⟨_, ?_, hG (Nat.le_refl _)⟩
       rw [run_sliceAt_slice w t _ _ _ _ hd', run_slice_h w t _ _ _ hd' _ n hn0 (by omega), hsize]
       rfl
      ·rename_i k n
       refine ⟨_, h.2, fun hg E w u a b c hr hu h1 h2 h3 => ?_⟩
       obtain ⟨hn0, hn1⟩ := hC _ h.1 hg
       rw [some_ h1, none_ h2, none_ h3]
       obtain ⟨a', len, cap, rfl, rfl, hlc, hG⟩ := roSub hu (l := n.toNat) (k := xs.length) (m := (match u with | .slice _ _ c => c | _ => 0)) (by omega) (Nat.le_refl _) (by
        obtain ⟨a', len, cap, rfl, rfl, hlc, _⟩ := roSub hu (l := 0) (k := 0) (m := 0) (Nat.zero_le _) (Nat.zero_le _) (Nat.zero_le _)
        exact hlc)
       rw [List.take_length] at hG
       refine ⟨_, ?_, hG (Nat.le_refl _)⟩
       rw [run_sliceAt_slice w t _ _ _ _ hd', run_slice_l w t _ _ _ hd' _ n hn0 (by omega), hsize]
       rfl
      ·rename_i k n k' n'
       refine ⟨_, h.2, fun hg E w u a b c hr hu h1 h2 h3 => ?_⟩
       obtain ⟨hn0, hn1, hn2⟩ := hC _ h.1 hg
       rw [some_ h1, some_ h2, none_ h3]
       obtain ⟨a', len, cap, rfl, rfl, hlc, hG⟩ := roSub hu (l := n.toNat) (k := n'.toNat) (m := (match u with | .slice _ _ c => c | _ => 0)) (by omega) (by omega) (by
        obtain ⟨a', len, cap, rfl, rfl, hlc, _⟩ := roSub hu (l := 0) (k := 0) (m := 0) (Nat.zero_le _) (Nat.zero_le _) (Nat.zero_le _)
        simp; omega)
       refine ⟨_, ?_, hG (Nat.le_refl _)⟩
       rw [run_sliceAt_slice w t _ _ _ _ hd', run_slice_lh w t _ _ _ hd' _ _ n n' hn0 hn1 (by omega), hsize]
       rfl
      ·rename_i k n k' n'
       refine ⟨_, h.2, fun hg E w u a b c hr hu h1 h2 h3 => ?_⟩
       obtain ⟨hn0, hn1, hn2⟩ := hC _ h.1 hg
       rw [none_ h1, some_ h2, some_ h3]
       obtain ⟨a', len, cap, rfl, rfl, hlc, hG⟩ := roSub hu (l := 0) (k := n.toNat) (m := n'.toNat) (Nat.zero_le _) (by omega) (by omega)
       simp only [List.drop_zero] at hG
       refine ⟨_, ?_, hG (by omega)⟩
       rw [run_sliceAt_slice w t _ _ _ _ hd', run_slice_hm w t _ _ _ hd' _ _ n n' hn0 hn1 (by omega), hsize]
       rfl
      ·refine ⟨_, h, fun hg E w u a b c hr hu h1 h2 h3 => ?_⟩
       rw [none_ h1, none_ h2, none_ h3]
       obtain ⟨a', len, cap, rfl, rfl, hlc, hG⟩ := roSub hu (l := 0) (k := xs.length) (m := (match u with | .slice _ _ c => c | _ => 0)) (Nat.zero_le _) (Nat.le_refl _) (by
        obtain ⟨a', len, cap, rfl, rfl, hlc, _⟩ := roSub hu (l := 0) (k := 0) (m := 0) (Nat.zero_le _) (Nat.zero_le _) (Nat.zero_le _)
        exact hlc)
       simp only [List.drop_zero, List.take_length] at hG
       refine ⟨_, ?_, hG (Nat.le_refl _)⟩
       rw [run_sliceAt_slice w t _ _ _ _ hd', run_slice_all w t _ _ _ hd', hsize]
       rfl
      ·rename_i k n k' n' k2 n2
       refine ⟨_, h.2, fun hg E w u a b c hr hu h1 h2 h3 => ?_⟩
       obtain ⟨hn0, hn1, hn2, hn3⟩ := hC _ h.1 hg
       rw [some_ h1, some_ h2, some_ h3]
       obtain ⟨a', len, cap, rfl, rfl, hlc, hG⟩ := roSub hu (l := n.toNat) (k := n'.toNat) (m := n2.toNat) (by omega) (by omega) (by omega)
       refine ⟨_, ?_, hG (by omega)⟩
       rw [run_sliceAt_slice w t _ _ _ _ hd', run_slice_lhm w t _ _ _ hd' _ _ _ n n' n2 hn0 hn1 hn2 (by omega), hsize]
       rfl
      ·exact h.elim
     ·exact h.elim
    ·rename_i y off len
     split at h
     ·rename_i e0 sz0 es0 hl
      unfold slCut at h
      split at h
      ·rename_i k n
       refine ⟨_, h.2, fun hg E w u a b c hr hu h1 h2 h3 => ?_⟩
       obtain ⟨hn0, hn1⟩ := hC _ h.1 hg
       rw [none_ h1, some_ h2, none_ h3]
       obtain ⟨kb, szb, hφ⟩ := alive hr hl
       cases hu with
       | slDead _ _ _ _ hx _ => rw [hφ] at hx; cases hx
       | sl _ _ _ cap kk sz arr tt fr hx hlc hcm hk hcap =>
        refine ⟨_, by rw [run_sliceAt_slice w t _ _ _ _ hd', run_slice_h w t _ _ _ hd' _ n hn0 (by omega), hsize]; rfl, ?_⟩
        have hz : sliced (some ⟨kk, off * sz, none⟩) 0 n.toNat cap e'.size = .slice (some ⟨kk, off * sz, none⟩) n.toNat cap := by
         simp only [sliced, Nat.zero_mul, Option.map_some, addr_add, Nat.add_zero, Nat.sub_zero, ite_self]
        rw [hz]
        exact .sl y off n.toNat cap kk sz arr tt fr hx (by omega) hcm hk hcap
       | slV _ sz hx =>
        have hn' : n = 0 := by simp at hn1; omega
        subst hn'
        refine ⟨_, by rw [run_sliceAt_slice w t _ _ _ _ hd', run_slice_h w t _ _ _ hd' _ 0 (by omega) (by omega), hsize]; rfl, ?_⟩
        simpa [sliced] using G.slV (E := E) (w := w) y sz hx
      ·refine ⟨_, h, fun hg E w u a b c hr hu h1 h2 h3 => ?_⟩
       rw [none_ h1, none_ h2, none_ h3]
       obtain ⟨kb, szb, hφ⟩ := alive hr hl
       cases hu with
       | slDead _ _ _ _ hx _ => rw [hφ] at hx; cases hx
       | sl _ _ _ cap kk sz arr tt fr hx hlc hcm hk hcap =>
        refine ⟨_, by rw [run_sliceAt_slice w t _ _ _ _ hd', run_slice_all w t _ _ _ hd', hsize]; rfl, ?_⟩
        have hz : sliced (some ⟨kk, off * sz, none⟩) 0 len cap e'.size = .slice (some ⟨kk, off * sz, none⟩) len cap := by
         simp only [sliced, Nat.zero_mul, Option.map_some, addr_add, Nat.add_zero, Nat.sub_zero, ite_self]
        rw [hz]
        exact .sl y off len cap kk sz arr tt fr hx hlc hcm hk hcap
       | slV _ sz hx =>
        refine ⟨_, by rw [run_sliceAt_slice w t _ _ _ _ hd', run_slice_all w t _ _ _ hd', hsize]; rfl, ?_⟩
        simpa [sliced] using G.slV (E := E) (w := w) y sz hx
      ·rename_i k n
       split at h
       ·rename_i hb
        have hsz := Nat.eq_of_beq_eq_true hb
        refine ⟨_, h.2, fun hg E w u a b c hr hu h1 h2 h3 => ?_⟩
        obtain ⟨hn0, hn1⟩ := hC _ h.1 hg
        rw [some_ h1, none_ h2, none_ h3]
        obtain ⟨kb, szb, hφ⟩ := alive hr hl
        have hszb : szb = sz0 := by rcases hr.row y e0 sz0 es0 hl with ⟨h1, _⟩ | ⟨_, _, h1, _⟩ <;> (rw [hφ] at h1; cases h1; rfl)
        subst hszb
        cases hu with
        | slDead _ _ _ _ hx _ => rw [hφ] at hx; cases hx
        | sl _ _ _ cap kk sz arr tt fr hx hlc hcm hk hcap =>
         rw [hφ] at hx
         obtain ⟨hkk, rfl⟩ := Prod.mk.inj (Option.some.inj hx)
         subst hkk
         refine ⟨_, by rw [run_sliceAt_slice w t _ _ _ _ hd', run_slice_l w t _ _ _ hd' _ n hn0 (by omega), hsize]; rfl, ?_⟩
         have hz : sliced (some ⟨kk, off * szb, none⟩) n.toNat len cap e'.size = .slice (some ⟨kk, (off + n.toNat) * szb, none⟩) (len - n.toNat) (cap - n.toNat) := by
          simp only [sliced, if_neg (show ¬ cap = n.toNat by omega), Option.map_some, addr_add, ← hsz, Nat.add_mul]
         rw [hz]
         exact .sl y (off + n.toNat) (len - n.toNat) (cap - n.toNat) kk szb arr tt fr hφ (by omega) (by omega) hk (Nat.le_trans (Nat.mul_le_mul_right _ (by omega)) hcap)
        | slV _ sz hx => simp at hn1; omega
       ·exact h.elim
      ·exact h.elim
     ·exact h.elim
    ·exact h.elim
   ·exact h.elim
  ·rename_i hstr
   rw [hstr] at hof
   have := TI.of_str hof; subst this
   split at h
   ·rename_i s
    split at h
    ·unfold strCut at h
     split at h
     ·rename_i k n
      refine ⟨_, h.2, fun hg E w u a b c hr hu h1 h2 h3 => ?_⟩
      obtain ⟨hn0, hn1⟩ := hC _ h.1 hg
      rw [none_ h1, some_ h2, none_ h3]
      cases hu
      refine ⟨_, ?_, .str _⟩
      rw [run_sliceAt_string w t _ _ _ _ hd]
      simp [Instr.slice, run_underlying hd, Instr.sliceBounds, run_sliceBound w _ n s.size _ hn0 hn1]
     ·rename_i k n
      refine ⟨_, h.2, fun hg E w u a b c hr hu h1 h2 h3 => ?_⟩
      obtain ⟨hn0, hn1⟩ := hC _ h.1 hg
      rw [some_ h1, none_ h2, none_ h3]
      cases hu
      refine ⟨_, ?_, .str _⟩
      rw [run_sliceAt_string w t _ _ _ _ hd]
      simp [Instr.slice, run_underlying hd, Instr.sliceBounds, run_sliceBound w _ n s.size _ hn0 hn1]
     ·rename_i k n k' n'
      refine ⟨_, h.2, fun hg E w u a b c hr hu h1 h2 h3 => ?_⟩
      obtain ⟨hn0, hn1, hn2⟩ := hC _ h.1 hg
      rw [some_ h1, some_ h2, none_ h3]
      cases hu
      refine ⟨_, ?_, .str _⟩
      rw [run_sliceAt_string w t _ _ _ _ hd]
      simp [Instr.slice, run_underlying hd, Instr.sliceBounds, run_sliceBound w _ n' s.size _ (by omega) hn2, run_sliceBound w _ n n'.toNat _ hn0 (by omega)]
     ·exact h.elim
    ·exact h.elim
   ·exact h.elim
  ·rename_i m el hel
   rw [hel] at hof
   have := TI.of_arr hof; subst this
   split at h
   ·rename_i e' hq'
    have he' := hT _ e' hq'
    split at h
    ·rename_i y
     split at h
     ·rename_i e0 sz es hl
      split at h
      ·rename_i hb1 hb3 hb4
       obtain ⟨hm, h⟩ := h
       have hsz := Nat.eq_of_beq_eq_true hb1
       have hm1 := Nat.le_of_ble_eq_true hb3
       have hm2 := Nat.le_of_ble_eq_true hb4
       refine ⟨_, h, fun hg E w u a b c hr hu h1 h2 h3 => ?_⟩
       rw [none_ h1, none_ h2, none_ h3]
       rcases hr.row y e0 sz es hl with ⟨_, hnil⟩ | ⟨k, arr, hφ, hh, hle, _, _⟩
       ·subst hnil; simp at hm; omega
       ·cases hu with
        | ptrDead _ _ _ _ hx _ => rw [hφ] at hx; cases hx
        | ptr _ _ _ k' sz' hx =>
         rw [hφ] at hx
         obtain ⟨hkk, rfl⟩ := Prod.mk.inj (Option.some.inj hx)
         cases hkk
         refine ⟨.slice (some ⟨k, 0, none⟩) m m, ?_, ?_⟩
         ·have hz : (⟨k, 0 + 0 * e'.size, none⟩ : Addr) = ⟨k, 0, none⟩ := by simp
          simp [Instr.sliceAt, run_underlying hd, Instr.sureAddr, Instr.sliceBounds, run_size he', addr_add]
         ·have := G.sl (E := E) (w := w) y 0 m m k sz arr e0 (0, 0) hφ (Nat.le_refl _) (by simp only [maxLen]; omega) hh (by rw [Nat.zero_add, hm]; exact hle)
          simpa using this
      ·exact h.elim
     ·exact h.elim
    ·exact h.elim
   ·exact h.elim
  ·exact h.elim
 ·exact h.elim
end
end Go.RX
