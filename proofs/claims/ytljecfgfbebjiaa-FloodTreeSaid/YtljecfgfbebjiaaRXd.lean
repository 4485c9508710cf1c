/- RX, part d: operations that only read, one by one. -/
import Derived.Test.YtljecfgfbebjiaaRXc
set_option linter.unusedVariables false
namespace Go.RX

def nth {α : Type} : List α → Nat → Option α
 | [], _ => none
 | a :: _, 0 => some a
 | _ :: r, n + 1 => nth r n

theorem nth_eq {α : Type} : ∀ (l : List α) (n : Nat), nth l n = l[n]?
 | [], n => by simp [nth]
 | a :: r, 0 => by simp [nth]
 | a :: r, n + 1 => by simp [nth, nth_eq r n]

def strip : LV → LV × Prop
 | .ite c a .und => ((strip a).1, c = true ∧ (strip a).2)
 | .ite c .und a => ((strip a).1, c = false ∧ (strip a).2)
 | v => (v, True)

theorem strip_spec {E : Env} {w : World} : ∀ {l : LV} {v : Value}, G E w l v → (strip l).2 → G E w (strip l).1 v := by
 intro l
 fun_induction strip l with
 | case1 c a ih =>
  intro v h hp
  obtain ⟨rfl, hp⟩ := hp
  cases h with
  | iteT _ _ _ h => exact ih h hp
 | case2 c a hne ih =>
  intro v h hp
  obtain ⟨rfl, hp⟩ := hp
  cases h with
  | iteF _ _ _ h => exact ih h hp
 | case3 v => intro v h _; exact h

def asB : LV → Option (Bool × Prop)
 | .bool b => some (b, True)
 | .ite c a .und => match asB a with
  | some (x, p) => some (x, c = true ∧ p)
  | none => none
 | .ite c .und a => match asB a with
  | some (x, p) => some (x, c = false ∧ p)
  | none => none
 | .ite c a b => match asB a, asB b with
  | some (x, p), some (y, q) => some (bif c then x else y, (c = true → p) ∧ (c = false → q))
  | _, _ => none
 | _ => none

theorem asB_spec {E : Env} {w : World} : ∀ {l : LV} {v : Value} {b : Bool} {p : Prop}, asB l = some (b, p) → p → G E w l v → v = .bool b := by
 intro l
 fun_induction asB l with
 | case1 b => intro v b' p h _ hg; simp at h; cases hg; rw [h.1]
 | case2 c a x p ha ih =>
  intro v b' p' h hp hg
  simp only [Option.some.injEq, Prod.mk.injEq] at h; obtain ⟨rfl, rfl⟩ := h
  obtain ⟨rfl, hp⟩ := hp
  cases hg with
  | iteT _ _ _ h => exact ih ha hp h
 | case3 => intro v b p h; simp at h
 | case4 c a _ x p ha ih =>
  intro v b' p' h hp hg
  simp only [Option.some.injEq, Prod.mk.injEq] at h; obtain ⟨rfl, rfl⟩ := h
  obtain ⟨rfl, hp⟩ := hp
  cases hg with
  | iteF _ _ _ h => exact ih ha hp h
 | case5 => intro v b p h; simp at h
 | case6 c a b _ _ x p y q hb ha iha ihb =>
  intro v b' p' h hp hg
  simp only [Option.some.injEq, Prod.mk.injEq] at h; obtain ⟨rfl, rfl⟩ := h
  cases hg with
  | iteT _ _ _ h => exact iha ha (hp.1 rfl) h
  | iteF _ _ _ h => exact ihb hb (hp.2 rfl) h
 | case7 => intro v b p h; simp at h
 | case8 => intro v b p h; simp at h

def pickK (c a b : LV) (C : Prop → Prop) (K : LV → Prop) : Prop :=
 match c with
 | .bool t => match asB a, asB b with
  | some (x, p), some (y, q) => C (t = true → p) ∧ C (t = false → q) ∧ K (.bool (bif t then x else y))
  | _, _ => K (.ite t a b)
 | .ite g u1 u2 => match asB (.ite g u1 u2) with
  | some (t, p0) => C p0 ∧ (match asB a, asB b with
   | some (x, p), some (y, q) => C (t = true → p) ∧ C (t = false → q) ∧ K (.bool (bif t then x else y))
   | _, _ => K (.ite t a b))
  | none => False
 | _ => False

def Ans (P : Program) (E : Env) (w : World) (s : Sem Value) (lv : LV) : Prop := ∃ v, s.run P w = .ok v w ∧ G E w lv v

section
variable {P : Program} {T : List (Nat × TE)} {gd : Prop} {C : Prop → Prop} {H : Heap} {K : LV → Prop}

theorem pickK_spec (hC : ∀ p, C p → gd → p) {c a b : LV} (h : pickK c a b C K) :
  ∃ lv, K lv ∧ (gd → ∀ (E : Env) (w : World) (u v x : Value), G E w c u → G E w a v → G E w b x → ∃ t, u = .bool t ∧ G E w lv (if t then v else x)) := by
 unfold pickK at h
 split at h
 ·rename_i t
  split at h
  ·rename_i x p y q ha hb
   obtain ⟨h1, h2, h3⟩ := h
   refine ⟨_, h3, fun hg E w u v x' hu hv hx => ⟨t, by cases hu; rfl, ?_⟩⟩
   cases t with
   | true => have := asB_spec ha (hC _ h1 hg rfl) hv; subst this; exact .bool _
   | false => have := asB_spec hb (hC _ h2 hg rfl) hx; subst this; exact .bool _
  ·refine ⟨_, h, fun hg E w u v x' hu hv hx => ⟨t, by cases hu; rfl, ?_⟩⟩
   cases t with
   | true => exact .iteT _ _ _ hv
   | false => exact .iteF _ _ _ hx
 ·split at h
  ·rename_i t p0 hc
   obtain ⟨h0, h⟩ := h
   split at h
   ·rename_i x p y q ha hb
    obtain ⟨h1, h2, h3⟩ := h
    refine ⟨_, h3, fun hg E w u v x' hu hv hx => ⟨t, asB_spec hc (hC _ h0 hg) hu, ?_⟩⟩
    cases t with
    | true => have := asB_spec ha (hC _ h1 hg rfl) hv; subst this; exact .bool _
    | false => have := asB_spec hb (hC _ h2 hg rfl) hx; subst this; exact .bool _
   ·refine ⟨_, h, fun hg E w u v x' hu hv hx => ⟨t, asB_spec hc (hC _ h0 hg) hu, ?_⟩⟩
    cases t with
    | true => exact .iteT _ _ _ hv
    | false => exact .iteF _ _ _ hx
  ·exact h.elim
 ·exact h.elim

def fieldK (T : List (Nat × TE)) (H : Heap) (s : Nat) (x : LV) (f : Nat) (K : LV → Prop) : Prop :=
 match tyq T s with
 | some e => match e.u with
  | .struct fs => match nth fs f with
   | some (off, ty, _) => match tyq T ty with
    | some e' => match e'.size with
     | 0 => False
     | _ + 1 => match x with
      | .ptr b i o => match look H.live b with
       | some _ => K (.ptr b i (o + off))
       | none => False
      | .rptr cs => K (.rptr (dropN off cs))
      | _ => False
    | none => False
   | none => False
  | _ => False
 | none => False

theorem alive {E : Env} {w : World} (hr : RelH E H w) {x : Nat} {b : Blk} (h : look H.live x = some b) : ∃ k sz, E.φ x = some (k, sz) := by
 cases b with
 | row e sz es => rcases hr.row x e sz es h with ⟨h1, _⟩ | ⟨k, _, h1, _⟩ <;> exact ⟨_, sz, h1⟩
 | mp es => obtain ⟨k, _, _, h1, _⟩ := hr.mp x es h; exact ⟨_, 0, h1⟩

theorem fieldK_spec (hT : TOk P T) {s : Nat} {x : LV} {f : Nat} (h : fieldK T H s x f K) :
  ∃ lv, K lv ∧ ∀ (E : Env) (w : World) (u : Value), RelH E H w → G E w x u → Ans P E w (Instr.fieldAt s u f) lv := by
 unfold fieldK at h
 cases hq : tyq T s with
 | none => rw [hq] at h; exact h.elim
 | some e =>
  rw [hq] at h
  obtain ⟨d, hd, hof⟩ := (hT s e hq).desc
  simp only at h
  split at h
  ·rename_i fs hfs
   rw [hfs] at hof
   obtain ⟨gs, rfl, hgs⟩ := TI.of_struct hof
   split at h
   ·rename_i off ty cc hn
    rw [nth_eq, ← hgs, List.getElem?_map, Option.map_eq_some_iff] at hn
    obtain ⟨fd, hfd, he⟩ := hn
    simp only [Prod.mk.injEq] at he
    obtain ⟨rfl, rfl, _⟩ := he
    have hfd' : gs[f]? = some fd := by simpa using hfd
    split at h
    ·rename_i e' hq'
     have he' := hT _ e' hq'
     split at h
     ·exact h.elim
     ·rename_i m hm
      have run : ∀ (w : World) (b o : Nat), (Instr.fieldAt s (.pointer (some ⟨b, o, none⟩)) f).run P w = .ok (.pointer (some ⟨b, o + fd.offset, none⟩)) w := by
       intro w b o
       simp [Instr.fieldAt, run_underlying hd, hfd', Instr.sureAddr, fieldPlace, run_size he', hm, addr_add]
      split at h
      ·rename_i b i o
       split at h
       ·rename_i blk hb
        refine ⟨_, h, fun E w u hr hu => ?_⟩
        obtain ⟨k, sz, hφ⟩ := alive hr hb
        cases hu with
        | ptrDead _ _ _ _ h1 _ => rw [hφ] at h1; cases h1
        | ptr _ _ _ k' sz' h1 =>
         refine ⟨_, run w _ _, ?_⟩
         rw [Nat.add_assoc]
         exact .ptr b i _ k' sz' h1
       ·exact h.elim
      ·rename_i cs
       refine ⟨_, h, fun E w u hr hu => ?_⟩
       cases hu with
       | rptr _ b o g hok hb hnl hc h1 hg =>
        refine ⟨_, run w _ _, ?_⟩
        refine .rptr _ b _ (fun j => g (fd.offset + j)) hok hb (fun j x hj => by rw [dropN_get] at hj; exact hnl _ x hj) (fun j x hj => ?_) (fun j => h1 _) (fun j x hj => ?_)
        ·rw [dropN_get] at hj; rw [Nat.add_assoc]; exact hc _ x hj
        ·rw [dropN_get] at hj; exact hg _ x hj
      ·exact h.elim
    ·exact h.elim
   ·exact h.elim
  ·exact h.elim

def loadK (T : List (Nat × TE)) (H : Heap) (t : Nat) (x : LV) (K : LV → Prop) : Prop :=
 match x with
 | .ptr b i o => match look H.live b with
  | some (.row _ _ es) => match nth es i with
   | some cs => partK T t cs o K
   | none => False
  | _ => False
 | .rptr cs => partK T t cs 0 K
 | _ => False

theorem loadK_spec (hT : TOk P T) {t : Nat} {x : LV} (h : loadK T H t x K) :
  ∃ lv, K lv ∧ ∀ (E : Env) (w : World) (u : Value), RelH E H w → G E w x u → Ans P E w (Instr.loadAt t u) lv := by
 have key : ∀ (cs : List LV) (o : Nat), partK T t cs o K → ∃ lv, K lv ∧ partK T t cs o (· = lv) := by
  intro cs o h
  unfold partK at h ⊢
  cases hq : tyq T t with
  | none => rw [hq] at h; exact h.elim
  | some e =>
   rw [hq] at h
   simp only at h ⊢
   cases ha : e.u.isAgg with
   | true =>
    rw [ha] at h
    simp only at h ⊢
    have tk : ∀ (n : Nat) (l : List LV) (k : List LV → Prop), takeK n l k → ∃ m, k m ∧ takeK n l (· = m) := by
     intro n
     induction n with
     | zero => intro l k h; exact ⟨[], h, rfl⟩
     | succ n ih =>
      intro l k h
      cases l with
      | nil => exact h.elim
      | cons c r =>
       obtain ⟨m, h1, h2⟩ := ih r _ h
       refine ⟨c :: m, h1, ?_⟩
       have mono : ∀ (n : Nat) (l : List LV) (k k' : List LV → Prop), (∀ m, k m → k' m) → takeK n l k → takeK n l k' := by
        intro n
        induction n with
        | zero => intro l k k' hk h; exact hk _ h
        | succ n ih => intro l k k' hk h; cases l with
         | nil => exact h.elim
         | cons c r => exact ih r _ _ (fun m hm => hk _ hm) h
       exact mono n r _ _ (fun m hm => by rw [hm]) h2
    obtain ⟨m, h1, h2⟩ := tk _ _ _ h
    refine ⟨_, h1, ?_⟩
    have mono : ∀ (n : Nat) (l : List LV) (k k' : List LV → Prop), (∀ m, k m → k' m) → takeK n l k → takeK n l k' := by
     intro n
     induction n with
     | zero => intro l k k' hk h; exact hk _ h
     | succ n ih => intro l k k' hk h; cases l with
      | nil => exact h.elim
      | cons c r => exact ih r _ _ (fun m hm => hk _ hm) h
    exact mono _ _ _ _ (fun m hm => by rw [hm]) h2
   | false =>
    rw [ha] at h
    simp only at h ⊢
    cases hd : dropN o cs with
    | nil => rw [hd] at h; exact h.elim
    | cons c r => rw [hd] at h; exact ⟨c, h, rfl⟩
 unfold loadK at h
 split at h
 ·rename_i b i o
  split at h
  ·rename_i e sz es hb
   split at h
   ·rename_i cs hn
    rw [nth_eq] at hn
    obtain ⟨lv, hk, hp⟩ := key cs o h
    refine ⟨lv, hk, fun E w u hr hu => ?_⟩
    rcases hr.row b e sz es hb with ⟨_, hnil⟩ | ⟨k, arr, hφ, hh, hle, h1, hg⟩
    ·rw [hnil] at hn; simp at hn
    cases hu with
    | ptrDead _ _ _ _ h1 _ => rw [hφ] at h1; cases h1
    | ptr _ _ _ k' sz' h2 =>
     rw [hφ] at h2
     obtain ⟨hkk, rfl⟩ := Prod.mk.inj (Option.some.inj h2)
     cases hkk
     obtain ⟨hlen, hgc⟩ := hg i cs hn
     have hi : i < es.length := (List.getElem?_eq_some_iff.1 hn).1
     have hlt : ∀ j x, cs[j]? = some x → i * sz + j < es.length * sz := fun j x hj => by
      have hj' : j < sz := by rw [← hlen]; exact (List.getElem?_eq_some_iff.1 hj).1
      have : (i + 1) * sz ≤ es.length * sz := Nat.mul_le_mul_right _ hi
      rw [Nat.succ_mul] at this
      omega
     obtain ⟨_, rfl, v, hv, hgv⟩ := partK_load (w := w) (b := k) (o := i * sz) (f := fun j => arr.getD (i * sz + j) undef) hT hp
      (fun j x hj => by
       have := hlt j x hj
       have hsz : i * sz + j < arr.size := by omega
       simp [World.cell?, hh, Array.getD, hsz])
      (fun j x hj => h1 _ (hlt j x hj))
      (fun j x hj => hgc j x hj)
     refine ⟨v, ?_, hgv⟩
     simpa [Instr.loadAt, Instr.sureAddr] using hv
   ·exact h.elim
  ·exact h.elim
 ·rename_i cs
  obtain ⟨lv, hk, hp⟩ := key cs 0 h
  refine ⟨lv, hk, fun E w u hr hu => ?_⟩
  cases hu with
  | rptr _ b o g hok hb hnl hc h1 hg =>
   obtain ⟨_, rfl, v, hv, hgv⟩ := partK_load (w := w) (b := b) (o := o) (f := g) hT hp hc (fun j _ _ => h1 j) hg
   refine ⟨v, ?_, hgv⟩
   simpa [Instr.loadAt, Instr.sureAddr] using hv
 ·exact h.elim

end
end Go.RX
