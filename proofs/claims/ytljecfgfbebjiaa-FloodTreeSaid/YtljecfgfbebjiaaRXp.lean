/- RX, part p: a loop's head; a call out of a body; a call that is seen by its value alone. -/
import Derived.Test.YtljecfgfbebjiaaRXo
set_option linter.unusedVariables false
namespace Go.RX

section
variable {P : Program} {T : List (Nat × TE)}

def subC (s : Slots) : Slots → Prop
 | [] => True
 | (t, v) :: r => get s t = v ∧ subC s r
theorem subC_spec {s : Slots} : ∀ {s' : Slots}, subC s s' → ∀ t, get s' t = .any ∨ get s' t = get s t
 | [], h, t => .inl rfl
 | (u, v) :: r, h, t => by
  simp only [get]
  cases hb : Nat.beq t u with
  | true => have := Nat.eq_of_beq_eq_true hb; subst this; exact .inr h.1.symm
  | false => exact subC_spec h.2 t

def belS (m : Nat) : Slots → Prop
 | [] => True
 | (t, v) :: r => bel m v ∧ belS m r
theorem belS_get {m : Nat} : ∀ {s : Slots} {t : Nat}, belS m s → bel m (get s t)
 | [], t, h => by simp [get, bel]
 | (u, v) :: r, t, h => by
  simp only [get]
  cases hb : Nat.beq t u with
  | true => exact h.1
  | false => exact belS_get h.2

def belss (m : Nat) : List (List LV) → Prop
 | [] => True
 | c :: r => bels m c ∧ belss m r
theorem bels_iff {m : Nat} : ∀ {l : List LV}, bels m l ↔ ∀ x ∈ l, bel m x
 | [] => by simp [bels]
 | x :: r => by simp [bels, bels_iff (l := r)]
theorem belss_iff {m : Nat} : ∀ {l : List (List LV)}, belss m l ↔ ∀ cs ∈ l, ∀ x ∈ cs, bel m x
 | [] => by simp [belss]
 | x :: r => by simp [belss, belss_iff (l := r), bels_iff]
def subL (l : List (Nat × Blk)) (m : Nat) : List (Nat × Blk) → Prop
 | [] => True
 | (x, b) :: r => (look l x = some b ∧ Nat.ble (x + 1) m = true ∧ (match b with
   | .row _ _ es => belss m es
   | .mp es => ∀ p ∈ es, bel m p.1 ∧ bel m p.2)) ∧ subL l m r
theorem subL_spec {l : List (Nat × Blk)} {m : Nat} : ∀ {l' : List (Nat × Blk)}, subL l m l' → ∀ x b, look l' x = some b → look l x = some b ∧ x < m ∧ (match b with
   | .row _ _ es => ∀ cs ∈ es, ∀ y ∈ cs, bel m y
   | .mp es => ∀ p ∈ es, bel m p.1 ∧ bel m p.2)
 | [], h, x, b, hl => by simp [look] at hl
 | (y, c) :: r, h, x, b, hl => by
  simp only [look] at hl
  cases hb : Nat.beq x y with
  | true =>
   rw [hb] at hl
   cases hl
   have := Nat.eq_of_beq_eq_true hb; subst this
   refine ⟨h.1.1, Nat.le_of_ble_eq_true h.1.2.1, ?_⟩
   have h3 := h.1.2.2
   cases c with
   | row a b es => exact belss_iff.1 h3
   | mp es => exact h3
  | false => rw [hb] at hl; exact subL_spec h.2 x b hl

theorem LoopW.norm {n n0 : Nat} {c : Code} {Q : Exit → Slots → Heap → Prop} {s : Slots} {H : Heap} (s' : Slots) (m : Nat) (l' : List (Nat × Blk)) (hs : subC s s') (hl : subL H.live m l') (hb : belS m s')
  (h0 : Nat.ble n0 m = true) (h : LoopW P n n0 c Q s' ⟨m, l'⟩) : LoopW P n n0 c Q s H := by
 intro E0 w0 hn E w a hsr hr hx
 let E' : Env := ⟨m, fun x => if (look l' x).isSome then E.φ x else none, E.ok⟩
 have hl' := subL_spec hl
 have hφ : ∀ x q, E'.φ x = some q → (look l' x).isSome ∧ E.φ x = some q := by
  intro x q h
  simp only [E'] at h
  split at h
  ·exact ⟨by assumption, h⟩
  ·cases h
 have turn : ∀ {l v}, G E w l v → bel m l → G E' w l v := fun hg hbl => G.turn (E := E) (E' := E') (m := m) (fun b hb => hb) (fun x hx => by
  simp only [E']
  split
  ·exact .inl rfl
  ·exact .inr ⟨rfl, hx⟩) (Nat.le_refl _) hg hbl
 have hr' : RelH E' ⟨m, l'⟩ w := by
  refine ⟨rfl, ?_, ?_, ?_, fun x b hx => (hl' x b hx).2.1, ?_, ?_, hr.okl⟩
  ·intro x e sz es hx
   obtain ⟨h1, h2, h3⟩ := hl' x _ hx
   have hE : E'.φ x = E.φ x := by simp [E', hx]
   rw [hE]
   rcases hr.row x e sz es h1 with h4 | ⟨k, arr, h4, h5, h6, h7, h8⟩
   ·exact .inl h4
   ·exact .inr ⟨k, arr, h4, h5, h6, h7, fun i cs hi => ⟨(h8 i cs hi).1, fun j y hj => turn ((h8 i cs hi).2 j y hj) (h3 cs (List.mem_of_getElem? hi) y (List.mem_of_getElem? hj))⟩⟩
  ·intro x es hx
   obtain ⟨h1, h2, h3⟩ := hl' x _ hx
   have hE : E'.φ x = E.φ x := by simp [E', hx]
   rw [hE]
   obtain ⟨k, en, cl, h4, h5, h6, h7, h8, h9⟩ := hr.mp x es h1
   refine ⟨k, en, cl, h4, h5, h6, h7, h8, fun i p hp => ?_⟩
   obtain ⟨en', h10, h11, h12⟩ := h9 i p hp
   have := h3 p (List.mem_of_getElem? hp)
   exact ⟨en', h10, turn h11 this.1, turn h12 this.2⟩
  ·intro x hx
   simp only [E']
   rw [hx]
   rfl
  ·intro x y k s1 s2 h1 h2
   exact hr.inj x y k s1 s2 (hφ x _ h1).2 (hφ y _ h2).2
  ·intro x k s1 h1
   exact hr.nok x k s1 (hφ x _ h1).2
 refine h E0 w0 hn E' w a ⟨hsr.size, hsr.defers, fun t => ?_⟩ hr' ?_
 ·rcases subC_spec hs t with h1 | h1
  ·rw [h1]; exact .any _
  ·have hbt := belS_get (t := t) hb
   rw [h1] at hbt ⊢
   exact turn (hsr.slot t) hbt
 ·refine ⟨by rw [hn]; exact Nat.le_of_ble_eq_true h0, hx.size, hx.keep, hx.cells, ?_, hx.ok, hx.okNew, ?_, hx.os, hx.output, hx.tape⟩
  ·intro x hx0
   simp only [E']
   split
   ·exact hx.old x hx0
   ·exact .inl rfl
  ·intro x k s1 hx0 h1
   exact hx.fresh x k s1 hx0 (hφ x _ h1).2

theorem LoopW.virt {n n0 : Nat} {c : Code} {Q : Exit → Slots → Heap → Prop} {s : Slots} {H : Heap} (t e sz : Nat) (hs : get s t = .nils)
  (h : LoopW P n n0 c Q ((t, .sl H.nx 0 0) :: s) ⟨H.nx + 1, (H.nx, .row e sz []) :: H.live⟩) : LoopW P n n0 c Q s H := by
 intro E0 w0 hn E w a hsr hr hx
 obtain ⟨E', hr', hx', hφ⟩ := relH_virt hr none e sz
 have hs' := hsr.ext hr hx'
 refine h E0 w0 hn E' w a ⟨hs'.size, hs'.defers, fun u => ?_⟩ hr' (hx.trans hx')
 simp only [get]
 cases hb : Nat.beq u t with
 | true =>
  have := Nat.eq_of_beq_eq_true hb; subst this
  have h1 := hsr.slot u
  rw [hs] at h1
  generalize a.tmps.getD u undef = x at h1
  cases h1
  exact .slV _ sz hφ
 | false => exact hs'.slot u

def resV (T : List (Nat × TE)) (s : Slots) (H : Heap) (r : ResultVar) (k : LV → Prop) : Prop :=
 match r with
 | .tmp t => force (get s t) k
 | .cell a t => loadK T H t (get s a) k

def resVs (T : List (Nat × TE)) (s : Slots) (H : Heap) : List ResultVar → (List LV → Prop) → Prop
 | [], k => k []
 | r :: rs, k => resV T s H r fun v => resVs T s H rs fun vs => k (v :: vs)

def resK (T : List (Nat × TE)) (s : Slots) (H : Heap) (rs : List ResultVar) (k : LV → Prop) : Prop :=
 match rs with
 | [r] => resV T s H r k
 | rs => resVs T s H rs fun vs => k (.tup vs)

def resSem (tmps : Array Value) : ResultVar → Sem Value
 | .tmp t => pure (tmps.getD t undef)
 | .cell x t => do loadVar t (← asAddr (tmps.getD x undef))

theorem results_eq (fn : Func) (tmps : Array Value) : results fn tmps = (do let vs ← fn.results.mapM (resSem tmps); pure (if h : vs.size = 1 then vs[0] else .tuple vs)) := by
 unfold results
 congr 1

theorem resV_spec (hT : TOk P T) {s : Slots} {H : Heap} {r : ResultVar} {k : LV → Prop} (h : resV T s H r k) {n : Nat} {E : Env} {w : World} {a : Act} (hs : SR E w n s a) (hr : RelH E H w) :
  ∃ lv, k lv ∧ ∃ v, (resSem a.tmps r).run P w = .ok v w ∧ G E w lv v := by
 cases r with
 | tmp t =>
  simp only [resV] at h
  rw [force_eq] at h
  exact ⟨_, h, _, rfl, hs.slot t⟩
 | cell x t =>
  simp only [resV] at h
  have hkind : (∃ y i o, get s x = .ptr y i o ∧ (look H.live y).isSome) ∨ ∃ cs, get s x = .rptr cs := by
   unfold loadK at h
   split at h
   ·rename_i b i o hb
    split at h
    ·rename_i hl; exact .inl ⟨b, i, o, hb, by rw [hl]; rfl⟩
    ·exact h.elim
   ·rename_i cs hb; exact .inr ⟨cs, hb⟩
   ·exact h.elim
  obtain ⟨lv, h1, h2⟩ := loadK_spec hT h
  obtain ⟨v, h3, h4⟩ := h2 E w _ hr (hs.slot x)
  refine ⟨lv, h1, v, ?_, h4⟩
  have hg := hs.slot x
  simp only [resSem]
  generalize a.tmps.getD x undef = u at hg h3 ⊢
  rcases hkind with ⟨y, i, o, hy, hl⟩ | ⟨cs, hc⟩
  ·rw [hy] at hg
   obtain ⟨blk, hb⟩ := Option.isSome_iff_exists.1 hl
   obtain ⟨k, sz, hφ⟩ := alive hr hb
   cases hg with
   | ptrDead _ _ _ _ hd _ => rw [hφ] at hd; cases hd
   | ptr => simpa [Instr.loadAt, Instr.sureAddr, asAddr] using h3
  ·rw [hc] at hg
   cases hg
   simpa [Instr.loadAt, Instr.sureAddr, asAddr] using h3

theorem resVs_spec (hT : TOk P T) {s : Slots} {H : Heap} : ∀ {rs : List ResultVar} {k : List LV → Prop} (h : resVs T s H rs k) {n : Nat} {E : Env} {w : World} {a : Act} (hs : SR E w n s a) (hr : RelH E H w),
  ∃ lvs, k lvs ∧ ∃ vs, (rs.mapM (resSem a.tmps)).run P w = .ok vs w ∧ Gs E w lvs vs ∧ vs.length = rs.length
 | [], k, h, n, E, w, a, hs, hr => ⟨[], h, [], by simp, ⟨rfl, fun i x v h => by simp at h⟩, rfl⟩
 | r :: rs, k, h, n, E, w, a, hs, hr => by
  simp only [resVs] at h
  obtain ⟨lv, h1, v, h2, h3⟩ := resV_spec hT h hs hr
  obtain ⟨lvs, h4, vs, h5, h6, h7⟩ := resVs_spec hT h1 hs hr
  refine ⟨lv :: lvs, h4, v :: vs, ?_, ⟨by simpa using h6.1, fun i x u hx hu => ?_⟩, by simp [h7]⟩
  ·simp only [List.mapM_cons, Sem.run_bind, h2, Result.andThen_ok, h5, Sem.run_pure]
  ·cases i with
   | zero => simp at hx hu; subst hx; subst hu; exact h3
   | succ i => exact h6.2 i x u (by simpa using hx) (by simpa using hu)

theorem resK_spec (hT : TOk P T) {s : Slots} {H : Heap} {fn : Func} {k : LV → Prop} (h : resK T s H fn.results.toList k) {n : Nat} {E : Env} {w : World} {a : Act} (hs : SR E w n s a) (hr : RelH E H w) :
  ∃ lv, k lv ∧ ∃ v, (results fn a.tmps).run P w = .ok v w ∧ G E w lv v := by
 have hres : ∀ vs : List Value, (fn.results.toList.mapM (resSem a.tmps)).run P w = .ok vs w →
   (results fn a.tmps).run P w = .ok (if h : vs.toArray.size = 1 then vs.toArray[0] else .tuple vs.toArray) w := by
  intro vs hvs
  have h2 : (fn.results.mapM (resSem a.tmps)).run P w = .ok vs.toArray w := by
   rw [Array.mapM_eq_mapM_toList]
   simp [hvs]
  rw [results_eq]
  simp only [Sem.run_bind, h2, Result.andThen_ok, Sem.run_pure]
 unfold resK at h
 split at h
 ·rename_i r hrs
  obtain ⟨lv, h1, v, h2, h3⟩ := resV_spec hT h hs hr
  refine ⟨lv, h1, v, ?_, h3⟩
  have := hres [v] (by rw [hrs]; simp only [List.mapM_cons, List.mapM_nil, Sem.run_bind, h2, Result.andThen_ok, Sem.run_pure])
  simpa using this
 ·rename_i hne
  obtain ⟨lvs, h1, vs, h2, h3, h4⟩ := resVs_spec hT h hs hr
  refine ⟨_, h1, .tuple vs.toArray, ?_, .tup lvs _ (by simpa using h3.1) (fun i x hx => ?_)⟩
  ·have hl : ¬ vs.toArray.size = 1 := by
    intro e
    have e2 : fn.results.toList.length = 1 := by rw [← h4]; simpa using e
    match hm : fn.results.toList, e2 with
    | [r], _ => exact hne r hm
   rw [hres vs h2, dif_neg hl]
  ·have hi : i < vs.length := by rw [h3.1]; exact (List.getElem?_eq_some_iff.1 hx).1
   have := h3.2 i x vs[i] hx (by simp [hi])
   simpa [Array.getD, hi] using this

def enumS : Nat → List LV → Slots
 | _, [] => []
 | i, x :: r => (i, x) :: enumS (i + 1) r

theorem enumS_get {E : Env} {w : World} : ∀ (l : List LV) (i t : Nat) (vs : List Value), Gs E w l vs → get (enumS i l) t = .any ∨ ∃ v, i ≤ t ∧ vs[t - i]? = some v ∧ G E w (get (enumS i l) t) v
 | [], i, t, vs, h => .inl rfl
 | x :: r, i, t, vs, h => by
  obtain ⟨v, vs, rfl, h1, h2⟩ := h.cons
  simp only [enumS, get]
  cases hb : Nat.beq t i with
  | true =>
   have := Nat.eq_of_beq_eq_true hb; subst this
   exact .inr ⟨v, Nat.le_refl _, by simp, h1⟩
  | false =>
   rcases enumS_get r (i + 1) t vs h2 with h3 | ⟨u, h3, h4, h5⟩
   ·exact .inl h3
   ·refine .inr ⟨u, by omega, ?_, h5⟩
    rw [show t - i = (t - (i + 1)) + 1 by omega]
    simpa using h4

def endK (T : List (Nat × TE)) (rs : List ResultVar) (K : LV → Heap → Prop) : Exit → Slots → Heap → Prop
 | .normal, s, H => resK T s H rs fun v => K v H
 | .ret, s, H => resK T s H rs fun v => K v H
 | _, _, _ => False

theorem CallW.intro (hT : TOk P T) {f : FuncId} {fn : Func} {c : Code} (hf : P.funcs[f]? = some fn) (hn : (fn.name == "runtime.NumGoroutine") = false) (hb : fn.body = some c) (keep : List Nat)
  {args : List LV} {H : Heap} {K : LV → Heap → Prop} (hl : Nat.ble args.length fn.ntmps = true) (h : wpc P T fn.ntmps H.nx keep c (endK T fn.results.toList K) (enumS 0 args) H) : CallW P f args H K := by
 refine ⟨⟨fn, hf, hn, by rw [hb]; rfl⟩, fun E w vals hr hg => ?_⟩
 refine calls_of_wp hf hb (wp_mono (wpc_sound hT c _ _ H h E w hr.nx E w _ ?_ hr (Ext.refl E w)) fun e a w' ⟨E', s, H', hq, hs, hr', hx⟩ => ?_)
 ·have hl' := Nat.le_of_ble_eq_true hl
  refine ⟨by simp [hg.1]; omega, rfl, fun t => ?_⟩
  rcases enumS_get args 0 t vals hg with h1 | ⟨v, _, h2, h3⟩
  ·rw [h1]; exact .any _
  ·rw [Nat.sub_zero] at h2
   have ht : t < vals.length := (List.getElem?_eq_some_iff.1 h2).1
   have : (vals.toArray ++ Array.replicate (fn.ntmps - vals.toArray.size) undef).getD t undef = v := by
    rw [Array.getD_eq_getD_getElem?, Array.getElem?_append_left (by simpa using ht)]
    simp [h2]
   rw [this]
   exact h3
 ·cases e with
  | normal =>
   obtain ⟨lv, h1, v, h2, h3⟩ := resK_spec hT hq hs hr'
   exact ⟨hs.defers, v, h2, E', lv, H', h1, hr', h3, hx⟩
  | ret =>
   obtain ⟨lv, h1, v, h2, h3⟩ := resK_spec hT hq hs hr'
   exact ⟨hs.defers, v, h2, E', lv, H', h1, hr', h3, hx⟩
  | exit i => exact hq.elim
  | goto l => exact hq.elim
  | panic c => exact hq.elim
  | outgrown => exact hq.elim
end
end Go.RX
