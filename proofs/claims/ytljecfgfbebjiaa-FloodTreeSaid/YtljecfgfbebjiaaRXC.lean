/- RX, part C: new names at any place; own rows lent to a call that answers a new one; a nil slice anywhere in a block. -/
import Derived.Test.YtljecfgfbebjiaaRXB
set_option linter.unusedVariables false
namespace Go.RX
section
variable {P : Program} {T : List (Nat × TE)}

def stayOk (n0 : Nat) (ρ : List (Nat × Nat)) : Bool := ρ.all fun p => Nat.ble n0 p.2 || Nat.beq p.1 p.2
theorem stayOk_spec {n0 : Nat} {ρ : List (Nat × Nat)} (h : stayOk n0 ρ = true) (x y : Nat) (hm : (x, y) ∈ ρ) : n0 ≤ y ∨ x = y := by
 have := List.all_eq_true.1 h _ hm
 simp only [Bool.or_eq_true] at this
 rcases this with h1 | h1
 ·exact .inl (Nat.le_of_ble_eq_true h1)
 ·exact .inr (Nat.eq_of_beq_eq_true h1)

theorem Ext.ren {E0 E E' : Env} {w0 w : World} {n0 m : Nat} {ρ : List (Nat × Nat)} (hx : Ext E0 w0 E w) (h0 : E0.nx = n0) (e1 : E'.nx = m) (hm : n0 ≤ m) (e2 : E'.ok = E.ok)
  (hφ : ∀ y q, E'.φ y = some q → ∃ x, (x, y) ∈ ρ ∧ E.φ x = some q) (hρ : ∀ x y, (x, y) ∈ ρ → n0 ≤ y ∨ x = y) : Ext E0 w0 E' w := by
 refine ⟨by rw [e1, h0]; exact hm, hx.size, hx.keep, hx.cells, ?_, fun b hb => by rw [e2]; exact hx.ok b hb, fun b hb => hx.okNew b (by rw [← e2]; exact hb), ?_, hx.os, hx.output, hx.tape⟩
 ·intro x hlt
  cases hq : E'.φ x with
  | none => exact .inl rfl
  | some q =>
   obtain ⟨z, hm1, hz⟩ := hφ x q hq
   rcases hρ z x hm1 with h1 | rfl
   ·omega
   ·rcases hx.old z hlt with h2 | h2
    ·rw [h2] at hz; cases hz
    ·exact .inr (by rw [← h2, hz])
 ·intro y k s hy hq
  obtain ⟨x, hm1, hxq⟩ := hφ y _ hq
  rcases Nat.lt_or_ge x E0.nx with hlt | hge
  ·rcases hx.old x hlt with h2 | h2
   ·rw [h2] at hxq; cases hxq
   ·exact .inr ⟨x, s, by rw [← h2]; exact hxq⟩
  ·exact hx.fresh x k s hge hxq

theorem SR.ren {E E' : Env} {w : World} {n : Nat} {s s' : Slots} {a : Act} {ρ : List (Nat × Nat)} (h : SR E w n s a) (hs : renS ρ s s') (turn : ∀ {l : LV} {v : Value}, G E w l v → G E' w (RX.ren ρ l) v) : SR E' w n s' a :=
 ⟨h.size, h.defers, fun t => by
  rcases renS_spec hs t with h1 | h1
  ·rw [h1]; exact .any _
  ·rw [h1]; exact turn (h.slot t)⟩

theorem LoopW.ren2 {n n0 : Nat} {c : Code} {Q : Exit → Slots → Heap → Prop} {s : Slots} {H : Heap} (ρ : List (Nat × Nat)) (s' : Slots) (m : Nat) (l' : List (Nat × Blk)) (hρ : onceP m ρ = true) (hs : renS ρ s s')
  (hl : renL ρ H.live m 0 ρ l') (hk : stayOk n0 ρ = true) (h0 : Nat.ble n0 m = true) (h : LoopW P n n0 c Q s' ⟨m, l'⟩) : LoopW P n n0 c Q s H := by
 intro E0 w0 hn E w a hsr hr hx
 obtain ⟨E', e1, e2, hr', turn, hφ⟩ := relH_ren hr ρ hρ hl
 exact h E0 w0 hn E' w a (hsr.ren hs turn) hr' (hx.ren hn e1 (Nat.le_of_ble_eq_true h0) e2 hφ (stayOk_spec hk))

theorem W.ren2 {n n0 : Nat} {c : Code} {Q : Exit → Slots → Heap → Prop} {s : Slots} {H : Heap} (ρ : List (Nat × Nat)) (s' : Slots) (m : Nat) (l' : List (Nat × Blk)) (hρ : onceP m ρ = true) (hs : renS ρ s s')
  (hl : renL ρ H.live m 0 ρ l') (hk : stayOk n0 ρ = true) (h0 : Nat.ble n0 m = true) (h : W P n n0 c Q s' ⟨m, l'⟩) : W P n n0 c Q s H := by
 intro E0 w0 hn E w a hsr hr hx
 obtain ⟨E', e1, e2, hr', turn, hφ⟩ := relH_ren hr ρ hρ hl
 exact h E0 w0 hn E' w a (hsr.ren hs turn) hr' (hx.ren hn e1 (Nat.le_of_ble_eq_true h0) e2 hφ (stayOk_spec hk))

theorem CallW.shrinkR {f : FuncId} {args : List LV} {H : Heap} {K : LV → Heap → Prop}
  (h : CallW P f args H fun lv H' => ∃ (ρ : List (Nat × Nat)) (m : Nat) (l' : List (Nat × Blk)), onceP m ρ = true ∧ renL ρ H'.live m 0 ρ l' ∧ stayOk H.nx ρ = true ∧ Nat.ble H.nx m = true ∧ K (RX.ren ρ lv) ⟨m, l'⟩) :
  CallW P f args H K := by
 refine ⟨h.1, fun E w vals hr hg => (h.2 E w vals hr hg).mono fun e w' he => ?_⟩
 cases e with
 | panicked c => exact he.elim
 | outgrown => exact he.elim
 | returned v =>
  obtain ⟨E1, lv, H1, ⟨ρ, m, l', hρ, hl, hk, h0, hK⟩, hr1, hgv, hx⟩ := he
  obtain ⟨E', e1, e2, hr', turn, hφ⟩ := relH_ren hr1 ρ hρ hl
  exact ⟨E', _, _, hK, hr', turn hgv, hx.ren hr.nx e1 (Nat.le_of_ble_eq_true h0) e2 hφ (stayOk_spec hk)⟩

def FLss : List (List LV) → Prop
 | [] => True
 | x :: r => FLs x ∧ FLss r
theorem FLs_mem : ∀ {l : List LV}, FLs l → ∀ x ∈ l, FL x
 | [], _, x, hx => by cases hx
 | a :: r, h, x, hx => by
  rcases List.mem_cons.1 hx with rfl | hx
  ·exact h.1
  ·exact FLs_mem h.2 x hx
theorem FLss_mem : ∀ {l : List (List LV)}, FLss l → ∀ x ∈ l, FLs x
 | [], _, x, hx => by cases hx
 | a :: r, h, x, hx => by
  rcases List.mem_cons.1 hx with rfl | hx
  ·exact h.1
  ·exact FLss_mem h.2 x hx
theorem FLss_map {α : Type} {f : α → List LV} (h : ∀ a, FLs (f a)) : ∀ l : List α, FLss (l.map f)
 | [] => True.intro
 | a :: r => ⟨h a, FLss_map h r⟩

theorem CallF.lend {f : FuncId} {args args' : List LV} {e sz : Nat} {es : List (List LV)} (h : CallF P f args' e sz es) (hes : FLss es) {H : Heap} (hl : Lents H args args') :
  CallW P f args H (fun lv H' => lv = .sl H.nx 0 es.length ∧ H' = ⟨H.nx + 1, (H.nx, .row e sz es) :: H.live⟩) := by
 refine ⟨h.1, fun E w vals hr hg => ?_⟩
 have hr0 : RelH (lendE E) ⟨0, []⟩ w := ⟨rfl, fun x e sz es h => by simp [look] at h, fun x es h => by simp [look] at h, fun _ _ => rfl, fun x b h => by simp [look] at h, fun x y k s s' h => (by cases h), fun x k s h => (by cases h), fun b hb => by
  rcases hb with hb | ⟨x, s, hb⟩
  ·exact hr.okl b hb
  ·exact (hr.nok x b s hb).2⟩
 have hg0 : Gs (lendE E) w args' vals := by
  refine ⟨by rw [← hl.get.1]; exact hg.1, fun i y v hy hv => ?_⟩
  obtain ⟨x, hx, hL⟩ := hl.at' hy
  exact hL.2 E w v hr (hg.2 i x v hx hv)
 refine (h.2 (lendE E) w vals hr0 hg0).mono fun ee w' he => ?_
 cases ee with
 | panicked c => exact he.elim
 | outgrown => exact he.elim
 | returned v =>
  obtain ⟨E1, lv, H1, ⟨rfl, rfl⟩, hr1, hgv, hx⟩ := he
  have h0 : E1.φ 0 ≠ none := by
   rcases hr1.row 0 e sz es (by simp [look]) with ⟨h1, _⟩ | ⟨k, arr, h1, _⟩ <;> rw [h1] <;> simp
  let F : Env := ⟨E.nx + 1, fun x => if x = E.nx then E1.φ 0 else E.φ x, E.ok⟩
  have oldnew : ∀ x, x ≠ E.nx → F.φ x = E.φ x := fun x hxn => if_neg hxn
  have atnew : F.φ E.nx = E1.φ 0 := if_pos rfl
  have newBig : ∀ k s, E1.φ 0 = some (some k, s) → w.heap.size ≤ k := fun k s h1 => by
   rcases hx.fresh 0 k s (Nat.zero_le _) h1 with h2 | ⟨y, s', h2⟩
   ·exact h2
   ·cases h2
  have hext : Ext E w F w' := by
   refine ⟨Nat.le_succ _, hx.size, fun k hk _ => hx.keep k hk (fun x s h => by cases h), hx.cells, fun x hxl => .inr (oldnew x (by omega)), fun b hb => hb, fun b hb => .inl hb, fun x k s hxn h1 => ?_, hx.os, hx.output, hx.tape⟩
   by_cases hxe : x = E.nx
   ·subst hxe; rw [atnew] at h1; exact .inl (newBig k s h1)
   ·rw [oldnew x hxe] at h1; exact .inr ⟨x, s, h1⟩
  have keep : ∀ x k s, E.φ x = some (some k, s) → w'.heap[k]? = w.heap[k]? := fun x k s h => hx.keep k (hr.nok x k s h).2 (fun x s h => by cases h)
  have gm : ∀ {l v}, G E w l v → G F w' l v := fun h => h.ext hr hext
  have lookN : ∀ x b, look ((E.nx, Blk.row e sz es) :: H.live) x = some b → (x = E.nx ∧ b = Blk.row e sz es) ∨ (x ≠ E.nx ∧ look H.live x = some b) := fun x b h1 => by
   simp only [look] at h1
   cases hb : Nat.beq x E.nx with
   | true => rw [hb] at h1; cases h1; exact .inl ⟨Nat.eq_of_beq_eq_true hb, rfl⟩
   | false => rw [hb] at h1; exact .inr ⟨fun h2 => by (subst h2; rw [Nat.beq_refl] at hb; cases hb), h1⟩
  refine ⟨F, .sl E.nx 0 es.length, ⟨E.nx + 1, (E.nx, .row e sz es) :: H.live⟩, by rw [hr.nx]; exact ⟨rfl, rfl⟩, ⟨rfl, ?_, ?_, ?_, ?_, ?_, ?_, fun b hb => Nat.lt_of_lt_of_le (hr.okl b hb) hx.size⟩, ?_, hext⟩
  ·intro x e' sz' es' hl
   rcases lookN x _ hl with ⟨rfl, h2⟩ | ⟨hne, hl⟩
   ·cases h2
    rw [atnew]
    rcases hr1.row 0 e sz es (by simp [look]) with h1 | ⟨k, arr, h1, h2, h3, h4, h5⟩
    ·exact .inl h1
    ·exact .inr ⟨k, arr, h1, h2, h3, h4, fun i cs hi => ⟨(h5 i cs hi).1, fun j y hj => ((h5 i cs hi).2 j y hj).flat (FLs_mem (FLss_mem hes cs (List.mem_of_getElem? hi)) y (List.mem_of_getElem? hj))⟩⟩
   ·rw [oldnew x hne]
    rcases hr.row x e' sz' es' hl with h1 | ⟨k, arr, h1, h2, h3, h4, h5⟩
    ·exact .inl h1
    ·exact .inr ⟨k, arr, h1, (keep x k sz' h1).trans h2, h3, h4, fun i cs hi => ⟨(h5 i cs hi).1, fun j y hj => gm ((h5 i cs hi).2 j y hj)⟩⟩
  ·intro x es' hl
   rcases lookN x _ hl with ⟨rfl, h2⟩ | ⟨hne, hl⟩
   ·cases h2
   ·rw [oldnew x hne]
    obtain ⟨k, en, cl, h1, h2, h3, h4, h5, h6⟩ := hr.mp x es' hl
    refine ⟨k, en, cl, h1, (keep x k 0 h1).trans h2, h3, h4, h5, fun i p hp => ?_⟩
    obtain ⟨en', h7, h8, h9⟩ := h6 i p hp
    exact ⟨en', h7, gm h8, gm h9⟩
  ·intro x hn
   simp only [look] at hn
   cases hb : Nat.beq x E.nx with
   | true => rw [hb] at hn; cases hn
   | false =>
    rw [hb] at hn
    rw [oldnew x (fun h2 => by subst h2; rw [Nat.beq_refl] at hb; cases hb)]
    exact hr.none x hn
  ·intro x b hl
   show x < E.nx + 1
   rcases lookN x _ hl with ⟨rfl, h2⟩ | ⟨hne, hl⟩
   ·omega
   ·have := hr.lt _ _ hl; rw [← hr.nx] at this; omega
  ·intro x y k s s' h1 h2
   by_cases hx0 : x = E.nx <;> by_cases hy0 : y = E.nx
   ·rw [hx0, hy0]
   ·subst hx0; rw [atnew] at h1; rw [oldnew y hy0] at h2
    have := newBig k s h1; have := (hr.nok y k s' h2).2; omega
   ·subst hy0; rw [atnew] at h2; rw [oldnew x hx0] at h1
    have := newBig k s' h2; have := (hr.nok x k s h1).2; omega
   ·rw [oldnew x hx0] at h1; rw [oldnew y hy0] at h2; exact hr.inj x y k s s' h1 h2
  ·intro x k s h1
   by_cases hx0 : x = E.nx
   ·subst hx0; rw [atnew] at h1
    refine ⟨fun h2 => ?_, (hr1.nok 0 k s h1).2⟩
    have := hr.okl k h2; have := newBig k s h1; omega
   ·rw [oldnew x hx0] at h1
    exact ⟨(hr.nok x k s h1).1, Nat.lt_of_lt_of_le (hr.nok x k s h1).2 hx.size⟩
  ·generalize hlen : es.length = len at hgv ⊢
   cases hgv with
   | slDead _ _ _ _ h1 _ => exact absurd h1 h0
   | sl _ _ _ cap k s arr t fr h1 h2 h3 h4 h5 => exact .sl E.nx 0 len cap k s arr t fr (atnew.trans h1) h2 h3 h4 h5
   | slV _ s h1 => exact .slV E.nx s (atnew.trans h1)

def Lentss (H : Heap) : List (List LV) → List (List LV) → Prop
 | [], [] => True
 | x :: r, y :: s => Lents H x y ∧ Lentss H r s
 | _, _ => False
theorem Lentss.get {H : Heap} : ∀ {a b : List (List LV)}, Lentss H a b → a.length = b.length ∧ ∀ (i : Nat) (y : List LV), b[i]? = some y → ∃ x, a[i]? = some x ∧ Lents H x y
 | [], [], _ => ⟨rfl, fun i x h => by simp at h⟩
 | [], b :: r', h => h.elim
 | a :: r, [], h => h.elim
 | a :: r, b :: r', h => by
  obtain ⟨h3, h4⟩ := Lentss.get h.2
  refine ⟨by simp [h3], fun i y hy => ?_⟩
  cases i with
  | zero => simp at hy; subst hy; exact ⟨a, rfl, h.1⟩
  | succ i =>
   obtain ⟨x, hx, hL⟩ := h4 i y (by simpa using hy)
   exact ⟨x, by simpa using hx, hL⟩
theorem Lent.rows {H : Heap} {z e sz n : Nat} {es es' : List (List LV)} (hl : look H.live z = some (.row e sz es)) (hn : n = es.length) (hs : Lentss H es es') : Lent H (.sl z 0 n) (.ro sz es') := by
 refine ⟨by simp [NL], fun E w v hr hg => ?_⟩
 obtain ⟨hlen, hget⟩ := hs.get
 subst hn
 rcases sl_real hr hl hg with ⟨rfl, rfl, _⟩ | ⟨k, arr, cap, rfl, hφ, hh, hlc, hcm, hcap, hle, hone, hgx⟩
 ·have : es' = [] := List.eq_nil_of_length_eq_zero hlen.symm
  subst this
  exact .roNil _
 ·rw [hlen] at hlc ⊢
  have hsz : ∀ (i : Nat) (cs : List LV), es'[i]? = some cs → cs.length = sz := fun i cs hi => by
   obtain ⟨x, hx, hL⟩ := hget i cs hi
   rw [← hL.get.1]; exact (hgx i x hx).1
  refine .ro sz es' k 0 cap (fun i j => if i < es.length ∧ j < sz then arr.getD (i * sz + j) undef else .bool true) (.inr ⟨z, sz, hφ⟩) (hr.nok z k _ hφ).2 hlc hsz
   (fun i cs j x hi hj => by
    obtain ⟨x', _, hL⟩ := hget i cs hi
    exact NLs.get hL.nl hj) ?_ ?_ ?_
  ·intro i j hi hj
   rw [← hlen] at hi
   have hlt : i * sz + j < es.length * sz := by
    have : (i + 1) * sz ≤ es.length * sz := Nat.mul_le_mul_right _ hi
    rw [Nat.succ_mul] at this; omega
   have hlt2 : i * sz + j < arr.size := by omega
   simp [World.cell?, hh, hi, hj, Array.getD, hlt2]
  ·intro i j
   split
   ·rename_i hc
    refine hone _ ?_
    have : (i + 1) * sz ≤ es.length * sz := Nat.mul_le_mul_right _ hc.1
    rw [Nat.succ_mul] at this; omega
   ·rfl
  ·intro i cs j x hi hj
   obtain ⟨x', hx', hL⟩ := hget i cs hi
   have h1 : i < es.length := (List.getElem?_eq_some_iff.1 hx').1
   have h2 : j < sz := by rw [← hsz i cs hi]; exact (List.getElem?_eq_some_iff.1 hj).1
   simp only [h1, h2, and_self, if_true]
   obtain ⟨y, hy, hLy⟩ := hL.at' hj
   exact hLy.2 E w _ hr ((hgx i x' hx').2 j y hy)

theorem relH_virtC {E : Env} {H : Heap} {w : World} (hr : RelH E H w) {b i j e sz t sz0 : Nat} {es : List (List LV)} {cs : List LV} (hl : look H.live b = some (.row t sz0 es)) (hi : nth es i = some cs) (hj : nth cs j = some .nils) (hb : Nat.ble (b + 1) H.nx = true) :
  ∃ E', RelH E' ⟨H.nx + 1, upd b (.row t sz0 (setN es i (setL cs j [.sl H.nx 0 0]))) ((H.nx, .row e sz []) :: H.live)⟩ w ∧ Ext E w E' w := by
 have hb := Nat.le_of_ble_eq_true hb
 obtain ⟨E', hr', hx', hφ⟩ := relH_virt hr none e sz
 have hne : Nat.beq b H.nx = false := by
  cases hq : Nat.beq b H.nx with
  | false => rfl
  | true => have := Nat.eq_of_beq_eq_true hq; omega
 have hl' : look ((H.nx, Blk.row e sz []) :: H.live) b = some (.row t sz0 es) := by
  simp only [look, hne]; exact hl
 rw [nth_eq] at hi hj
 refine ⟨E', relH_less hr' hl' (fun k cs' hk => ?_), hx'⟩
 rw [setN_eq] at hk
 rw [List.getElem?_set] at hk
 split at hk
 ·rename_i heq
  subst heq
  split at hk
  ·have hc : cs' = setL cs j [.sl H.nx 0 0] := (Option.some.inj hk).symm
   subst hc
   refine ⟨cs, hi, setL_length _ _ _, fun q y hq => ?_⟩
   have hql : q < cs.length := by have := (List.getElem?_eq_some_iff.1 hq).1; rwa [setL_length] at this
   rw [setL_get _ _ _ _ hql] at hq
   split at hq
   ·rename_i hc
    have hqj : q = j := by simp at hc; omega
    subst hqj
    simp at hq
    subst hq
    exact ⟨.nils, hj, fun v hv => by cases hv; exact .slV _ _ hφ⟩
   ·exact ⟨y, hq, fun _ h => h⟩
  ·cases hk
 ·exact ⟨cs', hk, rfl, fun q y hq => ⟨y, hq, fun _ h => h⟩⟩

theorem LoopW.virtC {n n0 : Nat} {c : Code} {Q : Exit → Slots → Heap → Prop} {s : Slots} {H : Heap} (b i j e sz : Nat) {t sz0 : Nat} {es : List (List LV)} {cs : List LV} (hl : look H.live b = some (.row t sz0 es)) (hi : nth es i = some cs) (hj : nth cs j = some .nils) (hb : Nat.ble (b + 1) H.nx = true)
  (h : LoopW P n n0 c Q s ⟨H.nx + 1, upd b (.row t sz0 (setN es i (setL cs j [.sl H.nx 0 0]))) ((H.nx, .row e sz []) :: H.live)⟩) : LoopW P n n0 c Q s H := by
 intro E0 w0 hn E w a hsr hr hx
 obtain ⟨E', hr', hx'⟩ := relH_virtC (e := e) (sz := sz) hr hl hi hj hb
 exact h E0 w0 hn E' w a (hsr.ext hr hx') hr' (hx.trans hx')
theorem W.virtC {n n0 : Nat} {c : Code} {Q : Exit → Slots → Heap → Prop} {s : Slots} {H : Heap} (b i j e sz : Nat) {t sz0 : Nat} {es : List (List LV)} {cs : List LV} (hl : look H.live b = some (.row t sz0 es)) (hi : nth es i = some cs) (hj : nth cs j = some .nils) (hb : Nat.ble (b + 1) H.nx = true)
  (h : W P n n0 c Q s ⟨H.nx + 1, upd b (.row t sz0 (setN es i (setL cs j [.sl H.nx 0 0]))) ((H.nx, .row e sz []) :: H.live)⟩) : W P n n0 c Q s H := by
 intro E0 w0 hn E w a hsr hr hx
 obtain ⟨E', hr', hx'⟩ := relH_virtC (e := e) (sz := sz) hr hl hi hj hb
 exact h E0 w0 hn E' w a (hsr.ext hr hx') hr' (hx.trans hx')
theorem beq_lt {a b : Nat} (h : a < b) : Nat.beq a b = false := by
 cases hb : Nat.beq a b with
 | false => rfl
 | true => have := Nat.eq_of_beq_eq_true hb; omega
def stA (nx : Nat) : Nat → List (List LV)
 | 0 => []
 | m + 1 => [.sl nx 0 0] :: stA (nx + 1) m
def nwA (nx e sz : Nat) : Nat → List (Nat × Blk) → List (Nat × Blk)
 | 0, l => l
 | m + 1, l => nwA (nx + 1) e sz m ((nx, .row e sz []) :: l)
theorem look_nwA {e sz : Nat} {z : Nat} : ∀ (m nx : Nat) (l l' : List (Nat × Blk)), look l z = look l' z → look (nwA nx e sz m l) z = look (nwA nx e sz m l') z
 | 0, nx, l, l', h => h
 | m + 1, nx, l, l', h => look_nwA m (nx + 1) _ _ (by simp only [look]; split <;> first | rfl | exact h)
theorem look_nwA_lt {e sz : Nat} {z : Nat} : ∀ (m nx : Nat) (l : List (Nat × Blk)), z < nx → look (nwA nx e sz m l) z = look l z
 | 0, nx, l, h => rfl
 | m + 1, nx, l, h => by
  have := look_nwA_lt (e := e) (sz := sz) (z := z) m (nx + 1) ((nx, .row e sz []) :: l) (by omega)
  rw [nwA, this]
  simp only [look]
  rw [beq_lt h]
theorem relH_virtA {w : World} {b e sz t sz0 : Nat} : ∀ (m : Nat) (pre : List (List LV)) {E : Env} {H : Heap}, RelH E H w → look H.live b = some (.row t sz0 (pre ++ List.replicate m [.nils])) → b < H.nx →
  ∃ E', RelH E' ⟨H.nx + m, upd b (.row t sz0 (pre ++ stA H.nx m)) (nwA H.nx e sz m H.live)⟩ w ∧ Ext E w E' w
 | 0, pre, E, H, hr, hl, hb => ⟨E, relH_same hr (fun z => look_upd_same (by simpa [stA, nwA] using hl) z), Ext.refl E w⟩
 | m + 1, pre, E, H, hr, hl, hb => by
  obtain ⟨E1, h1, h2⟩ := relH_virtC (e := e) (sz := sz) hr (i := pre.length) (j := 0) (cs := [.nils]) hl (by rw [nth_eq]; simp [List.replicate_succ]) rfl (Nat.ble_eq_true_of_le hb)
  have e1 : setN (pre ++ List.replicate (m + 1) [LV.nils]) pre.length (setL [LV.nils] 0 [.sl H.nx 0 0]) = (pre ++ [[.sl H.nx 0 0]]) ++ List.replicate m [.nils] := by
   rw [setN_eq', List.replicate_succ, List.set_append_right _ _ (Nat.le_refl _), Nat.sub_self]
   simp [setL]
  rw [e1] at h1
  have hlk : look (upd b (.row t sz0 ((pre ++ [[.sl H.nx 0 0]]) ++ List.replicate m [.nils])) ((H.nx, .row e sz []) :: H.live)) b = some (.row t sz0 ((pre ++ [[.sl H.nx 0 0]]) ++ List.replicate m [.nils])) := by
   rw [look_upd, if_pos ⟨rfl, by
    simp only [look]
    rw [beq_lt hb]
    simp only
    rw [hl]; rfl⟩]
  obtain ⟨E2, h3, h4⟩ := relH_virtA m (pre ++ [[.sl H.nx 0 0]]) h1 hlk (by show b < H.nx + 1; omega)
  refine ⟨E2, ?_, h2.trans h4⟩
  have hs : (⟨H.nx + (m + 1), upd b (.row t sz0 (pre ++ stA H.nx (m + 1))) (nwA H.nx e sz (m + 1) H.live)⟩ : Heap) = ⟨(H.nx + 1) + m, upd b (.row t sz0 (pre ++ stA H.nx (m + 1))) (nwA H.nx e sz (m + 1) H.live)⟩ := by rw [Nat.add_assoc, Nat.add_comm 1 m]
  rw [hs]
  refine relH_same h3 fun z => ?_
  simp only [nwA, stA, List.append_assoc, List.singleton_append]
  rw [look_upd, look_upd]
  have hb1 := look_nwA_lt (e := e) (sz := sz) (z := b) m (H.nx + 1) ((H.nx, .row e sz []) :: H.live) (by omega)
  have hb2 := look_nwA_lt (e := e) (sz := sz) (z := b) m (H.nx + 1) (upd b (.row t sz0 ((pre ++ [[.sl H.nx 0 0]]) ++ List.replicate m [.nils])) ((H.nx, .row e sz []) :: H.live)) (by omega)
  have hs1 : (look (nwA (H.nx + 1) e sz m ((H.nx, .row e sz []) :: H.live)) b).isSome = true := by
   rw [hb1]; simp only [look]
   rw [beq_lt hb]
   simp only
   rw [hl]; rfl
  by_cases hz : b = z
  ·subst hz
   rw [if_pos ⟨rfl, hs1⟩, if_pos ⟨rfl, by
    simp only [List.append_assoc, List.singleton_append] at hb2 hlk ⊢
    rw [hb2, hlk]; rfl⟩]
  ·rw [if_neg (fun h => hz h.1), if_neg (fun h => hz h.1)]
   refine look_nwA m (H.nx + 1) _ _ ?_
   rw [look_upd, if_neg (fun h => hz h.1)]
theorem LoopW.virtA {n n0 : Nat} {c : Code} {Q : Exit → Slots → Heap → Prop} {s : Slots} {H : Heap} (b m e sz : Nat) {t sz0 : Nat} (hl : look H.live b = some (.row t sz0 (List.replicate m [.nils]))) (hb : Nat.ble (b + 1) H.nx = true)
  (h : LoopW P n n0 c Q s ⟨H.nx + m, upd b (.row t sz0 (stA H.nx m)) (nwA H.nx e sz m H.live)⟩) : LoopW P n n0 c Q s H := by
 intro E0 w0 hn E w a hsr hr hx
 obtain ⟨E', hr', hx'⟩ := relH_virtA (e := e) (sz := sz) m [] hr hl (Nat.le_of_ble_eq_true hb)
 exact h E0 w0 hn E' w a (hsr.ext hr hx') hr' (hx.trans hx')
def selN {β : Type} (n : Int) (l : List (Unit → Option β)) : Option β := if 0 ≤ n then match l[n.toNat]? with
 | some f => f ()
 | none => none
 else none
theorem selN_lt {β : Type} {n : Int} {l : List (Unit → Option β)} {r : β} (h : selN n l = some r) : 0 ≤ n ∧ n < (l.length : Int) := by
 unfold selN at h
 split at h
 ·rename_i h0
  split at h
  ·rename_i f hf
   have := (List.getElem?_eq_some_iff.1 hf).1
   omega
  ·cases h
 ·cases h
theorem selN_at {β : Type} {n : Int} {l : List (Unit → Option β)} {r : β} (k : Nat) (hn : n = (k : Int)) (h : selN n l = some r) {f : Unit → Option β} (hf : l[k]? = some f) : f () = some r := by
 subst hn
 unfold selN at h
 rw [if_pos (Int.natCast_nonneg k), Int.toNat_natCast, hf] at h
 exact h
theorem sel16 {n : Int} (h : 0 ≤ n ∧ n < ((16 : Nat) : Int)) : n = 0 ∨ n = 1 ∨ n = 2 ∨ n = 3 ∨ n = 4 ∨ n = 5 ∨ n = 6 ∨ n = 7 ∨ n = 8 ∨ n = 9 ∨ n = 10 ∨ n = 11 ∨ n = 12 ∨ n = 13 ∨ n = 14 ∨ n = 15 := by omega
end
end Go.RX
