/- RX, part ka: operations that make or change the call's own maps. -/
import Derived.Test.YtljecfgfbebjiaaRXk
import Derived.Test.YtljecfgfbebjiaaRXga
set_option linter.unusedVariables false
namespace Go.RX

theorem relH_mstore {E : Env} {H : Heap} {w w' : World} (hr : RelH E H w) {x k : Nat} {es es' : List (LV × LV)} {en en' : Array MapEntry} {cl : Nat}
  (hl : look H.live x = some (.mp es)) (hφ : E.φ x = some (some k, 0)) (hold : w.heap[k]? = some (.map en cl))
  (hk : w'.heap[k]? = some (.map en' en'.size)) (hs : en'.size = es'.length)
  (hsz : w'.heap.size = w.heap.size) (hkeep : ∀ j, j ≠ k → w'.heap[j]? = w.heap[j]?)
  (hos : w'.os = w.os) (hout : w'.output = w.output) (htape : w'.tape = w.tape)
  (hb : ∀ (i : Nat) (e : MapEntry), en'[i]? = some e → e.born = i)
  (hg : ∀ (i : Nat) (p : LV × LV), es'[i]? = some p → ∃ e, en'[i]? = some e ∧ G E w p.1 e.key ∧ G E w p.2 e.val) :
  RelH E ⟨H.nx, upd x (.mp es') H.live⟩ w' ∧ Ext E w E w' := by
 have hext : Ext E w E w' := by
  refine ⟨Nat.le_refl _, by omega, ?_, ?_, fun _ _ => .inr rfl, fun _ h => h, fun _ h => .inl h, fun z j s _ h => .inr ⟨z, s, h⟩, hos, hout, htape⟩
  ·intro j hj hn
   exact hkeep j (fun e => hn x 0 (e ▸ hφ))
  ·intro j a t fr hj
   by_cases hjk : j = k
   ·subst hjk
    rw [hold] at hj; cases hj
   ·exact ⟨a, fr, (hkeep j hjk).trans hj, rfl⟩
 have gm : ∀ {l v}, G E w l v → G E w' l v := fun h => h.ext hr hext
 have hlk : ∀ z b, look (upd x (.mp es') H.live) z = some b → (z = x ∧ b = .mp es') ∨ (z ≠ x ∧ look H.live z = some b) := by
  intro z b h
  rw [look_upd] at h
  split at h
  ·rename_i hc
   exact .inl ⟨hc.1.symm, (Option.some.inj h).symm⟩
  ·rename_i hc
   refine .inr ⟨fun e => ?_, h⟩
   subst e
   exact hc ⟨rfl, by rw [hl]; rfl⟩
 refine ⟨⟨hr.nx, ?_, ?_, ?_, ?_, hr.inj, fun z j s hz => ⟨(hr.nok z j s hz).1, by rw [hsz]; exact (hr.nok z j s hz).2⟩, fun b hb => by rw [hsz]; exact hr.okl b hb⟩, hext⟩
 ·intro z e2 sz2 es2 hz
  rcases hlk z _ hz with ⟨rfl, hb⟩ | ⟨hne, hz⟩
  ·cases hb
  ·rcases hr.row z e2 sz2 es2 hz with h | ⟨k', arr2, h2, h3, h4, h5, h6⟩
   ·exact .inl h
   ·have hkk : k' ≠ k := fun e => by subst e; exact hne (hr.inj z x k' sz2 0 h2 hφ)
    exact .inr ⟨k', arr2, h2, (hkeep k' hkk).trans h3, h4, h5, fun i cs hi => ⟨(h6 i cs hi).1, fun j y hj => gm ((h6 i cs hi).2 j y hj)⟩⟩
 ·intro z es2 hz
  rcases hlk z _ hz with ⟨rfl, hb'⟩ | ⟨hne, hz⟩
  ·cases hb'
   refine ⟨k, en', en'.size, hφ, hk, hs, hb, rfl, fun i p hp => ?_⟩
   obtain ⟨e, h8, h9, h10⟩ := hg i p hp
   exact ⟨e, h8, gm h9, gm h10⟩
  ·obtain ⟨k', en2, cl2, h2, h3, h4, h5, h6, h7⟩ := hr.mp z es2 hz
   have hkk : k' ≠ k := fun e => by subst e; exact hne (hr.inj z x k' 0 0 h2 hφ)
   refine ⟨k', en2, cl2, h2, (hkeep k' hkk).trans h3, h4, h5, h6, fun i p hp => ?_⟩
   obtain ⟨en', h8, h9, h10⟩ := h7 i p hp
   exact ⟨en', h8, gm h9, gm h10⟩
 ·intro z hz
  refine hr.none z ?_
  rw [look_upd] at hz
  split at hz
  ·cases hz
  ·exact hz
 ·intro z b hz
  rcases hlk z _ hz with ⟨rfl, _⟩ | ⟨_, hz⟩
  ·exact hr.lt z _ hl
  ·exact hr.lt z b hz

theorem relH_mnew {E : Env} {H : Heap} {w : World} (hr : RelH E H w) :
  ∃ E', RelH E' ⟨H.nx + 1, (H.nx, .mp []) :: H.live⟩ (w.alloc (.map #[] 0)) ∧ Ext E w E' (w.alloc (.map #[] 0)) ∧ E'.φ H.nx = some (some w.heap.size, 0) := by
 have hpush : (w.alloc (.map #[] 0)).heap = w.heap.push (.map #[] 0) := rfl
 have hk : (w.alloc (.map #[] 0)).heap[w.heap.size]? = some (.map #[] 0) := by rw [hpush]; simp
 have hkeep : ∀ j, j < w.heap.size → (w.alloc (.map #[] 0)).heap[j]? = w.heap[j]? := by
  intro j hj
  rw [hpush, Array.getElem?_push]
  simp [Nat.ne_of_lt hj]
 have hsz : w.heap.size ≤ (w.alloc (.map #[] 0)).heap.size := by rw [hpush]; simp
 have hnok : ¬ E.ok w.heap.size := fun hok => by have := hr.okl _ hok; omega
 let E' : Env := ⟨H.nx + 1, fun z => if z = H.nx then some (some w.heap.size, 0) else E.φ z, E.ok⟩
 have hφ : ∀ z q, E'.φ z = some q → (z = H.nx ∧ q = (some w.heap.size, 0)) ∨ (z ≠ H.nx ∧ E.φ z = some q) := by
  intro z q h
  simp only [E'] at h
  split at h
  ·exact .inl ⟨by assumption, (Option.some.inj h).symm⟩
  ·exact .inr ⟨by assumption, h⟩
 have hφo : ∀ z, z ≠ H.nx → E'.φ z = E.φ z := fun z h1 => by simp only [E']; rw [if_neg h1]
 have hext : Ext E w E' (w.alloc (.map #[] 0)) := by
  refine ⟨by rw [hr.nx]; exact Nat.le_succ _, hsz, fun j hj _ => hkeep j hj, ?_, ?_, fun b hb => hb, fun b hb => .inl hb, ?_, rfl, rfl, rfl⟩
  ·intro j a t fr hj
   have hlt : j < w.heap.size := (Array.getElem?_eq_some_iff.1 hj).1
   exact ⟨a, fr, (hkeep j hlt).trans hj, rfl⟩
  ·intro z hz
   rw [hr.nx] at hz
   exact .inr (hφo z (by omega))
  ·intro z j s hz hzs
   rcases hφ z _ hzs with ⟨_, h⟩ | ⟨_, h⟩
   ·cases h; exact .inl (Nat.le_refl _)
   ·exact .inr ⟨z, s, h⟩
 refine ⟨E', ?_, hext, by simp [E']⟩
 have hlk : ∀ z b, look ((H.nx, Blk.mp []) :: H.live) z = some b → (z = H.nx ∧ b = .mp []) ∨ (z ≠ H.nx ∧ look H.live z = some b) := by
  intro z b h
  simp only [look] at h
  cases hz : Nat.beq z H.nx with
  | true => rw [hz] at h; cases h; exact .inl ⟨Nat.eq_of_beq_eq_true hz, rfl⟩
  | false =>
   rw [hz] at h
   exact .inr ⟨fun e => by subst e; simp at hz, h⟩
 have gm : ∀ {l v}, G E w l v → G E' (w.alloc (.map #[] 0)) l v := fun h => h.ext hr hext
 refine ⟨rfl, ?_, ?_, ?_, ?_, ?_, ?_, fun b hb => Nat.lt_of_lt_of_le (hr.okl b hb) hsz⟩
 ·intro z e' sz' es' hl
  rcases hlk z _ hl with ⟨rfl, hb⟩ | ⟨hne, hl⟩
  ·cases hb
  ·rw [hφo z hne]
   rcases hr.row z e' sz' es' hl with h | ⟨k', arr', h2, h3, h4, h5, h6⟩
   ·exact .inl h
   ·have hlt := (hr.nok z k' sz' h2).2
    exact .inr ⟨k', arr', h2, (hkeep k' hlt).trans h3, h4, h5, fun i cs hi => ⟨(h6 i cs hi).1, fun j y hj => gm ((h6 i cs hi).2 j y hj)⟩⟩
 ·intro z es' hl
  rcases hlk z _ hl with ⟨rfl, hb⟩ | ⟨hne, hl⟩
  ·cases hb
   exact ⟨w.heap.size, #[], 0, by simp [E'], hk, rfl, fun i e h => by simp at h, rfl, fun i p h => by simp at h⟩
  ·rw [hφo z hne]
   obtain ⟨k', en, cl, h2, h3, h4, h5, h6, h7⟩ := hr.mp z es' hl
   have hlt := (hr.nok z k' 0 h2).2
   refine ⟨k', en, cl, h2, (hkeep k' hlt).trans h3, h4, h5, h6, fun i p hp => ?_⟩
   obtain ⟨en', h8, h9, h10⟩ := h7 i p hp
   exact ⟨en', h8, gm h9, gm h10⟩
 ·intro z hl
  simp only [look] at hl
  cases hz : Nat.beq z H.nx with
  | true => rw [hz] at hl; cases hl
  | false =>
   rw [hz] at hl
   have hne : z ≠ H.nx := fun e => by subst e; simp at hz
   rw [hφo z hne]
   exact hr.none z hl
 ·intro z b hl
  rcases hlk z _ hl with ⟨rfl, _⟩ | ⟨_, hl⟩
  ·exact Nat.lt_succ_self _
  ·exact Nat.lt_succ_of_lt (hr.lt z b hl)
 ·intro x y j s s' hx' hy'
  rcases hφ x _ hx' with ⟨rfl, h1⟩ | ⟨hxx, h1⟩ <;> rcases hφ y _ hy' with ⟨rfl, h2⟩ | ⟨hyx, h2⟩
  ·rfl
  ·cases h1; have := (hr.nok y _ s' h2).2; omega
  ·cases h2; have := (hr.nok x _ s h1).2; omega
  ·exact hr.inj x y j s s' h1 h2
 ·intro z j s hz
  rcases hφ z _ hz with ⟨_, h⟩ | ⟨_, h⟩
  ·cases h
   exact ⟨hnok, (Array.getElem?_eq_some_iff.1 hk).1⟩
  ·exact ⟨(hr.nok z j s h).1, Nat.lt_of_lt_of_le (hr.nok z j s h).2 hsz⟩

section
variable {P : Program} {T : List (Nat × TE)}

def makeMK (H : Heap) (K : LV → Heap → Prop) : Prop := K (.map H.nx) ⟨H.nx + 1, (H.nx, .mp []) :: H.live⟩

theorem makeMK_spec {H : Heap} {K : LV → Heap → Prop} (t : Nat) (h : makeMK H K) :
  ∃ lv H', K lv H' ∧ ∀ (E : Env) (w : World), RelH E H w → ∃ x w' E', (Instr.makeMap t none).run P w = .ok x w' ∧ RelH E' H' w' ∧ G E' w' lv x ∧ Ext E w E' w' := by
 refine ⟨_, _, h, fun E w hr => ?_⟩
 obtain ⟨E', hr', hx', hφ⟩ := relH_mnew hr
 exact ⟨_, _, E', rfl, hr', .map H.nx w.heap.size 0 hφ, hx'⟩

def putE (es : List (LV × LV)) (x v : LV) : Option (Nat × LV) → List (LV × LV)
 | none => es ++ [(x, v)]
 | some (i, _) => setN es i (x, v)

def mapK (T : List (Nat × TE)) (H : Heap) (t : Nat) (m x : LV) (C : Prop → Prop) (K : Nat → List (LV × LV) → Nat → Option (Nat × LV) → Prop) : Prop :=
 match tyq T t with
 | some e => match e.u with
  | .map kt et => match keyS T 8 kt x, pur x 8 with
   | true, true => match m with
    | .map y => match look H.live y with
     | some (.mp es) => ∃ r, C (Finds T kt es x r) ∧ K y es et r
     | _ => False
    | _ => False
   | _, _ => False
  | _ => False
 | none => False

structure MapAt (P : Program) (T : List (Nat × TE)) (E : Env) (w : World) (H : Heap) (t kt et y : Nat) (es : List (LV × LV)) (k : Nat) (en : Array MapEntry) : Prop where
 und : P.underlying t = some (.map kt et)
 lk : look H.live y = some (.mp es)
 φ : E.φ y = some (some k, 0)
 at_ : w.heap[k]? = some (.map en en.size)
 len : en.size = es.length
 born : ∀ (i : Nat) (e : MapEntry), en[i]? = some e → e.born = i
 ent : ∀ (i : Nat) (p : LV × LV), es[i]? = some p → ∃ e : MapEntry, en[i]? = some e ∧ G E w p.1 e.key ∧ G E w p.2 e.val

theorem mapAt (hT : TOk P T) {E : Env} {w : World} {H : Heap} (hr : RelH E H w) {t kt et y : Nat} {es : List (LV × LV)} {e : TE} (he : tyq T t = some e) (hu : e.u = .map kt et) (hl : look H.live y = some (.mp es)) :
  ∃ k en, MapAt P T E w H t kt et y es k en := by
 obtain ⟨ds, hd, hof⟩ := (hT t e he).desc
 rw [hu] at hof
 have := TI.of_map hof; subst this
 obtain ⟨k, en, cl, h1, h2, h3, h4, h5, h6⟩ := hr.mp y es hl
 subst h5
 exact ⟨k, en, hd, hl, h1, h2, h3, h4, h6⟩

theorem setObj_map {w : World} {r : Nat} {es : Array MapEntry} {clock : Nat} (o : Obj) (hb : w.heap[r]? = some (.map es clock)) : (setObj r o).run P w = .ok () { w with heap := w.heap.setIfInBounds r o } := by
 simp [setObj, Sem.run, hb]

theorem MapAt.put {E : Env} {w : World} {H : Heap} {t kt et y k : Nat} {es : List (LV × LV)} {en : Array MapEntry} (h : MapAt P T E w H t kt et y es k en) (hr : RelH E H w) {es' : List (LV × LV)} {en' : Array MapEntry}
  (hs : en'.size = es'.length) (hb : ∀ (i : Nat) (e : MapEntry), en'[i]? = some e → e.born = i)
  (hg : ∀ (i : Nat) (p : LV × LV), es'[i]? = some p → ∃ e, en'[i]? = some e ∧ G E w p.1 e.key ∧ G E w p.2 e.val) :
  RelH E ⟨H.nx, upd y (.mp es') H.live⟩ { w with heap := w.heap.setIfInBounds k (.map en' en'.size) } ∧ Ext E w E { w with heap := w.heap.setIfInBounds k (.map en' en'.size) } := by
 have hlt : k < w.heap.size := (Array.getElem?_eq_some_iff.1 h.at_).1
 exact relH_mstore hr h.lk h.φ h.at_ (by simp [hlt]) hs (by simp) (fun j hj => by simp [Ne.symm hj]) rfl rfl rfl hb hg

theorem put_some {E : Env} {w : World} {es : List (LV × LV)} {en : Array MapEntry} (hlen : en.size = es.length) (hb : ∀ (i : Nat) (e : MapEntry), en[i]? = some e → e.born = i)
  (he : ∀ (i : Nat) (p : LV × LV), es[i]? = some p → ∃ e : MapEntry, en[i]? = some e ∧ G E w p.1 e.key ∧ G E w p.2 e.val) {x v lv : LV} {u a : Value} {i : Nat} (hi : es[i]? = some (x, lv)) (hu : G E w x u) (ha : G E w v a) :
  (en.modify i fun e => { e with key := u, val := a }).size = (setN es i (x, v)).length ∧ (∀ (j : Nat) (e : MapEntry), (en.modify i fun e => { e with key := u, val := a })[j]? = some e → e.born = j) ∧
  ∀ (j : Nat) (p : LV × LV), (setN es i (x, v))[j]? = some p → ∃ e : MapEntry, (en.modify i fun e => { e with key := u, val := a })[j]? = some e ∧ G E w p.1 e.key ∧ G E w p.2 e.val := by
 rw [setN_eq]
 refine ⟨by simp [hlen], fun j e hj => ?_, fun j p hp => ?_⟩
 ·rw [Array.getElem?_modify] at hj
  split at hj
  ·rename_i hij
   subst hij
   simp only [Option.map_eq_some_iff] at hj
   obtain ⟨e0, h1, rfl⟩ := hj
   exact hb i e0 h1
  ·exact hb j e hj
 ·rw [List.getElem?_set] at hp
  rw [Array.getElem?_modify]
  split at hp
  ·rename_i hij
   subst hij
   split at hp
   ·cases hp
    obtain ⟨e0, h1, h2, h3⟩ := he i _ hi
    exact ⟨{ e0 with key := u, val := a }, by simp [h1], hu, ha⟩
   ·cases hp
  ·rename_i hij
   obtain ⟨e0, h1, h2, h3⟩ := he j p hp
   exact ⟨e0, by simp [hij, h1], h2, h3⟩

theorem put_none {E : Env} {w : World} {es : List (LV × LV)} {en : Array MapEntry} (hlen : en.size = es.length) (hb : ∀ (i : Nat) (e : MapEntry), en[i]? = some e → e.born = i)
  (he : ∀ (i : Nat) (p : LV × LV), es[i]? = some p → ∃ e : MapEntry, en[i]? = some e ∧ G E w p.1 e.key ∧ G E w p.2 e.val) {x v : LV} {u a : Value} (hu : G E w x u) (ha : G E w v a) :
  (en.push { key := u, val := a, born := en.size }).size = (es ++ [(x, v)]).length ∧ (∀ (j : Nat) (e : MapEntry), (en.push { key := u, val := a, born := en.size })[j]? = some e → e.born = j) ∧
  ∀ (j : Nat) (p : LV × LV), (es ++ [(x, v)])[j]? = some p → ∃ e : MapEntry, (en.push { key := u, val := a, born := en.size })[j]? = some e ∧ G E w p.1 e.key ∧ G E w p.2 e.val := by
 refine ⟨by simp [hlen], fun j e hj => ?_, fun j p hp => ?_⟩
 ·rw [Array.getElem?_push] at hj
  split at hj
  ·rename_i h; cases hj; exact h.symm
  ·exact hb j e hj
 ·rw [Array.getElem?_push]
  by_cases hj : j = en.size
  ·rw [if_pos hj]
   rw [hj, hlen, List.getElem?_append_right (Nat.le_refl _), Nat.sub_self] at hp
   simp at hp
   subst hp
   exact ⟨_, rfl, hu, ha⟩
  ·rw [if_neg hj]
   have hlt : j < es.length := by
    have := (List.getElem?_eq_some_iff.1 hp).1
    simp at this; omega
   rw [List.getElem?_append_left hlt] at hp
   exact he j p hp

theorem stays {E : Env} {w : World} {x : LV} {u v : Value} (hp : pur x 8 = true) (hu : G E w x u) (hv : G E w x v) (w' : World) : (Instr.keyThatStays u v).run P w' = .ok v w' := by
 have := pur_det 8 hp hu hv
 subst this
 simp [Instr.keyThatStays, same_refl 8 hp hu (show 8 ≤ 10000 by decide)]

def mapUpdK (T : List (Nat × TE)) (H : Heap) (t : Nat) (m x v : LV) (C : Prop → Prop) (K : LV → Heap → Prop) : Prop :=
 mapK T H t m x C fun y es et r => K .und ⟨H.nx, upd y (.mp (putE es x v r)) H.live⟩

theorem mapUpdK_spec (hT : TOk P T) {H : Heap} {K : LV → Heap → Prop} {t : Nat} {m x v : LV} (h : mapUpdK T H t m x v id K) :
  ∃ lv H', K lv H' ∧ ∀ (E : Env) (w : World) (um ux uv : Value), RelH E H w → G E w m um → G E w x ux → G E w v uv → ∃ w' E', (Instr.mapUpdate t um ux uv).run P w = .ok () w' ∧ RelH E' H' w' ∧ G E' w' lv undef ∧ Ext E w E' w' := by
 unfold mapUpdK mapK at h
 split at h
 ·rename_i e he
  split at h
  ·rename_i kt et heu
   split at h
   ·rename_i hk hp
    split at h
    ·rename_i y
     split at h
     ·rename_i es hl
      obtain ⟨r, hF, hK⟩ := h
      have hF : Finds T kt es x r := hF
      refine ⟨_, _, hK, fun E w um ux uv hr hm hx hv => ?_⟩
      obtain ⟨k, en, M⟩ := mapAt (P := P) hT hr he heu hl
      have hu : um = .map (some k) := by
       have h1 := M.φ
       cases hm with
       | mapDead _ _ hφ _ => rw [h1] at hφ; cases hφ
       | map _ k' sz hφ => rw [h1] at hφ; cases hφ; rfl
      subst hu
      have hc := checkKey_run hT 8 kt x ux false 10000 hk hx (by decide)
      have hf := findKey_run (es := en.toList) hT hk hx (by simp [M.len]) (fun i p e hp hep => by
       obtain ⟨e2, h7, h8, h9⟩ := M.ent i p hp
       have : en[i]? = some e := by simpa using hep
       rw [h7] at this; cases this
       exact ⟨h8, h9⟩) hF
      cases r with
      | none =>
       obtain ⟨h1, h2, h3⟩ := put_none M.len M.born M.ent hx hv
       obtain ⟨h4, h5⟩ := M.put hr h1 h2 h3
       refine ⟨_, E, ?_, h4, .und, h5⟩
       simp [Instr.mapUpdate, run_underlying M.und, getObj_map M.at_, hc, hf, foundV, setObj_map _ M.at_]
      | some q =>
       obtain ⟨i, lv⟩ := q
       obtain ⟨e2, h7, h8, h9⟩ := M.ent i _ hF.1
       have h7' : en.toList[i]? = some e2 := by simpa using h7
       have hfv : foundV en.toList (some (i, lv)) = some (i, e2.val) := by simp only [foundV, h7', Option.map_some]
       rw [hfv] at hf
       obtain ⟨h1, h2, h3⟩ := put_some M.len M.born M.ent hF.1 hx hv
       obtain ⟨h4, h5⟩ := M.put hr h1 h2 h3
       refine ⟨_, E, ?_, h4, .und, h5⟩
       have hst := stays (P := P) hp h8 hx w
       simp [Instr.mapUpdate, run_underlying M.und, getObj_map M.at_, hc, hf, h7, hst, setObj_map _ M.at_]
     ·exact h.elim
    ·exact h.elim
   ·exact h.elim
  ·exact h.elim
 ·exact h.elim

def mapEntK (T : List (Nat × TE)) (H : Heap) (t : Nat) (m x : LV) (C : Prop → Prop) (K : LV → Heap → Prop) : Prop :=
 mapK T H t m x C fun y es et r => match tyq T et with
  | some e' => match r with
   | none => K (.tup [lvOf e'.zero, .int .i64 (es.length : Int)]) ⟨H.nx, upd y (.mp (es ++ [(x, lvOf e'.zero)])) H.live⟩
   | some (i, v) => K (.tup [v, .int .i64 (i : Int)]) ⟨H.nx, upd y (.mp es) H.live⟩
  | none => False

theorem setN_same {es : List (LV × LV)} {i : Nat} {p : LV × LV} (h : es[i]? = some p) : setN es i p = es := by
 rw [setN_eq]
 refine List.ext_getElem? fun j => ?_
 rw [List.getElem?_set]
 split
 ·rename_i hij
  subst hij
  have := (List.getElem?_eq_some_iff.1 h).1
  rw [if_pos this, h]
 ·rfl

theorem mapEntK_spec (hT : TOk P T) {H : Heap} {K : LV → Heap → Prop} {t : Nat} {m x : LV} (h : mapEntK T H t m x id K) :
  ∃ lv H', K lv H' ∧ ∀ (E : Env) (w : World) (um ux : Value), RelH E H w → G E w m um → G E w x ux → ∃ z w' E', (Instr.mapEntry t um ux).run P w = .ok z w' ∧ RelH E' H' w' ∧ G E' w' lv z ∧ Ext E w E' w' := by
 unfold mapEntK mapK at h
 split at h
 ·rename_i e he
  split at h
  ·rename_i kt et heu
   split at h
   ·rename_i hk hp
    split at h
    ·rename_i y
     split at h
     ·rename_i es hl
      obtain ⟨r, hF, hK⟩ := h
      have hF : Finds T kt es x r := hF
      split at hK
      ·rename_i e' het
       have hte := hT _ _ het
       have hz : ∀ (E : Env) (w : World), G E w (lvOf e'.zero) e'.zero := fun E w => G.lvOf E w _
       cases r with
       | none =>
        refine ⟨_, _, hK, fun E w um ux hr hm hx => ?_⟩
        obtain ⟨k, en, M⟩ := mapAt (P := P) hT hr he heu hl
        have hu : um = .map (some k) := by
         have h1 := M.φ
         cases hm with
         | mapDead _ _ hφ _ => rw [h1] at hφ; cases hφ
         | map _ k' sz hφ => rw [h1] at hφ; cases hφ; rfl
        subst hu
        have hc := checkKey_run hT 8 kt x ux false 10000 hk hx (by decide)
        have hf := findKey_run (es := en.toList) hT hk hx (by simp [M.len]) (fun i p e hp hep => by
         obtain ⟨e2, h7, h8, h9⟩ := M.ent i p hp
         have : en[i]? = some e := by simpa using hep
         rw [h7] at this; cases this
         exact ⟨h8, h9⟩) hF
        obtain ⟨h1, h2, h3⟩ := put_none M.len M.born M.ent hx (hz E w)
        obtain ⟨h4, h5⟩ := M.put hr h1 h2 h3
        refine ⟨.tuple #[e'.zero, .int .i64 (en.size : Int)], _, E, ?_, h4, ?_, h5⟩
        ·simp [Instr.mapEntry, run_underlying M.und, getObj_map M.at_, hc, hf, foundV, setObj_map _ M.at_, run_zero hte, goInt]
        ·refine G.pair' (hz _ _) ?_
         rw [← M.len]
         exact .int _ _
       | some q =>
        obtain ⟨i, lv⟩ := q
        refine ⟨_, _, hK, fun E w um ux hr hm hx => ?_⟩
        obtain ⟨k, en, M⟩ := mapAt (P := P) hT hr he heu hl
        have hu : um = .map (some k) := by
         have h1 := M.φ
         cases hm with
         | mapDead _ _ hφ _ => rw [h1] at hφ; cases hφ
         | map _ k' sz hφ => rw [h1] at hφ; cases hφ; rfl
        subst hu
        have hc := checkKey_run hT 8 kt x ux false 10000 hk hx (by decide)
        have hf := findKey_run (es := en.toList) hT hk hx (by simp [M.len]) (fun i p e hp hep => by
         obtain ⟨e2, h7, h8, h9⟩ := M.ent i p hp
         have : en[i]? = some e := by simpa using hep
         rw [h7] at this; cases this
         exact ⟨h8, h9⟩) hF
        obtain ⟨e2, h7, h8, h9⟩ := M.ent i _ hF.1
        have h7' : en.toList[i]? = some e2 := by simpa using h7
        have hfv : foundV en.toList (some (i, lv)) = some (i, e2.val) := by simp only [foundV, h7', Option.map_some]
        rw [hfv] at hf
        have hst := stays (P := P) hp h8 hx w
        have hbo := M.born i e2 h7
        have same : (en.modify i fun e => { e with key := ux }) = (en.modify i fun e => { e with key := ux, val := e2.val }) := by
         refine Array.ext_getElem? fun j => ?_
         rw [Array.getElem?_modify, Array.getElem?_modify]
         split
         ·rename_i hij
          subst hij
          rw [h7]; rfl
         ·rfl
        obtain ⟨h1, h2, h3⟩ := put_some M.len M.born M.ent hF.1 hx h9
        rw [setN_same hF.1] at h1 h3
        rw [← same] at h1 h2 h3
        obtain ⟨h4, h5⟩ := M.put hr h1 h2 h3
        refine ⟨.tuple #[e2.val, .int .i64 (i : Int)], _, E, ?_, h4, ?_, h5⟩
        ·simp [Instr.mapEntry, run_underlying M.und, getObj_map M.at_, hc, hf, h7, hst, setObj_map _ M.at_, hbo, goInt]
        ·exact G.pair' (h9.ext hr h5) (.int _ _)
      ·exact hK.elim
     ·exact h.elim
    ·exact h.elim
   ·exact h.elim
  ·exact h.elim
 ·exact h.elim

def entStoK (H : Heap) (m s v : LV) (C : Prop → Prop) (K : LV → Heap → Prop) : Prop :=
 match m with
 | .map y => match look H.live y with
  | some (.mp es) => match s with
   | .int .i64 n => ∃ x lv, C (0 ≤ n ∧ es[n.toNat]? = some (x, lv)) ∧ K .und ⟨H.nx, upd y (.mp (setN es n.toNat (x, v))) H.live⟩
   | _ => False
  | _ => False
 | _ => False

theorem entStoK_spec {H : Heap} {K : LV → Heap → Prop} {t : Nat} {m s v : LV} (h : entStoK H m s v id K) :
  ∃ lv H', K lv H' ∧ ∀ (E : Env) (w : World) (um us uv : Value), RelH E H w → G E w m um → G E w s us → G E w v uv → ∃ w' E', (Instr.entryStore t um us uv).run P w = .ok () w' ∧ RelH E' H' w' ∧ G E' w' lv undef ∧ Ext E w E' w' := by
 unfold entStoK at h
 split at h
 ·rename_i y
  split at h
  ·rename_i es hl
   split at h
   ·rename_i n
    obtain ⟨x, lv, hC, hK⟩ := h
    obtain ⟨h0, hi⟩ : 0 ≤ n ∧ es[n.toNat]? = some (x, lv) := hC
    refine ⟨_, _, hK, fun E w um us uv hr hm hs hv => ?_⟩
    obtain ⟨k, en, cl, h1, h2, h3, h4, h5, h6⟩ := hr.mp y es hl
    subst h5
    have hu : um = .map (some k) := by
     cases hm with
     | mapDead _ _ hφ _ => rw [h1] at hφ; cases hφ
     | map _ k' sz hφ => rw [h1] at hφ; cases hφ; rfl
    subst hu
    cases hs
    obtain ⟨e2, h7, h8, h9⟩ := h6 n.toNat _ hi
    have hidx : en.findIdx? (fun e => (e.born : Int) == n) = some n.toNat := by
     rw [Array.findIdx?_eq_some_iff_getElem]
     obtain ⟨hlt, hget⟩ := Array.getElem?_eq_some_iff.1 h7
     refine ⟨hlt, ?_, fun j hj => ?_⟩
     ·have := h4 n.toNat e2 h7
      rw [hget, this]
      simp; omega
     ·have hjl : j < en.size := by omega
      have := h4 j en[j] (Array.getElem?_eq_getElem hjl)
      rw [this]
      simp; omega
    obtain ⟨i1, i2, i3⟩ := put_some h3 h4 h6 hi h8 hv
    have same : (en.modify n.toNat fun e => { e with val := uv }) = (en.modify n.toNat fun e => { e with key := e2.key, val := uv }) := by
     refine Array.ext_getElem? fun j => ?_
     rw [Array.getElem?_modify, Array.getElem?_modify]
     split
     ·rename_i hij
      subst hij
      rw [h7]; rfl
     ·rfl
    rw [← same] at i1 i2 i3
    have hlt : k < w.heap.size := (Array.getElem?_eq_some_iff.1 h2).1
    obtain ⟨h10, h11⟩ := relH_mstore (w' := { w with heap := w.heap.setIfInBounds k (.map (en.modify n.toNat fun e => { e with val := uv }) (en.modify n.toNat fun e => { e with val := uv }).size) }) hr hl h1 h2 (by simp [hlt]) i1 (by simp) (fun j hj => by simp [Ne.symm hj]) rfl rfl rfl i2 i3
    refine ⟨_, E, ?_, h10, .und, h11⟩
    simp [Instr.entryStore, getObj_map h2, asInt, asIntOf, hidx, setObj_map _ h2]
   ·exact h.elim
  ·exact h.elim
 ·exact h.elim
end
end Go.RX
