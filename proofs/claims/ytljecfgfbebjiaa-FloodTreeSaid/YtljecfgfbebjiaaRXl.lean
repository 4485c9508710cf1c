/- RX, part l: all operations as one; regions in the text's order; calls. -/
import Derived.Test.YtljecfgfbebjiaaRXkb
set_option linter.unusedVariables false
namespace Go.RX

abbrev Slots := List (Nat × LV)

section
variable {P : Program} {T : List (Nat × TE)}

def makeK (T : List (Nat × TE)) (H : Heap) (t : Nat) (l c : LV) (K : LV → Heap → Prop) : Prop :=
 match tyq T t with
 | some e => match e.u with
  | .slice el => match tyq T el with
   | some e' => match l, c with
    | .int _ n, .int _ m => (0 ≤ n ∧ n ≤ m ∧ fits m.toNat e'.bytes) ∧ K (.sl H.nx 0 n.toNat) ⟨H.nx + 1, (H.nx, .row el e'.size (List.replicate n.toNat (zeroL e'.zero))) :: H.live⟩
    | _, _ => False
   | none => False
  | _ => False
 | none => False

theorem makeK_spec {H : Heap} {K : LV → Heap → Prop} (hT : TOk P T) {t : Nat} {l c : LV} (h : makeK T H t l c K) :
  ∃ lv H', K lv H' ∧ ∀ (E : Env) (w : World) (u v : Value), RelH E H w → G E w l u → G E w c v → ∃ r w' E', (Instr.makeSlice t u v).run P w = .ok r w' ∧ RelH E' H' w' ∧ G E' w' lv r ∧ Ext E w E' w' := by
 unfold makeK at h
 split at h
 ·rename_i e he
  obtain ⟨d, hd, hof⟩ := (hT _ _ he).desc
  split at h
  ·rename_i el hel
   rw [hel] at hof
   have := TI.of_slice hof; subst this
   split at h
   ·rename_i e' he'
    have hte := hT _ _ he'
    obtain ⟨info, hi, hiz, his, hib⟩ := hte.inf
    split at h
    ·rename_i k n k' m
     obtain ⟨⟨h0, h1, hf⟩, h⟩ := h
     refine ⟨_, _, h, fun E w u v hr hu hv => ?_⟩
     cases hu; cases hv
     have hb : (info.bytes : Int) * m ≤ 281474976710656 := by
      have := hf.2
      rw [hib]
      have hm : m = (m.toNat : Int) := by omega
      rw [hm, ← Int.natCast_mul, Nat.mul_comm]
      omega
     have hrun := run_make (P := P) w t el info e'.zero hd hi hiz k k' n m h0 h1 hb (by have := hf.1; omega)
     rw [his] at hrun
     have hz := zeroL_ok hte E w
     have hzl : (zeroL e'.zero).length = e'.size := by rw [← hz.1, hte.zsize]
     have hget : ∀ i, i < m.toNat * e'.size → (madeCells e'.zero.cells (m.toNat * e'.size)).getD i undef = e'.zero.cells.getD (i % e'.size) undef := by
      intro i hi
      have hpos : 0 < e'.size := by
       rcases Nat.eq_zero_or_pos e'.size with h | h
       ·rw [h] at hi; simp at hi
       ·exact h
      have hm' : i % e'.size < e'.size := Nat.mod_lt _ hpos
      simp [madeCells, Array.getD, hi, hte.zsize, hm']
     have hnm : n.toNat * e'.size ≤ m.toNat * e'.size := Nat.mul_le_mul_right _ (by omega)
     obtain ⟨E', hr', hx', hφ⟩ := relH_new (w0 := w) hr el e'.size (List.replicate n.toNat (zeroL e'.zero)) (madeCells e'.zero.cells (m.toNat * e'.size)) rfl rfl rfl rfl (by rw [size_madeCells, List.length_replicate]; exact hnm)
      (fun i hi => by
       rw [List.length_replicate] at hi
       rw [hget i (by omega)]
       have hpos : 0 < e'.size := by
        rcases Nat.eq_zero_or_pos e'.size with h | h
        ·rw [h] at hi; simp at hi
        ·exact h
       exact hz.2.1 _ (by rw [hte.zsize]; exact Nat.mod_lt _ hpos))
      (fun i cs hi => by
       have hil : i < n.toNat := by
        have := (List.getElem?_eq_some_iff.1 hi).1
        simpa using this
       have hcs : cs = zeroL e'.zero := by
        rw [List.getElem?_replicate, if_pos hil] at hi
        exact (Option.some.inj hi).symm
       subst hcs
       refine ⟨hzl, fun j y hj => ?_⟩
       have hjl : j < e'.size := by rw [← hzl]; exact (List.getElem?_eq_some_iff.1 hj).1
       have hlt : i * e'.size + j < m.toNat * e'.size := by
        have : (i + 1) * e'.size ≤ n.toNat * e'.size := Nat.mul_le_mul_right _ hil
        rw [Nat.succ_mul] at this; omega
       rw [hget _ hlt]
       have e2 : (i * e'.size + j) % e'.size = j := by rw [Nat.mul_comm, Nat.mul_add_mod, Nat.mod_eq_of_lt hjl]
       rw [e2]
       exact hz.2.2 j y hj)
     refine ⟨_, _, E', hrun, hr', ?_, hx'⟩
     have := G.sl (E := E') (w := w.alloc (.cells (madeCells e'.zero.cells (m.toNat * e'.size)) el)) H.nx 0 n.toNat m.toNat w.heap.size e'.size _ el (0, 0) hφ (by omega) (by have := hf.1; simp only [maxLen]; omega) (heap_alloc_new w _) (by rw [size_madeCells]; simp)
     simpa using this
    ·exact h.elim
   ·exact h.elim
  ·exact h.elim
 ·exact h.elim

theorem relH_grow {E : Env} {H : Heap} {w w' : World} (hr : RelH E H w) (hsz : w'.heap.size = w.heap.size + 1) (hold : ∀ k, k < w.heap.size → w'.heap[k]? = w.heap[k]?)
  (hos : w'.os = w.os) (hout : w'.output = w.output) (htape : w'.tape = w.tape) : ∃ E', RelH E' H w' ∧ Ext E w E' w' ∧ E'.ok w.heap.size := by
 let E' : Env := ⟨E.nx, E.φ, fun b => E.ok b ∨ b = w.heap.size⟩
 have hext : Ext E w E' w' := by
  refine ⟨Nat.le_refl _, by omega, fun k hk _ => hold k hk, fun k arr t fr h => ⟨arr, fr, ?_, rfl⟩, fun _ _ => .inr rfl, fun b hb => .inl hb, fun b hb => ?_, fun x k s _ h => .inr ⟨x, s, h⟩, hos, hout, htape⟩
  ·have hk : k < w.heap.size := (Array.getElem?_eq_some_iff.1 h).1
   rw [hold k hk]; exact h
  ·rcases hb with hb | hb
   ·exact .inl hb
   ·exact .inr (.inl (by omega))
 have keep : ∀ x k s, E.φ x = some (some k, s) → w'.heap[k]? = w.heap[k]? := fun x k s h => hold k (hr.nok x k s h).2
 have gm : ∀ {l v}, G E w l v → G E' w' l v := fun h => h.ext hr hext
 refine ⟨E', ⟨hr.nx, ?_, ?_, hr.none, hr.lt, hr.inj, ?_, ?_⟩, hext, .inr rfl⟩
 ·intro x e sz es hl
  rcases hr.row x e sz es hl with h1 | ⟨k, arr, h1, h2, h3, h4, h5⟩
  ·exact .inl h1
  ·exact .inr ⟨k, arr, h1, (keep x k sz h1).trans h2, h3, h4, fun i cs hi => ⟨(h5 i cs hi).1, fun j y hj => gm ((h5 i cs hi).2 j y hj)⟩⟩
 ·intro x es hl
  obtain ⟨k, en, cl, h1, h2, h3, h4, h5, h6⟩ := hr.mp x es hl
  refine ⟨k, en, cl, h1, (keep x k 0 h1).trans h2, h3, h4, h5, fun i p hp => ?_⟩
  obtain ⟨en', h7, h8, h9⟩ := h6 i p hp
  exact ⟨en', h7, gm h8, gm h9⟩
 ·intro x k s h1
  refine ⟨?_, by have := (hr.nok x k s h1).2; omega⟩
  rintro (h2 | h2)
  ·exact (hr.nok x k s h1).1 h2
  ·have := (hr.nok x k s h1).2; omega
 ·rintro b (h1 | h1)
  ·have := hr.okl b h1; omega
  ·omega

def bytesK (T : List (Nat × TE)) (s d : Nat) (x : LV) (K : LV → Prop) : Prop :=
 match tyq T s, tyq T d with
 | some es, some ed => match ed.u with
  | .slice el => match es.u, tyq T el with
   | .str, some e' => match e'.u with
    | .int k => match sameK k .u8 with
     | true => match x with
      | .str r => K (.ro 1 (byL r))
      | _ => False
     | false => False
    | _ => False
   | _, _ => False
  | _ => False
 | _, _ => False

theorem bytesK_spec (hT : TOk P T) {s d : Nat} {x : LV} {K : LV → Prop} (h : bytesK T s d x K) : ∃ lv, K lv ∧ ∀ (E : Env) (w : World) (H : Heap) (u : Value), RelH E H w → G E w x u →
  ∃ v w' E', (convert s d u).run P w = .ok v w' ∧ RelH E' H w' ∧ G E' w' lv v ∧ Ext E w E' w' := by
 unfold bytesK at h
 split at h
 ·rename_i es ed hs hd
  obtain ⟨ds, h1, h2⟩ := (hT _ _ hs).desc
  obtain ⟨dd, h3, h4⟩ := (hT _ _ hd).desc
  split at h
  ·rename_i el hel
   split at h
   ·rename_i e' hes he'
    obtain ⟨de, h5, h6⟩ := (hT _ _ he').desc
    split at h
    ·rename_i k hk
     split at h
     ·rename_i hku
      have := sameK_eq hku; subst this
      split at h
      ·rename_i r
       rw [hes] at h2
       rw [hel] at h4
       rw [hk] at h6
       have := TI.of_str h2; subst this
       have := TI.of_slice h4; subst this
       have := TI.of_int h6; subst this
       refine ⟨_, h, fun E w H u hr hu => ?_⟩
       cases hu
       have hrun := run_bytes_of_string (P := P) w s d el r h1 h3 h5
       have hge := grownCap_ge w r.size 0 el
       generalize grownCap w r.size 0 el = cap at hrun hge
       have hheap : ∀ (o : Obj), (w.drew.alloc o).heap = w.heap.push o := fun o => rfl
       obtain ⟨E', hr', hx', hok⟩ := relH_grow (w' := w.drew.alloc (.cells (bytesRow r cap) el ((bytesRow r cap).size, (bytesRow r cap).size + 1))) hr (by rw [hheap]; simp) (fun k hk => by rw [hheap, Array.getElem?_push, if_neg (by omega)]) rfl rfl rfl
       refine ⟨_, _, E', hrun, hr', ?_, hx'⟩
       have hl := byL_len r
       have hrow : ∀ (i : Nat) (b : UInt8), r.data[i]? = some b → (bytesRow r cap)[i]? = some (.int .u8 (b.toNat : Int)) := fun i b hb => by
        have hi := (Array.getElem?_eq_some_iff.1 hb).1
        unfold bytesRow
        rw [Array.getElem?_append_left (by simpa using hi), Array.getElem?_map, hb]
        rfl
       have hat : ∀ (i : Nat), i < r.size → ∃ b, r.data[i]? = some b := fun i hi => ⟨_, Array.getElem?_eq_getElem hi⟩
       have hby : ∀ (i : Nat) (cs : List LV), (byL r)[i]? = some cs → ∃ b, r.data[i]? = some b ∧ cs = [LV.int .u8 (b.toNat : Int)] := fun i cs hi => by
        simp only [byL, List.getElem?_map, Option.map_eq_some_iff, Array.getElem?_toList] at hi
        obtain ⟨b, h1, rfl⟩ := hi
        exact ⟨b, h1, rfl⟩
       have := G.ro (E := E') (w := w.drew.alloc (.cells (bytesRow r cap) el ((bytesRow r cap).size, (bytesRow r cap).size + 1))) 1 (byL r) w.heap.size 0 cap (fun i j => if i < r.size then (bytesRow r cap)[i]?.getD undef else .bool true) hok (by rw [hheap]; simp) (by omega)
        (fun i cs hi => by
         obtain ⟨b, _, rfl⟩ := hby i cs hi; rfl)
        (fun i cs j x hi hj => by
         obtain ⟨b, _, rfl⟩ := hby i cs hi
         have := List.mem_of_getElem? hj
         rw [List.mem_singleton] at this; subst this; simp [NL])
        (fun i j hi hj => by
         have hi' : i < r.size := by omega
         obtain ⟨b, hb⟩ := hat i hi'
         obtain rfl : j = 0 := by omega
         simp only [World.cell?, hheap]
         simp [hi', hrow i b hb])
        (fun i j => by
         split
         ·rename_i hi'
          obtain ⟨b, hb⟩ := hat i hi'
          rw [hrow i b hb]; rfl
         ·rfl)
        (fun i cs j x hi hj => by
         obtain ⟨b, hb, rfl⟩ := hby i cs hi
         have hi' : i < r.size := (Array.getElem?_eq_some_iff.1 hb).1
         have := List.mem_of_getElem? hj
         rw [List.mem_singleton] at this; subst this
         simp only [hi', if_true, hrow i b hb, Option.getD_some]
         exact .int _ _)
       rw [hl] at this
       exact this
      ·exact h.elim
     ·exact h.elim
    ·exact h.elim
   ·exact h.elim
  ·exact h.elim
 ·exact h.elim

def toRow (T : List (Nat × TE)) (d : Nat) : Bool := match tyq T d with
 | some ed => match ed.u with
  | .slice _ => true
  | _ => false
 | none => false

def opH (T : List (Nat × TE)) (op : Op) (ρ : Operand → LV) (H : Heap) (K : LV → Heap → Prop) : Prop :=
 match op with
 | .box t x => boxK T H t (ρ x) K
 | .alloc t => allocK T H t K
 | .buildSlice t n ps => buildSK T H t n (ps.toList.map fun p => (p.1, ρ p.2)) K
 | .store t a x => storeK T H t (ρ a) (ρ x) K
 | .makeSlice t l c => makeK T H t (ρ l) (ρ c) K
 | .makeMap _ r => match r with
  | none => makeMK H K
  | some _ => False
 | .mapUpdate t m x v => mapUpdK T H t (ρ m) (ρ x) (ρ v) id K
 | .mapEntry t m x => mapEntK T H t (ρ m) (ρ x) id K
 | .entryStore _ m s v => entStoK H (ρ m) (ρ s) (ρ v) id K
 | .convert s d x => match toRow T d with
  | true => bytesK T s d (ρ x) fun v => K v H
  | false => opP T op ρ H id fun v => K v H
 | .call c => match c.callee with
  | .builtin b => match b with
   | .append => match c.argTypes.toList, c.args.toList with
    | [t, t'], [s, x] => match Nat.beq t t' with
     | true => appK T H t (ρ s) (ρ x) K
     | false => False
    | _, _ => False
   | .copy => match c.argTypes.toList, c.args.toList with
    | [t, _], [s, x] => copyK T H t (ρ s) (ρ x) K
    | _, _ => False
   | .clear => match c.argTypes.toList, c.args.toList with
    | [t], [x] => clearK T H t (ρ x) K
    | _, _ => False
   | _ => opP T op ρ H id fun v => K v H
  | _ => False
 | op => opP T op ρ H id fun v => K v H

theorem reads_does {H : Heap} {ρ : Operand → LV} {o : Oper} {lv : LV} (h : Reads P H ρ o lv) : Does P H ρ o lv H := fun E w a hr hρ => by
 obtain ⟨v, h1, h2⟩ := h E w a hr hρ
 exact ⟨v, w, E, .inl h1, hr, h2, Ext.refl E w⟩

theorem opH_sound (hT : TOk P T) {ρ : Operand → LV} {H : Heap} {o : Oper} {K : LV → Heap → Prop} (h : opH T o.op ρ H K) : ∃ lv H', K lv H' ∧ Does P H ρ o lv H' := by
 have viaP : opP T o.op ρ H id (fun v => K v H) → ∃ lv H', K lv H' ∧ Does P H ρ o lv H' := fun h => by
  obtain ⟨lv, h1, h2⟩ := opP_sound (P := P) (gd := True) hT (fun p hp _ => hp) h
  exact ⟨lv, H, h1, reads_does (h2 trivial)⟩
 obtain ⟨dst, op, ty, pos, after, guard⟩ := o
 unfold opH at h
 simp only at h
 split at h
 ·rename_i t x
  obtain ⟨lv, H', h1, h2⟩ := boxK_spec hT h
  refine ⟨lv, H', h1, fun E w a hr hρ => ?_⟩
  obtain ⟨v, w', E', h3, h4, h5, h6⟩ := h2 E w _ hr (hρ x)
  exact ⟨v, w', E', .inl (by simp [execOp, h3]), h4, h5, h6⟩
 ·rename_i t
  obtain ⟨lv, H', h1, h2⟩ := allocK_spec hT h
  refine ⟨lv, H', h1, fun E w a hr hρ => ?_⟩
  obtain ⟨v, w', E', h3, h4, h5, h6⟩ := h2 E w hr
  exact ⟨v, w', E', .inl (by simp [execOp, h3]), h4, h5, h6⟩
 ·rename_i t n ps
  obtain ⟨lv, H', h1, h2⟩ := buildSK_spec hT h
  refine ⟨lv, H', h1, fun E w a hr hρ => ?_⟩
  obtain ⟨v, w', E', h3, h4, h5, h6⟩ := h2 E w (ps.toList.map fun p => (p.1, a.eval p.2)) hr (by simp) (fun i p v hp hv => by
   simp only [List.getElem?_map, Option.map_eq_some_iff] at hp hv
   obtain ⟨q, hq, rfl⟩ := hp
   obtain ⟨q', hq', rfl⟩ := hv
   rw [hq] at hq'; cases hq'
   exact hρ _)
  have e : (List.map (fun p : Nat × Operand => (p.1, a.eval p.2)) ps.toList).toArray = ps.map fun (x : Nat × Operand) => (x.1, a.eval x.2) := by rw [← List.map_toArray]
  rw [e] at h3
  refine ⟨v, w', E', .inl ?_, h4, h5, h6⟩
  have h3' : (Instr.buildSlice t n (ps.map fun (x : Nat × Operand) => match x with | (i, x) => (i, a.eval x))).run P w = .ok v w' := h3
  simp only [execOp, Sem.run_bind]
  rw [h3']
  rfl
 ·rename_i t x y
  obtain ⟨lv, H', h1, h2⟩ := storeK_spec hT h
  refine ⟨lv, H', h1, fun E w a hr hρ => ?_⟩
  obtain ⟨w', E', h3, h4, h5, h6⟩ := h2 E w _ _ hr (hρ x) (hρ y)
  exact ⟨undef, w', E', .inr ⟨by simp [execOp, h3], rfl⟩, h4, h5, h6⟩
 ·rename_i t l c
  obtain ⟨lv, H', h1, h2⟩ := makeK_spec hT h
  refine ⟨lv, H', h1, fun E w a hr hρ => ?_⟩
  obtain ⟨v, w', E', h3, h4, h5, h6⟩ := h2 E w _ _ hr (hρ l) (hρ c)
  exact ⟨v, w', E', .inl (by simp [execOp, h3]), h4, h5, h6⟩
 ·rename_i t r
  split at h
  ·obtain ⟨lv, H', h1, h2⟩ := makeMK_spec (P := P) t h
   refine ⟨lv, H', h1, fun E w a hr hρ => ?_⟩
   obtain ⟨v, w', E', h3, h4, h5, h6⟩ := h2 E w hr
   exact ⟨v, w', E', .inl (by simp [execOp, h3]), h4, h5, h6⟩
  ·exact h.elim
 ·rename_i t m x v
  obtain ⟨lv, H', h1, h2⟩ := mapUpdK_spec hT h
  refine ⟨lv, H', h1, fun E w a hr hρ => ?_⟩
  obtain ⟨w', E', h3, h4, h5, h6⟩ := h2 E w _ _ _ hr (hρ m) (hρ x) (hρ v)
  exact ⟨undef, w', E', .inr ⟨by simp [execOp, h3], rfl⟩, h4, h5, h6⟩
 ·rename_i t m x
  obtain ⟨lv, H', h1, h2⟩ := mapEntK_spec hT h
  refine ⟨lv, H', h1, fun E w a hr hρ => ?_⟩
  obtain ⟨v, w', E', h3, h4, h5, h6⟩ := h2 E w _ _ hr (hρ m) (hρ x)
  exact ⟨v, w', E', .inl (by simp [execOp, h3]), h4, h5, h6⟩
 ·rename_i t m s v
  obtain ⟨lv, H', h1, h2⟩ := entStoK_spec (P := P) (t := t) h
  refine ⟨lv, H', h1, fun E w a hr hρ => ?_⟩
  obtain ⟨w', E', h3, h4, h5, h6⟩ := h2 E w _ _ _ hr (hρ m) (hρ s) (hρ v)
  exact ⟨undef, w', E', .inr ⟨by simp [execOp, h3], rfl⟩, h4, h5, h6⟩
 ·rename_i s d x
  split at h
  ·obtain ⟨lv, h1, h2⟩ := bytesK_spec (P := P) hT h
   refine ⟨lv, H, h1, fun E w a hr hρ => ?_⟩
   obtain ⟨v, w', E', h3, h4, h5, h6⟩ := h2 E w H _ hr (hρ x)
   exact ⟨v, w', E', .inl (by simp [execOp, h3]), h4, h5, h6⟩
  ·exact viaP h
 ·rename_i c
  split at h
  ·rename_i b hb
   split at h
   ·split at h
    ·rename_i t t' s x hts hxs
     split at h
     ·rename_i heq
      have := Nat.eq_of_beq_eq_true heq; subst this
      obtain ⟨lv, H', h1, h2⟩ := appK_spec hT h
      refine ⟨lv, H', h1, fun E w a hr hρ => ?_⟩
      obtain ⟨v, w', E', h3, h4, h5, h6⟩ := h2 E w _ _ ty hr (hρ s) (hρ x)
      obtain ⟨callee, args, argTypes⟩ := c
      simp only at hb hts hxs
      subst hb
      have e1 : argTypes = #[t, t] := by rw [← Array.toArray_toList (xs := argTypes), hts]
      have e2 : args = #[s, x] := by rw [← Array.toArray_toList (xs := args), hxs]
      subst e1; subst e2
      exact ⟨v, w', E', .inl (by simp [execOp, resolve, invoke, builtin, h3]), h4, h5, h6⟩
     ·exact h.elim
    ·exact h.elim
   ·split at h
    ·rename_i t t' s x hts hxs
     obtain ⟨lv, H', h1, h2⟩ := copyK_spec (P := P) hT h
     refine ⟨lv, H', h1, fun E w a hr hρ => ?_⟩
     obtain ⟨v, w', E', h3, h4, h5, h6⟩ := h2 E w _ _ t' ty hr (hρ s) (hρ x)
     obtain ⟨callee, args, argTypes⟩ := c
     simp only at hb hts hxs
     subst hb
     have e1 : argTypes = #[t, t'] := by rw [← Array.toArray_toList (xs := argTypes), hts]
     have e2 : args = #[s, x] := by rw [← Array.toArray_toList (xs := args), hxs]
     subst e1; subst e2
     exact ⟨v, w', E', .inl (by simp [execOp, resolve, invoke, builtin, h3]), h4, h5, h6⟩
    ·exact h.elim
   ·split at h
    ·rename_i t x hts hxs
     obtain ⟨lv, H', h1, h2⟩ := clearK_spec (P := P) hT h
     refine ⟨lv, H', h1, fun E w a hr hρ => ?_⟩
     obtain ⟨v, w', E', h3, h4, h5, h6⟩ := h2 E w _ ty hr (hρ x)
     obtain ⟨callee, args, argTypes⟩ := c
     simp only at hb hts hxs
     subst hb
     have e1 : argTypes = #[t] := by rw [← Array.toArray_toList (xs := argTypes), hts]
     have e2 : args = #[x] := by rw [← Array.toArray_toList (xs := args), hxs]
     subst e1; subst e2
     exact ⟨v, w', E', .inl (by simp [execOp, resolve, invoke, builtin, h3]), h4, h5, h6⟩
    ·exact h.elim
   ·exact viaP h
  ·exact h.elim
 ·exact viaP h

structure SR (E : Env) (w : World) (n : Nat) (s : Slots) (a : Act) : Prop where
 size : a.tmps.size = n
 defers : a.defers = []
 slot : ∀ t, G E w (get s t) (a.tmps.getD t undef)

theorem SR.ev {E : Env} {w : World} {n : Nat} {s : Slots} {a : Act} (h : SR E w n s a) (x : Operand) : G E w (ev s x) (a.eval x) := by
 cases x with
 | tmp t => exact h.slot t
 | const v => exact G.lvOf E w v
 | global g => exact .any _
 | func f => exact .func _ _ _ _ _ rfl rfl (fun i x h => by simp at h) (fun i x h => by simp at h)

theorem SR.put {E : Env} {w : World} {n d : Nat} {s : Slots} {a : Act} (h : SR E w n s a) {lv : LV} {v : Value} (hv : G E w lv v) (hd : d < n) : SR E w n ((d, lv) :: s) (a.put (some d) v) := by
 refine ⟨by simp [Act.put, h.size], h.defers, fun t => ?_⟩
 simp only [get, Act.put]
 cases hb : Nat.beq t d with
 | true =>
  have := Nat.eq_of_beq_eq_true hb; subst this
  simp only
  have : t < a.tmps.size := by rw [h.size]; exact hd
  simpa [Array.getD, this] using hv
 | false =>
  have hne : t ≠ d := fun e => by subst e; simp at hb
  simp only
  have := h.slot t
  simp only [Array.getD_eq_getD_getElem?] at this ⊢
  rwa [Array.getElem?_setIfInBounds_ne (Ne.symm hne)]

theorem SR.ext {E E' : Env} {H : Heap} {w w' : World} {n : Nat} {s : Slots} {a : Act} (h : SR E w n s a) (hr : RelH E H w) (hx : Ext E w E' w') : SR E' w' n s a :=
 ⟨h.size, h.defers, fun t => (h.slot t).ext hr hx⟩

def force0 (v : LV) (k : LV → Prop) : Prop := match v with
 | .any => k .any
 | .und => k .und
 | .bool b => k (.bool b)
 | .int i n => k (.int i n)
 | .str s => k (.str s)
 | .agg cs => k (.agg cs)
 | .tup vs => k (.tup vs)
 | .nilp => k .nilp
 | .ptr x i o => k (.ptr x i o)
 | .rptr cs => k (.rptr cs)
 | .sl x o l => k (.sl x o l)
 | .ro s xs => k (.ro s xs)
 | .nils => k .nils
 | .map x => k (.map x)
 | .nilm => k .nilm
 | .func f a b => k (.func f a b)
 | .nilf => k .nilf
 | .iface t v => k (.iface t v)
 | .nili => k .nili
 | .ite c a b => k (.ite c a b)
theorem force0_eq (v : LV) (k : LV → Prop) : force0 v k = k v := by cases v <;> rfl
def nfL : List LV → (List LV → Prop) → Prop
 | [], k => k []
 | x :: r, k => force0 x fun x' => nfL r fun r' => k (x' :: r')
theorem nfL_eq : ∀ (l : List LV) (k : List LV → Prop), nfL l k = k l
 | [], k => rfl
 | x :: r, k => by rw [nfL, force0_eq, nfL_eq r]
def force (v : LV) (k : LV → Prop) : Prop := match v with
 | .any => k .any
 | .und => k .und
 | .bool b => k (.bool b)
 | .int i n => k (.int i n)
 | .str s => k (.str s)
 | .agg cs => nfL cs fun l => k (.agg l)
 | .tup vs => k (.tup vs)
 | .nilp => k .nilp
 | .ptr x i o => k (.ptr x i o)
 | .rptr cs => k (.rptr cs)
 | .sl x o l => k (.sl x o l)
 | .ro s xs => k (.ro s xs)
 | .nils => k .nils
 | .map x => k (.map x)
 | .nilm => k .nilm
 | .func f a b => k (.func f a b)
 | .nilf => k .nilf
 | .iface t v => k (.iface t v)
 | .nili => k .nili
 | .ite c a b => force0 a fun a' => force0 b fun b' => k (.ite c a' b')
theorem force_eq (v : LV) (k : LV → Prop) : force v k = k v := by
 cases v <;> simp only [force, nfL_eq, force0_eq]

def putK (n : Nat) (s : Slots) (dst : Option Tmp) (v : LV) (k : Slots → Prop) : Prop :=
 match dst with
 | none => k s
 | some d => match Nat.ble (d + 1) n with
  | true => force v fun v' => k ((d, v') :: s)
  | false => False

def wantB (want : Bool) : LV → Option Bool
 | .bool t => match want with
  | true => some t
  | false => some (!t)
 | .und => some false
 | .ite c x y => match wantB want x, wantB want y with
  | some p, some q => some (bif c then p else q)
  | _, _ => none
 | _ => none

theorem wantB_spec {E : Env} {w : World} {want : Bool} : ∀ {l : LV} {b : Bool} {v : Value}, wantB want l = some b → G E w l v → ((match v with | .bool x => some x | _ => none) == some want) = b := by
 intro l
 fun_induction wantB want l with
 | case1 t hw =>
  intro b v h hg
  cases hg
  simp only [Option.some.injEq] at h; subst h
  subst hw
  cases t <;> rfl
 | case2 t hw =>
  intro b v h hg
  cases hg
  simp only [Option.some.injEq] at h; subst h
  subst hw
  cases t <;> rfl
 | case3 =>
  intro b v h hg
  cases hg
  simp only [Option.some.injEq] at h; subst h
  cases want <;> rfl
 | case4 c x y p q hx hy ihx ihy =>
  intro b v h hg
  simp only [Option.some.injEq] at h; subst h
  cases hg with
  | iteT _ _ _ hg => exact ihx hy hg
  | iteF _ _ _ hg => exact ihy hx hg
 | case5 => intro b v h; simp at h
 | case6 => intro b v h; simp at h

def Fun (P : Program) (f : FuncId) : Prop := ∃ fn, P.funcs[f]? = some fn ∧ (fn.name == "runtime.NumGoroutine") = false ∧ fn.body.isNone = false

def CallW (P : Program) (f : FuncId) (args : List LV) (H : Heap) (K : LV → Heap → Prop) : Prop :=
 Fun P f ∧ ∀ (E : Env) (w : World) (vals : List Value), RelH E H w → Gs E w args vals → Calls P f vals.toArray w fun e w' => match e with
  | .returned v => ∃ E' lv H', K lv H' ∧ RelH E' H' w' ∧ G E' w' lv v ∧ Ext E w E' w'
  | _ => False

def CallP (P : Program) (f : FuncId) (args : List LV) (r : LV) : Prop := ∀ H, CallW P f args H fun lv H' => lv = r ∧ H' = H

theorem CallW.mono {f : FuncId} {args : List LV} {H : Heap} {K K' : LV → Heap → Prop} (h : CallW P f args H K) (hk : ∀ lv H', K lv H' → K' lv H') : CallW P f args H K' :=
 ⟨h.1, fun E w vals hr hg => (h.2 E w vals hr hg).mono fun e w' he => by
  cases e with
  | returned v => obtain ⟨E', lv, H', h1, h2⟩ := he; exact ⟨E', lv, H', hk _ _ h1, h2⟩
  | panicked c => exact he.elim
  | outgrown => exact he.elim⟩

theorem CallP.use {f : FuncId} {args : List LV} {r : LV} {H : Heap} {K : LV → Heap → Prop} (h : CallP P f args r) (hk : K r H) : CallW P f args H K :=
 (h H).mono fun lv H' ⟨h1, h2⟩ => by rw [h1, h2]; exact hk

end
end Go.RX
