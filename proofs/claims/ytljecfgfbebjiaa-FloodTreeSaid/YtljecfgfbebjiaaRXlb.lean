/- RX, part lb: operations told in another way: where a mark says so. -/
import Derived.Test.YtljecfgfbebjiaaRXl
set_option linter.unusedVariables false
namespace Go.RX

section
variable {P : Program} {T : List (Nat × TE)}

theorem relH_less {E : Env} {H : Heap} {w : World} (hr : RelH E H w) {x e sz : Nat} {es es' : List (List LV)} (hl : look H.live x = some (.row e sz es))
  (hu : ∀ (i : Nat) (cs' : List LV), es'[i]? = some cs' → ∃ cs, es[i]? = some cs ∧ cs'.length = cs.length ∧ ∀ (j : Nat) (y : LV), cs'[j]? = some y → ∃ z, cs[j]? = some z ∧ ∀ v, G E w z v → G E w y v) :
  RelH E ⟨H.nx, upd x (.row e sz es') H.live⟩ w := by
 have hlen : es'.length ≤ es.length := by
  rcases Nat.lt_or_ge es.length es'.length with h | h
  ·obtain ⟨cs, h1, _⟩ := hu es.length _ (List.getElem?_eq_getElem h)
   have := (List.getElem?_eq_some_iff.1 h1).1
   omega
  ·exact h
 have hlk : ∀ z b, look (upd x (.row e sz es') H.live) z = some b → (z = x ∧ b = .row e sz es') ∨ (z ≠ x ∧ look H.live z = some b) := by
  intro z b h
  rw [look_upd] at h
  split at h
  ·rename_i hc
   exact .inl ⟨hc.1.symm, (Option.some.inj h).symm⟩
  ·rename_i hc
   refine .inr ⟨fun e => ?_, h⟩
   subst e
   exact hc ⟨rfl, by rw [hl]; rfl⟩
 refine ⟨hr.nx, ?_, ?_, ?_, ?_, hr.inj, hr.nok, hr.okl⟩
 ·intro z e2 sz2 es2 hz
  rcases hlk z _ hz with ⟨rfl, hb⟩ | ⟨hne, hz⟩
  ·cases hb
   rcases hr.row z _ _ es hl with ⟨h1, h2⟩ | ⟨k, arr, h1, h2, h3, h4, h5⟩
   ·subst h2
    exact .inl ⟨h1, List.eq_nil_of_length_eq_zero (Nat.le_zero.1 hlen)⟩
   ·have hm : es'.length * sz ≤ es.length * sz := Nat.mul_le_mul_right _ hlen
    refine .inr ⟨k, arr, h1, h2, Nat.le_trans hm h3, fun i hi => h4 i (Nat.lt_of_lt_of_le hi hm), fun i cs' hi => ?_⟩
    obtain ⟨cs, h6, h7, h8⟩ := hu i cs' hi
    obtain ⟨h9, h10⟩ := h5 i cs h6
    refine ⟨h7.trans h9, fun j y hj => ?_⟩
    obtain ⟨z0, h11, h12⟩ := h8 j y hj
    exact h12 _ (h10 j z0 h11)
  ·exact hr.row z e2 sz2 es2 hz
 ·intro z es2 hz
  rcases hlk z _ hz with ⟨rfl, hb⟩ | ⟨hne, hz⟩
  ·cases hb
  ·exact hr.mp z es2 hz
 ·intro z hz
  refine hr.none z ?_
  rw [look_upd] at hz
  split at hz
  ·cases hz
  ·exact hz
 ·intro z b hz
  rcases hlk z _ hz with ⟨rfl, _⟩ | ⟨_, hz⟩
  ·exact hr.lt z _ hl
  ·exact hr.lt z b hz
theorem relH_take {E : Env} {H : Heap} {w : World} (hr : RelH E H w) {x e sz : Nat} {es : List (List LV)} (hl : look H.live x = some (.row e sz es)) (n : Nat) :
  RelH E ⟨H.nx, upd x (.row e sz (es.take n)) H.live⟩ w :=
 relH_less hr hl fun i cs h => by
  rw [List.getElem?_take] at h
  split at h
  ·exact ⟨cs, h, rfl, fun j y hj => ⟨y, hj, fun _ h => h⟩⟩
  ·cases h

def makeR (T : List (Nat × TE)) (H : Heap) (t : Nat) (l c : LV) (K : LV → Heap → Prop) : Prop :=
 match tyq T t with
 | some e => match e.u with
  | .slice el => match tyq T el with
   | some e' => match e'.u with
    | .slice el2 => match tyq T el2 with
     | some e2 => match e'.zero with
      | .slice none 0 0 => match l, c with
       | .int k n, .int k' m => (0 ≤ n ∧ n ≤ m ∧ fits m.toNat e'.bytes) ∧ K (.sl H.nx 0 n.toNat) ⟨H.nx + 1, (H.nx, .row el e'.size (List.replicate n.toNat [.ro e2.size []])) :: H.live⟩
       | _, _ => False
      | _ => False
     | none => False
    | _ => False
   | none => False
  | _ => False
 | none => False

theorem makeR_spec {H : Heap} {K : LV → Heap → Prop} (hT : TOk P T) {t : Nat} {l c : LV} (h : makeR T H t l c K) :
  ∃ lv H', K lv H' ∧ ∀ (E : Env) (w : World) (u v : Value), RelH E H w → G E w l u → G E w c v → ∃ r w' E', (Instr.makeSlice t u v).run P w = .ok r w' ∧ RelH E' H' w' ∧ G E' w' lv r ∧ Ext E w E' w' := by
 unfold makeR at h
 split at h
 ·rename_i e he
  split at h
  ·rename_i el hel
   split at h
   ·rename_i e' he'
    split at h
    ·rename_i el2 hel2
     split at h
     ·rename_i e2 he2
      split at h
      ·rename_i hz
       split at h
       ·rename_i k n k' m
        obtain ⟨hf, h⟩ := h
        refine ⟨_, _, h, fun E w u v hr hu hv => ?_⟩
        have hm : makeK T H t (.int k n) (.int k' m) fun lv H' => lv = .sl H.nx 0 n.toNat ∧ H' = ⟨H.nx + 1, (H.nx, .row el e'.size (List.replicate n.toNat (zeroL e'.zero))) :: H.live⟩ := by
         unfold makeK
         simp only [he, hel, he']
         refine ⟨hf, ?_⟩
         first | trivial | exact ⟨rfl, rfl⟩
        obtain ⟨lv, H', ⟨rfl, rfl⟩, hd⟩ := makeK_spec hT hm
        obtain ⟨r, w', E', h1, h2, h3, h4⟩ := hd E w u v hr hu hv
        refine ⟨r, w', E', h1, ?_, h3, h4⟩
        have hb : Nat.beq H.nx H.nx = true := by simp
        have hlk : look ((H.nx, Blk.row el e'.size (List.replicate n.toNat (zeroL e'.zero))) :: H.live) H.nx = some (.row el e'.size (List.replicate n.toNat (zeroL e'.zero))) := by
         simp only [look, hb]
        have := relH_less h2 (es' := List.replicate n.toNat [.ro e2.size []]) hlk (fun i cs' hi => by
         rw [List.getElem?_replicate] at hi
         split at hi
         ·rename_i hlt
          have hc : cs' = [LV.ro e2.size []] := (Option.some.inj hi).symm
          subst hc
          have hzl : zeroL e'.zero = [.nils] := by rw [hz]; rfl
          refine ⟨[.nils], by rw [List.getElem?_replicate, if_pos hlt, hzl], rfl, fun j y hj => ?_⟩
          cases j with
          | zero =>
           simp only [List.getElem?_cons_zero, Option.some.injEq] at hj
           subst hj
           exact ⟨.nils, rfl, fun v hv => by cases hv; exact .roNil _⟩
          | succ j => simp at hj
         ·cases hi)
        simp only [upd, hb] at this
        exact this
       ·exact h.elim
      ·exact h.elim
     ·exact h.elim
    ·exact h.elim
   ·exact h.elim
  ·exact h.elim
 ·exact h.elim

def allocA (T : List (Nat × TE)) (H : Heap) (t : Nat) (K : LV → Heap → Prop) : Prop :=
 match tyq T t with
 | some e => match e.u with
  | .arr m el => match tyq T el with
   | some e' => match Nat.beq (m * e'.size) e.size with
    | true => K (.ptr H.nx 0 0) ⟨H.nx + 1, (H.nx, .row t e'.size (chunk e'.size m (zeroL e.zero))) :: H.live⟩
    | false => False
   | none => False
  | _ => False
 | none => False

theorem allocA_spec {H : Heap} {K : LV → Heap → Prop} (hT : TOk P T) {t : Nat} (h : allocA T H t K) :
  ∃ lv H', K lv H' ∧ ∀ (E : Env) (w : World), RelH E H w → ∃ x w' E', (Instr.alloc t true (.tuple #[])).run P w = .ok x w' ∧ RelH E' H' w' ∧ G E' w' lv x ∧ Ext E w E' w' := by
 unfold allocA at h
 split at h
 ·rename_i e he
  have hte := hT _ _ he
  split at h
  ·rename_i m el hel
   split at h
   ·rename_i e' he'
    split at h
    ·rename_i hb
     have hsz := Nat.eq_of_beq_eq_true hb
     refine ⟨_, _, h, fun E w hr => ?_⟩
     have hz := zeroL_ok hte E w
     have hl : (zeroL e.zero).length = e.size := by rw [← hz.1, hte.zsize]
     obtain ⟨E', hr', hx', hφ⟩ := relH_new hr t e'.size (chunk e'.size m (zeroL e.zero)) e.zero.cells rfl rfl rfl rfl (by rw [chunk_length, hte.zsize, hsz]; exact Nat.le_refl _)
      (fun i hi => hz.2.1 i (by rw [hte.zsize, ← hsz]; rw [chunk_length] at hi; exact hi)) (fun i c hi => by
       have hi' : i < m := by have := (List.getElem?_eq_some_iff.1 hi).1; rwa [chunk_length] at this
       have hc := chunk_get _ _ _ _ _ hi
       subst hc
       have hle : i * e'.size + e'.size ≤ e.size := by
        rw [← hsz]
        have : (i + 1) * e'.size ≤ m * e'.size := Nat.mul_le_mul_right _ hi'
        rwa [Nat.succ_mul] at this
       refine ⟨by rw [List.length_take, List.length_drop, hl]; omega, fun j y hj => ?_⟩
       rw [List.getElem?_take] at hj
       split at hj
       ·rw [List.getElem?_drop] at hj
        exact hz.2.2 _ y hj
       ·cases hj)
     refine ⟨_, _, E', ?_, hr', .ptr H.nx 0 0 w.heap.size e'.size hφ, hx'⟩
     simp [Instr.alloc, run_zero hte, newVar, newRow]
    ·exact h.elim
   ·exact h.elim
  ·exact h.elim
 ·exact h.elim

def clearZ (T : List (Nat × TE)) (H : Heap) (t : Nat) (x : LV) (K : LV → Heap → Prop) : Prop :=
 match tyq T t with
 | some e => match e.u with
  | .slice el => match tyq T el with
   | some e' => match x with
    | .sl y 0 len => match look H.live y with
     | some (.row e0 sz0 es) => match Nat.beq sz0 e'.size with
      | true => len = es.length ∧ K (.tup []) ⟨H.nx, upd y (.row e0 sz0 (List.replicate len (zeroL e'.zero))) H.live⟩
      | false => False
     | _ => False
    | _ => False
   | none => False
  | _ => False
 | none => False
theorem zeroCells_get {z : Array Value} {n i j : Nat} (hi : i < n) (hj : j < z.size) : (Builtin.zeroCells z n).toList[i * z.size + j]? = some (z.getD j undef) := by
 have hlt : i * z.size + j < n * z.size := by
  have : (i + 1) * z.size ≤ n * z.size := Nat.mul_le_mul_right _ hi
  rw [Nat.succ_mul] at this; omega
 have e2 : (i * z.size + j) % z.size = j := by rw [Nat.mul_comm, Nat.mul_add_mod, Nat.mod_eq_of_lt hj]
 simp only [Builtin.zeroCells, Array.toList_map, List.getElem?_map, Array.getElem?_toList]
 rw [Array.getElem?_range]
 simp only [hlt, if_true, Option.map_some, e2]
 simp [Array.getD, hj]
theorem clearZ_spec {H : Heap} {K : LV → Heap → Prop} (hT : TOk P T) {t : Nat} {x : LV} (h : clearZ T H t x K) :
  ∃ lv H', K lv H' ∧ ∀ (E : Env) (w : World) (u : Value) (ty : TypeId), RelH E H w → G E w x u →
   ∃ r w' E', (Builtin.clear_ #[t] ty #[u]).run P w = .ok r w' ∧ RelH E' H' w' ∧ G E' w' lv r ∧ Ext E w E' w' := by
 unfold clearZ at h
 split at h
 ·rename_i e he
  obtain ⟨d, hd, hof⟩ := (hT _ _ he).desc
  split at h
  ·rename_i el hel
   rw [hel] at hof
   have := TI.of_slice hof; subst this
   split at h
   ·rename_i e' he'
    have hte := hT _ _ he'
    obtain ⟨info, hi, hiz, his, hib⟩ := hte.inf
    split at h
    ·rename_i y len
     split at h
     ·rename_i e0 sz0 es hl
      split at h
      ·rename_i hb
       have hsz := Nat.eq_of_beq_eq_true hb
       subst hsz
       obtain ⟨hlen, h⟩ := h
       refine ⟨_, _, h, fun E w u ty hr hu => ?_⟩
       have gt : ∀ w, G E w (.tup []) (.tuple #[]) := fun w => .tup [] #[] rfl (fun i x hx => by simp at hx)
       rcases sl_real hr hl hu with ⟨rfl, rfl, rfl⟩ | ⟨k, arr, cap, rfl, hφ, hh, hlc, hcm, hcap, hle, h1, hg⟩
       ·exact ⟨.tuple #[], w, E, by simp [Builtin.clear_, run_underlying hd], relH_same hr (fun z => look_upd_same (by simpa using hl) z), gt w, Ext.refl E w⟩
       ·cases len with
        | zero =>
         have he : es = [] := List.eq_nil_of_length_eq_zero hlen.symm
         subst he
         exact ⟨.tuple #[], w, E, by simp [Builtin.clear_, run_underlying hd], relH_same hr (fun z => look_upd_same (by simpa using hl) z), gt w, Ext.refl E w⟩
        | succ m =>
         have hzl : (Builtin.zeroCells e'.zero.cells (m + 1)).toList.length = (m + 1) * e'.size := by rw [Array.length_toList, size_zeroCells, hte.zsize]
         have hzo : ∀ v ∈ (Builtin.zeroCells e'.zero.cells (m + 1)).toList, v.oneCell' = true := by
          intro v hv
          simp only [Builtin.zeroCells, Array.mem_toList_iff, Array.mem_map, Array.mem_range] at hv
          obtain ⟨i, hi', rfl⟩ := hv
          have hpos : 0 < e'.zero.cells.size := by
           rcases Nat.eq_zero_or_pos e'.zero.cells.size with h0 | h0
           ·rw [h0] at hi'; simp at hi'
           ·exact h0
          have hm := Nat.mod_lt i hpos
          have := hte.zone _ hm
          rw [Array.getD_eq_getD_getElem?] at this
          rw [getElem!_def]
          simpa [hm] using this
         have hfit : (m + 1) * e'.size ≤ arr.size := Nat.le_trans (Nat.mul_le_mul_right _ hlc) hcap
         have hst := run_storeCells_at P k 0 e0 (Builtin.zeroCells e'.zero.cells (m + 1)).toList 0 arr w hh (by rw [hzl]; omega) hzo
         have hrun : (Builtin.clear_ #[t] ty #[.slice (some ⟨k, 0, none⟩) (m + 1) cap]).run P w = .ok (.tuple #[]) (w.setRow k ((Builtin.zeroCells e'.zero.cells (m + 1)).toList ++ arr.toList.drop ((m + 1) * e'.size)).toArray) := by
          simp only [Nat.add_zero, Nat.zero_add, hzl, List.take_zero, List.nil_append] at hst
          simp [Builtin.clear_, run_underlying hd, zeroValue, typeInfo, hi, hiz, hst]
         generalize harr' : ((Builtin.zeroCells e'.zero.cells (m + 1)).toList ++ arr.toList.drop ((m + 1) * e'.size)).toArray = arr' at hrun
         have hsize : arr'.size = arr.size := by
          rw [← harr']
          simp only [List.size_toArray, List.length_append, hzl, List.length_drop, Array.length_toList]
          omega
         have hget : ∀ i j, i < m + 1 → j < e'.size → arr'.getD (i * e'.size + j) undef = e'.zero.cells.getD j undef := by
          intro i j hi hj
          have hj' : j < e'.zero.cells.size := by rw [hte.zsize]; exact hj
          have := zeroCells_get (z := e'.zero.cells) hi hj'
          rw [hte.zsize] at this
          rw [← harr']
          simp only [Array.getD_eq_getD_getElem?, List.getElem?_toArray]
          have hlt : i * e'.size + j < (m + 1) * e'.size := by
           have : (i + 1) * e'.size ≤ (m + 1) * e'.size := Nat.mul_le_mul_right _ hi
           rw [Nat.succ_mul] at this; omega
          rw [List.getElem?_append_left (by rw [hzl]; exact hlt), this]
          simp [Array.getD_eq_getD_getElem?]
         have hz := zeroL_ok hte E w
         have hzl' : (zeroL e'.zero).length = e'.size := by rw [← hz.1, hte.zsize]
         obtain ⟨hr', hx'⟩ := relH_store (es' := List.replicate (m + 1) (zeroL e'.zero)) (arr' := arr') (w' := w.setRow k arr') hr hl hφ hh (setRow_heap w k _ _ _ _ hh) hsize (by simp) (fun j hj hne => setRow_other w k j _ hne) rfl rfl rfl
          (by rw [List.length_replicate, hsize]; exact hfit) (fun i hi' => by
           rw [List.length_replicate] at hi'
           have hpos : 0 < e'.size := by
            rcases Nat.eq_zero_or_pos e'.size with h0 | h0
            ·rw [h0] at hi'; simp at hi'
            ·exact h0
           have e1 : i = i / e'.size * e'.size + i % e'.size := by rw [Nat.mul_comm]; exact (Nat.div_add_mod i _).symm
           have hm := Nat.mod_lt i hpos
           have hd' : i / e'.size < m + 1 := Nat.div_lt_of_lt_mul (by rw [Nat.mul_comm]; exact hi')
           rw [e1, hget _ _ hd' hm]
           exact hte.zone _ (by rw [hte.zsize]; exact hm))
          (fun i cs hi' => by
           rw [List.getElem?_replicate] at hi'
           split at hi'
           ·rename_i hlt
            have hc : cs = zeroL e'.zero := (Option.some.inj hi').symm
            subst hc
            refine ⟨hzl', fun j y hj => ?_⟩
            have hjl : j < e'.size := by rw [← hzl']; exact (List.getElem?_eq_some_iff.1 hj).1
            rw [hget i j hlt hjl]
            exact hz.2.2 j y hj
           ·cases hi')
         exact ⟨_, _, E, hrun, hr', gt _, hx'⟩
      ·exact h.elim
     ·exact h.elim
    ·exact h.elim
   ·exact h.elim
  ·exact h.elim
 ·exact h.elim

def nilR (T : List (Nat × TE)) (t : Nat) (v : LV) : LV := match v with
 | .nils => match tyq T t with
  | some e => match e.u with
   | .slice el => match tyq T el with
    | some e' => match e'.u with
     | .slice el2 => match tyq T el2 with
      | some e2 => .ro e2.size []
      | none => .nils
     | _ => .nils
    | none => .nils
   | _ => .nils
  | none => .nils
 | v => v
theorem nilR_spec {E : Env} {w : World} {t : Nat} {v : LV} {u : Value} (h : G E w v u) : G E w (nilR T t v) u := by
 unfold nilR
 repeat' split
 all_goals first | exact h | (cases h; exact .roNil _)

def opX (T : List (Nat × TE)) (op : Op) (ρ : Operand → LV) (H : Heap) (K : LV → Heap → Prop) : Prop :=
 match op with
 | .makeSlice t l c => makeR T H t (ρ l) (ρ c) K
 | .buildSlice t n ps => opH T (.buildSlice t n ps) (fun x => nilR T t (ρ x)) H K
 | .slice t x lo hi mx => match ρ x, hi.map ρ with
  | .sl y _ _, some (.int _ h) => match look H.live y with
   | some (.row e sz es) => opP T (.slice t x lo hi mx) ρ H id fun v => K v ⟨H.nx, upd y (.row e sz (es.take h.toNat)) H.live⟩
   | _ => False
  | _, _ => False
 | .alloc t => allocA T H t K
 | .call c => match c.callee with
  | .builtin b => match b with
   | .clear => match c.argTypes.toList, c.args.toList with
    | [t], [x] => clearZ T H t (ρ x) K
    | _, _ => False
   | _ => False
  | _ => False
 | _ => False

theorem opX_sound (hT : TOk P T) {H : Heap} {K : LV → Heap → Prop} {ρ : Operand → LV} {o : Oper} (h : opX T o.op ρ H K) : ∃ lv H', K lv H' ∧ Does P H ρ o lv H' := by
 obtain ⟨dst, op, ty, pos, after, guard⟩ := o
 unfold opX at h
 simp only at h
 split at h
 ·rename_i t l c
  obtain ⟨lv, H', h1, h2⟩ := makeR_spec hT h
  refine ⟨lv, H', h1, fun E w a hr hρ => ?_⟩
  obtain ⟨v, w', E', h3, h4, h5, h6⟩ := h2 E w _ _ hr (hρ l) (hρ c)
  exact ⟨v, w', E', .inl (by simp [execOp, h3]), h4, h5, h6⟩
 ·rename_i t n ps
  obtain ⟨lv, H', h1, h2⟩ := opH_sound (P := P) (o := ⟨dst, .buildSlice t n ps, ty, pos, after, guard⟩) hT h
  exact ⟨lv, H', h1, fun E w a hr hρ => h2 E w a hr fun x => nilR_spec (hρ x)⟩
 ·rename_i t x lo hi mx
  split at h
  ·split at h
   ·rename_i e sz es hl
    obtain ⟨lv, h1, h2⟩ := opP_sound (P := P) (gd := True) (o := ⟨dst, .slice t x lo hi mx, ty, pos, after, guard⟩) hT (fun p hp _ => hp) h
    refine ⟨lv, _, h1, fun E w a hr hρ => ?_⟩
    obtain ⟨v, h3, h4⟩ := h2 trivial E w a hr hρ
    exact ⟨v, w, E, .inl h3, relH_take hr hl _, h4, Ext.refl E w⟩
   ·exact h.elim
  ·exact h.elim
 ·rename_i t
  obtain ⟨lv, H', h1, h2⟩ := allocA_spec hT h
  refine ⟨lv, H', h1, fun E w a hr hρ => ?_⟩
  obtain ⟨v, w', E', h3, h4, h5, h6⟩ := h2 E w hr
  exact ⟨v, w', E', .inl (by simp [execOp, h3]), h4, h5, h6⟩
 ·rename_i c
  split at h
  ·rename_i b hb
   split at h
   ·split at h
    ·rename_i t x hts hxs
     obtain ⟨lv, H', h1, h2⟩ := clearZ_spec (P := P) hT h
     refine ⟨lv, H', h1, fun E w a hr hρ => ?_⟩
     obtain ⟨v, w', E', h3, h4, h5, h6⟩ := h2 E w _ ty hr (hρ x)
     obtain ⟨callee, args, argTypes⟩ := c
     simp only at hb hts hxs
     subst hb
     have e1 : argTypes = #[t] := by rw [← Array.toArray_toList (xs := argTypes), hts]
     have e2 : args = #[x] := by rw [← Array.toArray_toList (xs := args), hxs]
     subst e1; subst e2
     exact ⟨v, w', E', .inl (by simp [execOp, resolve, invoke, builtin, h3]), h4, h5, h6⟩
    ·exact h.elim
   ·exact h.elim
  ·exact h.elim
 ·exact h.elim

end
end Go.RX
