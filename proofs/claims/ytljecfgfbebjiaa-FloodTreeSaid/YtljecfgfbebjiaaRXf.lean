/- RX, part f: structs built, slices cut, builtins that only read; and all of them as one. -/
import Derived.Test.YtljecfgfbebjiaaRXe
set_option linter.unusedVariables false
namespace Go.RX

def setL : List LV → Nat → List LV → List LV
 | [], _, _ => []
 | c :: r, n + 1, cs => c :: setL r n cs
 | c :: r, 0, [] => c :: r
 | _ :: r, 0, d :: ds => d :: setL r 0 ds

theorem setL_length : ∀ (l : List LV) (n : Nat) (cs : List LV), (setL l n cs).length = l.length
 | [], _, _ => by simp [setL]
 | c :: r, n + 1, cs => by simp [setL, setL_length r n cs]
 | c :: r, 0, [] => by simp [setL]
 | _ :: r, 0, d :: ds => by simp [setL, setL_length r 0 ds]

theorem setL_get : ∀ (l : List LV) (n : Nat) (cs : List LV) (i : Nat), i < l.length → (setL l n cs)[i]? = if n ≤ i ∧ i < n + cs.length then cs[i - n]? else l[i]?
 | [], _, _, i, h => by simp at h
 | c :: r, n + 1, cs, i, h => by
  cases i with
  | zero => simp [setL]
  | succ i =>
   simp only [setL, List.getElem?_cons_succ]
   rw [setL_get r n cs i (by simpa using h)]
   have e : (n ≤ i ∧ i < n + cs.length) ↔ (n + 1 ≤ i + 1 ∧ i + 1 < n + 1 + cs.length) := by omega
   simp only [e]
   congr 2
   omega
 | c :: r, 0, [], i, h => by simp [setL]
 | _ :: r, 0, d :: ds, i, h => by
  cases i with
  | zero => simp [setL]
  | succ i =>
   simp only [setL, List.getElem?_cons_succ]
   rw [setL_get r 0 ds i (by simpa using h)]
   simp

theorem fold_set (off : Nat) : ∀ (l : List Value) (k : Nat) (cells : Array Value), off + k + l.length ≤ cells.size →
  ((l.zipIdx k).foldl (fun cs (x : Value × Nat) => cs.setIfInBounds (off + x.2) x.1) cells).size = cells.size ∧
  ∀ i, ((l.zipIdx k).foldl (fun cs (x : Value × Nat) => cs.setIfInBounds (off + x.2) x.1) cells).getD i undef =
   if off + k ≤ i ∧ i < off + k + l.length then l.getD (i - (off + k)) undef else cells.getD i undef
 | [], k, cells, _ => by
  refine ⟨by simp, fun i => ?_⟩
  simp
  intro h1 h2; omega
 | v :: l, k, cells, h => by
  simp only [List.zipIdx_cons, List.foldl_cons]
  obtain ⟨h1, h2⟩ := fold_set off l (k + 1) (cells.setIfInBounds (off + k) v) (by simp at h ⊢; omega)
  refine ⟨by rw [h1]; simp, fun i => ?_⟩
  rw [h2]
  simp only [List.length_cons] at h ⊢
  by_cases hi : i = off + k
  ·subst hi
   rw [if_neg (by omega), if_pos (by omega)]
   have : off + k < cells.size := by omega
   simp [Array.getD, this]
  ·by_cases hr : off + (k + 1) ≤ i ∧ i < off + (k + 1) + l.length
   ·rw [if_pos hr, if_pos (by omega)]
    rw [show i - (off + k) = (i - (off + (k + 1))) + 1 by omega]
    simp
   ·rw [if_neg hr, if_neg (by omega)]
    simp only [Array.getD_eq_getD_getElem?]
    rw [Array.getElem?_setIfInBounds_ne (by omega)]

def CsOk (E : Env) (w : World) (cs : List LV) (arr : Array Value) : Prop :=
 arr.size = cs.length ∧ (∀ i, i < arr.size → (arr.getD i undef).oneCell' = true) ∧ ∀ i x, cs[i]? = some x → G E w x (arr.getD i undef)

def fillK (H : Heap) (places : Nat → Option (Nat × Nat)) : List LV → List (Nat × LV) → (List LV → Prop) → Prop
 | cells, [], k => k cells
 | cells, (i, v) :: rest, k => match places i with
  | none => False
  | some (off, size) => cellsK H v fun cs => match Nat.beq cs.length size with
   | true => match Nat.ble (off + size) cells.length with
    | true => fillK H places (setL cells off cs) rest k
    | false => False
   | false => False

theorem fillK_spec {H : Heap} {places : Nat → Option (Nat × Nat)} : ∀ (ps : List (Nat × LV)) (cells : List LV) (k : List LV → Prop), fillK H places cells ps k →
  ∃ cs, k cs ∧ cs.length = cells.length ∧ ∀ (E : Env) (w : World) (arr : Array Value) (vs : List (Nat × Value)), RelH E H w → CsOk E w cells arr → vs.map (·.1) = ps.map (·.1) →
   (∀ (i : Nat) (p : Nat × LV) (v : Nat × Value), ps[i]? = some p → vs[i]? = some v → G E w p.2 v.2) →
   ∃ out, Instr.fill places arr vs = some out ∧ CsOk E w cs out
 | [], cells, k, h => ⟨cells, h, rfl, fun E w arr vs _ ha hm _ => by
   have : vs = [] := by simpa using hm
   subst this
   exact ⟨arr, rfl, ha⟩⟩
 | (i, v) :: rest, cells, k, h => by
  unfold fillK at h
  split at h
  ·exact h.elim
  ·rename_i off size hp
   obtain ⟨cs, hcs, hv⟩ := cellsK_spec h
   split at hcs
   ·rename_i hb
    have hsz := Nat.eq_of_beq_eq_true hb
    split at hcs
    ·rename_i hle
     have hle' := Nat.le_of_ble_eq_true hle
     obtain ⟨out, ho, hlen, hrest⟩ := fillK_spec rest _ k hcs
     refine ⟨out, ho, by rw [hlen, setL_length], fun E w arr vs hr ha hm hg => ?_⟩
     cases vs with
     | nil => simp at hm
     | cons ju vs =>
      obtain ⟨j, u⟩ := ju
      simp only [List.map_cons, List.cons.injEq] at hm
      obtain ⟨hj, hm⟩ := hm
      subst hj
      have gu := hg 0 (j, v) (j, u) rfl rfl
      obtain ⟨hl1, hl2, hl3⟩ := hv E w u hr gu
      unfold Instr.fill
      simp only [hp]
      rw [if_neg (by rw [hl1, ha.1]; simp; omega)]
      obtain ⟨f1, f2⟩ := fold_set off u.cells.toList 0 arr (by simp [hl1, ha.1]; omega)
      have hfold : u.cells.zipIdx.foldl (fun cs (c, j) => cs.setIfInBounds (off + j) c) arr = (u.cells.toList.zipIdx 0).foldl (fun cs (x : Value × Nat) => cs.setIfInBounds (off + x.2) x.1) arr := by
       rw [← Array.foldl_toList]; simp
      rw [hfold]
      refine hrest E w _ vs hr ⟨by rw [f1, setL_length]; exact ha.1, fun i hi => ?_, fun i x hx => ?_⟩ hm (fun i p v h1 h2 => hg (i + 1) p v (by simpa using h1) (by simpa using h2))
      ·rw [f2]
       split
       ·rename_i hin
        have := hl2 (i - off) (by simp at hin; omega)
        simpa [Array.getD_eq_getD_getElem?, List.getD_eq_getElem?_getD] using this
       ·exact ha.2.1 i (by rw [f1] at hi; exact hi)
      ·have hil : i < cells.length := by
        have := (List.getElem?_eq_some_iff.1 hx).1
        rwa [setL_length] at this
       rw [setL_get _ _ _ _ hil] at hx
       rw [f2]
       split at hx
       ·rename_i hin
        rw [if_pos (by simp [hl1]; omega)]
        have := hl3 (i - off) x hx
        simpa [Array.getD_eq_getD_getElem?, List.getD_eq_getElem?_getD] using this
       ·rename_i hout
        rw [if_neg (by simp [hl1]; omega)]
        exact ha.2.2 i x hx
    ·exact hcs.elim
   ·exact hcs.elim

def zeroL (v : Value) : List LV := v.cells.toList.map lv1

theorem zeroL_ok {P : Program} {t : Nat} {e : TE} (h : TEok P t e) (E : Env) (w : World) : CsOk E w (zeroL e.zero) e.zero.cells :=
 ⟨by simp [zeroL], h.zone, fun i x hx => by
  simp only [zeroL, List.getElem?_map, Option.map_eq_some_iff] at hx
  obtain ⟨v, hv, rfl⟩ := hx
  have hi : i < e.zero.cells.size := by
   have := (List.getElem?_eq_some_iff.1 hv).1
   simpa using this
  have : e.zero.cells.getD i undef = v := by
   simp only [Array.getElem?_toList, Array.getElem?_eq_getElem hi, Option.some.injEq] at hv
   simpa [Array.getD, hi] using hv
  rw [this]
  exact G.lv1 E w v⟩

def placeL (T : List (Nat × TE)) : List (Nat × Nat × Bool) → Nat → Option (Nat × Nat)
 | [], _ => none
 | (off, ty, _) :: _, 0 => match tyq T ty with
  | some e => some (off, e.size)
  | none => none
 | _ :: r, n + 1 => placeL T r n

def allT (T : List (Nat × TE)) : List (Nat × Nat × Bool) → Bool
 | [] => true
 | (_, ty, _) :: r => match tyq T ty with
  | some _ => allT T r
  | none => false

def buildK (T : List (Nat × TE)) (H : Heap) (t : Nat) (ps : List (Nat × LV)) (K : LV → Prop) : Prop :=
 match tyq T t with
 | some e => match e.u with
  | .struct fs => match allT T fs with
   | true => fillK H (placeL T fs) (zeroL e.zero) ps fun cs => K (.agg cs)
   | false => False
  | .arr _ el => match tyq T el with
   | some e' => fillK H (fun i => some (i * e'.size, e'.size)) (zeroL e.zero) ps fun cs => K (.agg cs)
   | none => False
  | _ => False
 | none => False

theorem placeL_eq {P : Program} {T : List (Nat × TE)} (hT : TOk P T) : ∀ (gl : List Field) (w : World), allT T (gl.map fun f => (f.offset, f.type, f.name != "_")) = true →
  ∃ pl : List (Nat × Nat), (gl.mapM fun f : Field => Prod.mk f.offset <$> sizeOf f.type).run P w = .ok pl w ∧
   ∀ i, pl[i]? = placeL T (gl.map fun f => (f.offset, f.type, f.name != "_")) i
 | [], w, _ => ⟨[], by simp, fun i => by simp [placeL]⟩
 | f :: gl, w, h => by
  simp only [List.map_cons, allT] at h
  split at h
  ·rename_i e he
   obtain ⟨pl, h1, h2⟩ := placeL_eq hT gl w h
   refine ⟨(f.offset, e.size) :: pl, ?_, fun i => ?_⟩
   ·simp [List.mapM_cons, run_size (hT _ _ he), h1]
   ·cases i with
    | zero => simp [placeL, he]
    | succ i => simpa [placeL] using h2 i
  ·cases h

section
variable {P : Program} {T : List (Nat × TE)} {gd : Prop} {C : Prop → Prop} {H : Heap} {K : LV → Prop}

theorem buildK_spec (hT : TOk P T) {t : Nat} {ps : List (Nat × LV)} (h : buildK T H t ps K) :
  ∃ lv, K lv ∧ ∀ (E : Env) (w : World) (vs : List (Nat × Value)), RelH E H w → vs.map (·.1) = ps.map (·.1) → (∀ (i : Nat) (p : Nat × LV) (v : Nat × Value), ps[i]? = some p → vs[i]? = some v → G E w p.2 v.2) →
   Ans P E w (Instr.build t vs.toArray) lv := by
 unfold buildK at h
 split at h
 ·rename_i e he
  have hte := hT _ _ he
  obtain ⟨d, hd, hof⟩ := hte.desc
  split at h
  ·rename_i fs hfs
   rw [hfs] at hof
   obtain ⟨gs, rfl, hgs⟩ := TI.of_struct hof
   split at h
   ·rename_i hall
    obtain ⟨cs, hk, _, hrest⟩ := fillK_spec _ _ _ h
    refine ⟨_, hk, fun E w vs hr hm hg => ?_⟩
    rw [← hgs] at hall
    obtain ⟨pl, h1, h2⟩ := placeL_eq hT gs.toList w hall
    obtain ⟨out, ho, hok⟩ := hrest E w _ vs hr (zeroL_ok hte E w) hm hg
    refine ⟨.agg out, ?_, .agg cs out hok.1 hok.2.1 hok.2.2⟩
    have hpl : (fun i => pl[i]?) = placeL T fs := by funext i; rw [h2, hgs]
    simp [Instr.build, run_zero hte, run_underlying hd, Array.mapM_eq_mapM_toList, h1, hpl, ho]
   ·exact h.elim
  ·rename_i n el hel
   rw [hel] at hof
   have := TI.of_arr hof; subst this
   split at h
   ·rename_i e' he'
    obtain ⟨cs, hk, _, hrest⟩ := fillK_spec _ _ _ h
    refine ⟨_, hk, fun E w vs hr hm hg => ?_⟩
    obtain ⟨out, ho, hok⟩ := hrest E w _ vs hr (zeroL_ok hte E w) hm hg
    refine ⟨.agg out, ?_, .agg cs out hok.1 hok.2.1 hok.2.2⟩
    simp [Instr.build, run_zero hte, run_underlying hd, run_size (hT _ _ he'), ho]
   ·exact h.elim
  ·exact h.elim
 ·exact h.elim
end
end Go.RX
