/- RX, part j: operations that make or change the call's own blocks. -/
import Derived.Test.YtljecfgfbebjiaaRXi
import Derived.Laws.AppendOwn
import Derived.Laws.MakeOwn
import Derived.Laws.OwnMore
import Derived.Laws.CopyRow
set_option linter.unusedVariables false
namespace Go.RX

def Does (P : Program) (H : Heap) (ρ : Operand → LV) (o : Oper) (lv : LV) (H' : Heap) : Prop :=
 ∀ (E : Env) (w : World) (a : Act), RelH E H w → (∀ x, G E w (ρ x) (a.eval x)) →
  ∃ v w' E', ((execOp a.eval o).run P w = .ok (.value v) w' ∨ ((execOp a.eval o).run P w = .ok .skip w' ∧ v = undef)) ∧ RelH E' H' w' ∧ G E' w' lv v ∧ Ext E w E' w'

section
variable {P : Program} {T : List (Nat × TE)} {H : Heap} {K : LV → Heap → Prop}

def boxK (T : List (Nat × TE)) (H : Heap) (t : Nat) (v : LV) (K : LV → Heap → Prop) : Prop :=
 match tyq T t with
 | some e => cellsK H v fun cs => match Nat.beq cs.length e.size with
  | true => K (.ptr H.nx 0 0) ⟨H.nx + 1, (H.nx, .row t e.size [cs]) :: H.live⟩
  | false => False
 | none => False

theorem relH_newx {E : Env} {H : Heap} {w w0 : World} (hr : RelH E H w) (xo : Option Nat) (e sz : Nat) (es : List (List LV)) (arr : Array Value)
  (h0 : w0.heap = w.heap) (hos : w0.os = w.os) (hout : w0.output = w.output) (htape : w0.tape = w.tape)
  (hle : es.length * sz ≤ arr.size) (h1 : ∀ i, i < es.length * sz → (arr.getD i undef).oneCell' = true)
  (hg : ∀ (i : Nat) (cs : List LV), es[i]? = some cs → cs.length = sz ∧ ∀ j y, cs[j]? = some y → G E w y (arr.getD (i * sz + j) undef)) :
  ∃ E', RelH E' ⟨H.nx + 1, (H.nx, .row e sz es) :: rmo xo H.live⟩ (w0.alloc (.cells arr e)) ∧ Ext E w E' (w0.alloc (.cells arr e)) ∧ E'.φ H.nx = some (some w.heap.size, sz) := by
 have hpush : (w0.alloc (.cells arr e)).heap = w.heap.push (.cells arr e) := by simp [World.alloc, h0]
 refine relH_bind hr xo w.heap.size e sz es arr (by rw [hpush]; simp) (.inl (Nat.le_refl _)) (by rw [hpush]; simp) ?_ ?_ ?_ hos hout htape hle h1 hg
 ·intro j hj hne
  rw [hpush, Array.getElem?_push]
  simp [Nat.ne_of_lt hj]
 ·intro a t fr h
  simp at h
 ·intro a c h
  simp at h
theorem relH_new {E : Env} {H : Heap} {w w0 : World} (hr : RelH E H w) (e sz : Nat) (es : List (List LV)) (arr : Array Value)
  (h0 : w0.heap = w.heap) (hos : w0.os = w.os) (hout : w0.output = w.output) (htape : w0.tape = w.tape)
  (hle : es.length * sz ≤ arr.size) (h1 : ∀ i, i < es.length * sz → (arr.getD i undef).oneCell' = true)
  (hg : ∀ (i : Nat) (cs : List LV), es[i]? = some cs → cs.length = sz ∧ ∀ j y, cs[j]? = some y → G E w y (arr.getD (i * sz + j) undef)) :
  ∃ E', RelH E' ⟨H.nx + 1, (H.nx, .row e sz es) :: H.live⟩ (w0.alloc (.cells arr e)) ∧ Ext E w E' (w0.alloc (.cells arr e)) ∧ E'.φ H.nx = some (some w.heap.size, sz) :=
 relH_newx hr none e sz es arr h0 hos hout htape hle h1 hg

theorem boxK_spec (hT : TOk P T) {t : Nat} {v : LV} (h : boxK T H t v K) :
  ∃ lv H', K lv H' ∧ ∀ (E : Env) (w : World) (u : Value), RelH E H w → G E w v u → ∃ x w' E', (Instr.box t u).run P w = .ok x w' ∧ RelH E' H' w' ∧ G E' w' lv x ∧ Ext E w E' w' := by
 unfold boxK at h
 split at h
 ·rename_i e he
  obtain ⟨cs, hcs, hG⟩ := cellsK_spec h
  split at hcs
  ·rename_i hb
   have hsz := Nat.eq_of_beq_eq_true hb
   refine ⟨_, _, hcs, fun E w u hr hu => ?_⟩
   obtain ⟨h1, h2, h3⟩ := hG E w u hr hu
   obtain ⟨E', hr', hx', hφ⟩ := relH_new hr t e.size [cs] u.cells rfl rfl rfl rfl (by simp [h1, hsz]) (fun i hi => h2 i (by rw [h1, hsz]; simpa using hi)) (fun i c hi => by
    cases i with
    | zero =>
     simp only [List.getElem?_cons_zero, Option.some.injEq] at hi; subst hi
     exact ⟨hsz, fun j y hj => by simpa using h3 j y hj⟩
    | succ i => simp at hi)
   refine ⟨_, _, E', ?_, hr', .ptr H.nx 0 0 w.heap.size e.size hφ, hx'⟩
   simp [Instr.box, newVar, newRow]
  ·exact hcs.elim
 ·exact h.elim

def allocK (T : List (Nat × TE)) (H : Heap) (t : Nat) (K : LV → Heap → Prop) : Prop :=
 match tyq T t with
 | some e => K (.ptr H.nx 0 0) ⟨H.nx + 1, (H.nx, .row t e.size [zeroL e.zero]) :: H.live⟩
 | none => False

theorem allocK_spec (hT : TOk P T) {t : Nat} (h : allocK T H t K) :
  ∃ lv H', K lv H' ∧ ∀ (E : Env) (w : World), RelH E H w → ∃ x w' E', (Instr.alloc t true (.tuple #[])).run P w = .ok x w' ∧ RelH E' H' w' ∧ G E' w' lv x ∧ Ext E w E' w' := by
 unfold allocK at h
 split at h
 ·rename_i e he
  have hte := hT _ _ he
  refine ⟨_, _, h, fun E w hr => ?_⟩
  have hz := zeroL_ok hte E w
  have hl : (zeroL e.zero).length = e.size := by rw [← hz.1, hte.zsize]
  obtain ⟨E', hr', hx', hφ⟩ := relH_new hr t e.size [zeroL e.zero] e.zero.cells rfl rfl rfl rfl (by simp [hte.zsize]) (fun i hi => hz.2.1 i (by rw [hte.zsize]; simpa using hi)) (fun i c hi => by
    cases i with
    | zero =>
     simp only [List.getElem?_cons_zero, Option.some.injEq] at hi; subst hi
     exact ⟨hl, fun j y hj => by simpa using hz.2.2 j y hj⟩
    | succ i => simp at hi)
  refine ⟨_, _, E', ?_, hr', .ptr H.nx 0 0 w.heap.size e.size hφ, hx'⟩
  simp [Instr.alloc, run_zero hte, newVar, newRow]
 ·exact h.elim

def tk : Nat → List LV → List LV
 | 0, _ => []
 | n + 1, c :: r => c :: tk n r
 | _ + 1, [] => []
theorem tk_eq : ∀ (n : Nat) (l : List LV), tk n l = l.take n
 | 0, l => by simp [tk]
 | n + 1, [] => by simp [tk]
 | n + 1, c :: r => by simp [tk, tk_eq n r]
theorem dropN_eq : ∀ (n : Nat) (l : List LV), dropN n l = l.drop n
 | 0, l => by simp [dropN]
 | n + 1, [] => by simp [dropN]
 | n + 1, c :: r => by simp [dropN, dropN_eq n r]

def chunk (sz : Nat) : Nat → List LV → List (List LV)
 | 0, _ => []
 | n + 1, cs => tk sz cs :: chunk sz n (dropN sz cs)
theorem chunk_length (sz : Nat) : ∀ (n : Nat) (cs : List LV), (chunk sz n cs).length = n
 | 0, _ => rfl
 | n + 1, cs => by simp [chunk, chunk_length sz n]
theorem chunk_get (sz : Nat) : ∀ (n : Nat) (cs : List LV) (i : Nat) (c : List LV), (chunk sz n cs)[i]? = some c → c = (cs.drop (i * sz)).take sz
 | 0, _, i, c, h => by simp [chunk] at h
 | n + 1, cs, 0, c, h => by simp [chunk, tk_eq] at h; simp [h]
 | n + 1, cs, i + 1, c, h => by
  simp only [chunk, List.getElem?_cons_succ] at h
  rw [chunk_get sz n _ i c h, dropN_eq, List.drop_drop, Nat.succ_mul, Nat.add_comm]

def repL (n : Nat) (z : List LV) : List LV := match n with
 | 0 => []
 | n + 1 => z ++ repL n z
theorem repL_length (z : List LV) : ∀ n, (repL n z).length = n * z.length
 | 0 => by simp [repL]
 | n + 1 => by simp [repL, repL_length z n, Nat.succ_mul, Nat.add_comm]
theorem repL_get (z : List LV) : ∀ (n i : Nat) (x : LV), (repL n z)[i]? = some x → z[i % z.length]? = some x
 | 0, i, x, h => by simp [repL] at h
 | n + 1, i, x, h => by
  simp only [repL] at h
  rw [List.getElem?_append] at h
  split at h
  ·rename_i hi; rw [Nat.mod_eq_of_lt hi]; exact h
  ·rename_i hi
   have := repL_get z n _ x h
   rwa [Nat.mod_eq_sub_mod (by omega)]

def buildSK (T : List (Nat × TE)) (H : Heap) (t len : Nat) (ps : List (Nat × LV)) (K : LV → Heap → Prop) : Prop :=
 match tyq T t with
 | some e => match e.u with
  | .slice el => match tyq T el with
   | some e' => match Nat.ble (len * e'.size) 16777216 with
    | true => match Nat.ble 1 e'.size with
     | true => fillK H (fun i => some (i * e'.size, e'.size)) (repL len (zeroL e'.zero)) ps fun cs => K (.sl H.nx 0 len) ⟨H.nx + 1, (H.nx, .row el e'.size (chunk e'.size len cs)) :: H.live⟩
     | false => False
    | false => False
   | none => False
  | _ => False
 | none => False

theorem buildSK_spec (hT : TOk P T) {t len : Nat} {ps : List (Nat × LV)} (h : buildSK T H t len ps K) :
  ∃ lv H', K lv H' ∧ ∀ (E : Env) (w : World) (vs : List (Nat × Value)), RelH E H w → vs.map (·.1) = ps.map (·.1) →
   (∀ (i : Nat) (p : Nat × LV) (v : Nat × Value), ps[i]? = some p → vs[i]? = some v → G E w p.2 v.2) →
   ∃ x w' E', (Instr.buildSlice t len vs.toArray).run P w = .ok x w' ∧ RelH E' H' w' ∧ G E' w' lv x ∧ Ext E w E' w' := by
 unfold buildSK at h
 split at h
 ·rename_i e he
  obtain ⟨d, hd, hof⟩ := (hT _ _ he).desc
  split at h
  ·rename_i el hel
   rw [hel] at hof
   have := TI.of_slice hof; subst this
   split at h
   ·rename_i e' he'
    have hte := hT _ _ he'
    split at h
    ·rename_i hble
     have hble' := Nat.le_of_ble_eq_true hble
     split at h
     ·rename_i hpos
      have hpos' := Nat.le_of_ble_eq_true hpos
      obtain ⟨cs, hk, hlen, hrest⟩ := fillK_spec _ _ _ h
      refine ⟨_, _, hk, fun E w vs hr hm hg => ?_⟩
      have hz := zeroL_ok hte E w
      have hzl : (zeroL e'.zero).length = e'.size := by rw [← hz.1, hte.zsize]
      have hcells : CsOk E w (repL len (zeroL e'.zero)) ((Array.range (len * e'.size)).map (e'.zero.cells[· % e'.zero.cells.size]!)) := by
       have hget : ∀ i, i < len * e'.size → ((Array.range (len * e'.size)).map (e'.zero.cells[· % e'.zero.cells.size]!)).getD i undef = e'.zero.cells.getD (i % e'.size) undef := by
        intro i hi
        have hm' : i % e'.size < e'.size := Nat.mod_lt _ (by omega)
        have hm2 : i % e'.size < e'.zero.cells.size := by rw [hte.zsize]; exact hm'
        simp [Array.getD, hi, hte.zsize, hm']
       refine ⟨by simp [repL_length, hzl], fun i hi => ?_, fun i x hx => ?_⟩
       ·have hi' : i < len * e'.size := by simpa using hi
        rw [hget i hi']
        exact hz.2.1 _ (by rw [hte.zsize]; exact Nat.mod_lt _ (by omega))
       ·have hi' : i < len * e'.size := by
         have := (List.getElem?_eq_some_iff.1 hx).1
         rwa [repL_length, hzl] at this
        rw [hget i hi']
        have := repL_get _ _ _ _ hx
        rw [hzl] at this
        exact hz.2.2 _ x this
      obtain ⟨out, ho, hok⟩ := hrest E w _ vs hr hcells hm hg
      have hcl : cs.length = len * e'.size := by rw [hlen, repL_length, hzl]
      obtain ⟨E', hr', hx', hφ⟩ := relH_new hr el e'.size (chunk e'.size len cs) out rfl rfl rfl rfl (by rw [chunk_length, hok.1, hcl]; exact Nat.le_refl _)
       (fun i hi => hok.2.1 i (by rw [chunk_length] at hi; rw [hok.1, hcl]; exact hi)) (fun i c hi => by
        have hil : i < len := by
         have := (List.getElem?_eq_some_iff.1 hi).1
         rwa [chunk_length] at this
        have hc := chunk_get _ _ _ _ _ hi
        have hle : i * e'.size + e'.size ≤ len * e'.size := by rw [← Nat.succ_mul]; exact Nat.mul_le_mul_right _ hil
        refine ⟨by rw [hc]; simp [hcl]; omega, fun j y hj => ?_⟩
        rw [hc, List.getElem?_take] at hj
        split at hj
        ·rw [List.getElem?_drop] at hj
         exact hok.2.2 _ y hj
        ·cases hj)
      have hos : out.size = len * e'.size := by rw [hok.1, hcl]
      refine ⟨.slice (some ⟨w.heap.size, 0, none⟩) len len, _, E', ?_, hr', ?_, hx'⟩
      ·have hgt : ¬ (16777216 < len * e'.size) := by omega
       by_cases h0 : len * e'.size = 0
       ·have hl0 : len = 0 := by
         rcases Nat.mul_eq_zero.1 h0 with h | h
         ·exact h
         ·omega
        subst hl0
        have hf : Instr.fill (fun i => some (i * e'.size, e'.size)) #[] vs = some out := by
         have := ho
         rw [show 0 * e'.size = 0 by omega, show Array.range 0 = #[] from rfl] at this
         simpa using this
        have hz0 : Array.range 0 = #[] := rfl
        simp [Instr.buildSlice, run_underlying hd, run_size hte, hz0, hf, newRow]
       ·have hf : Instr.fill (fun i => some (i * e'.size, e'.size)) (Array.map (fun x => e'.zero.cells[x % e'.zero.cells.size]!) (Array.range (len * e'.size))) vs = some out := ho
        simp [Instr.buildSlice, run_underlying hd, run_size hte, run_zero hte, hgt, h0, hf, newRow]
      ·have := G.sl (E := E') (w := w.alloc (.cells out el)) H.nx 0 len len w.heap.size e'.size out el (0, 0) hφ (Nat.le_refl _) (by simp only [maxLen]; have := Nat.le_mul_of_pos_right len hpos'; omega) (heap_alloc_new w _) (by rw [hos]; simp)
       simpa using this
     ·exact h.elim
    ·exact h.elim
   ·exact h.elim
  ·exact h.elim
 ·exact h.elim
end
end Go.RX
