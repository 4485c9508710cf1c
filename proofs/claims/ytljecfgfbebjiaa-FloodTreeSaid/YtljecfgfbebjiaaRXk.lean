/- RX, part k: stores, appends, make; all of them as one. -/
import Derived.Test.YtljecfgfbebjiaaRXj
set_option linter.unusedVariables false
namespace Go.RX

section
variable {P : Program} {T : List (Nat × TE)} {H : Heap} {K : LV → Heap → Prop}

def setN {α : Type} : List α → Nat → α → List α
 | [], _, _ => []
 | _ :: r, 0, b => b :: r
 | a :: r, n + 1, b => a :: setN r n b
theorem setN_eq {α : Type} : ∀ (l : List α) (n : Nat) (b : α), setN l n b = l.set n b
 | [], _, _ => by simp [setN]
 | _ :: r, 0, b => by simp [setN]
 | a :: r, n + 1, b => by simp [setN, setN_eq r n b]

def storeK (T : List (Nat × TE)) (H : Heap) (t : Nat) (a v : LV) (K : LV → Heap → Prop) : Prop :=
 match tyq T t with
 | some e => match a with
  | .ptr x i o => match look H.live x with
   | some (.row e0 sz es) => match nth es i with
    | some cs => cellsK H v fun vs => match Nat.beq vs.length e.size with
     | true => match Nat.ble (o + e.size) cs.length with
      | true => K .und ⟨H.nx, upd x (.row e0 sz (setN es i (setL cs o vs))) H.live⟩
      | false => False
     | false => False
    | none => False
   | _ => False
  | _ => False
 | none => False

theorem storeK_spec (hT : TOk P T) {t : Nat} {a v : LV} (h : storeK T H t a v K) :
  ∃ lv H', K lv H' ∧ ∀ (E : Env) (w : World) (u x : Value), RelH E H w → G E w a u → G E w v x →
   ∃ w' E', (Instr.storeAt t u x).run P w = .ok () w' ∧ RelH E' H' w' ∧ G E' w' lv undef ∧ Ext E w E' w' := by
 unfold storeK at h
 split at h
 ·rename_i e he
  have hte := hT _ _ he
  split at h
  ·rename_i x i o
   split at h
   ·rename_i e0 sz es hl
    split at h
    ·rename_i cs hn
     rw [nth_eq] at hn
     obtain ⟨vs, hvs, hG⟩ := cellsK_spec h
     split at hvs
     ·rename_i hb
      have hvl := Nat.eq_of_beq_eq_true hb
      split at hvs
      ·rename_i hble
       have hfit := Nat.le_of_ble_eq_true hble
       refine ⟨_, _, hvs, fun E w u xv hr hu hx => ?_⟩
       rcases hr.row x e0 sz es hl with ⟨_, hnil⟩ | ⟨k, arr, hφ, hh, hle, h1, hg⟩
       ·rw [hnil] at hn; simp at hn
       cases hu with
       | ptrDead _ _ _ _ hd _ => rw [hφ] at hd; cases hd
       | ptr _ _ _ k' sz' h2 =>
        rw [hφ] at h2
        obtain ⟨hkk, rfl⟩ := Prod.mk.inj (Option.some.inj h2)
        cases hkk
        obtain ⟨g1, g2, g3⟩ := hG E w xv hr hx
        obtain ⟨hcl, hgc⟩ := hg i cs hn
        have hil : i < es.length := (List.getElem?_eq_some_iff.1 hn).1
        have hbd : i * sz + sz ≤ es.length * sz := by rw [← Nat.succ_mul]; exact Nat.mul_le_mul_right _ hil
        have hst := run_storeCells_at P k (i * sz + o) e0 xv.cells.toList 0 arr w hh (by simp [g1]; omega) (fun u hu => by
         obtain ⟨n, hn', hnu⟩ := List.getElem_of_mem hu
         have hn2 : n < xv.cells.size := by simpa using hn'
         have := g2 n hn2
         simp only [Array.getElem_toList] at hnu
         simpa [Array.getD, hn2, hnu] using this)
        have hsz2 : xv.cells.size = e.size := by rw [g1, hvl]
        have hrun : (Instr.storeAt t (.pointer (some ⟨k, i * sz + o, none⟩)) xv).run P w = .ok () (w.setRow k (arr.toList.take (i * sz + o) ++ xv.cells.toList ++ arr.toList.drop (i * sz + o + xv.cells.toList.length)).toArray) := by
         simp only [Instr.storeAt, Instr.sureAddr, storeVar, Sem.run_bind, Sem.run_pure, Result.andThen_ok, run_size hte, hsz2]
         simpa using hst
        generalize harr' : (arr.toList.take (i * sz + o) ++ xv.cells.toList ++ arr.toList.drop (i * sz + o + xv.cells.toList.length)).toArray = arr' at hrun
        have hget : ∀ j, arr'.getD j undef = if i * sz + o ≤ j ∧ j < i * sz + o + e.size then xv.cells.getD (j - (i * sz + o)) undef else arr.getD j undef := by
         intro j
         rw [← harr']
         simp only [Array.getD_eq_getD_getElem?, List.getElem?_toArray, List.append_assoc]
         have hlen : (arr.toList.take (i * sz + o)).length = i * sz + o := by simp; omega
         rw [List.getElem?_append, hlen]
         by_cases hj : j < i * sz + o
         ·rw [if_pos hj, if_neg (by omega), List.getElem?_take, if_pos hj]; simp
         ·rw [if_neg hj, List.getElem?_append]
          have hxl : xv.cells.toList.length = e.size := by simp [hsz2]
          rw [hxl]
          by_cases hj2 : j - (i * sz + o) < e.size
          ·rw [if_pos hj2, if_pos (by omega)]; simp
          ·rw [if_neg hj2, if_neg (by omega), List.getElem?_drop]
           rw [show i * sz + o + e.size + (j - (i * sz + o) - e.size) = j by omega]
           simp
        have hsize : arr'.size = arr.size := by
         rw [← harr']; simp [hsz2]; omega
        obtain ⟨hr', hx'⟩ := relH_store (es' := setN es i (setL cs o vs)) (w' := w.setRow k arr') hr hl hφ hh (setRow_heap w k _ _ _ _ hh) hsize (by simp) (fun j hj hne => setRow_other w k j _ hne) rfl rfl rfl
         (by rw [setN_eq, List.length_set, hsize]; exact hle)
         (fun j hj => by
          rw [setN_eq, List.length_set] at hj
          rw [hget]
          split
          ·exact g2 _ (by rw [hsz2]; omega)
          ·exact h1 j hj)
         (fun q c hq => by
          rw [setN_eq, List.getElem?_set] at hq
          split at hq
          ·rename_i hqi
           subst hqi
           simp only [Option.some.injEq] at hq; subst hq
           refine ⟨by rw [setL_length]; exact hcl, fun j y hj => ?_⟩
           have hjl : j < cs.length := by
            have := (List.getElem?_eq_some_iff.1 hj).1
            rwa [setL_length] at this
           rw [setL_get _ _ _ _ hjl] at hj
           rw [hget]
           split at hj
           ·rename_i hin
            rw [if_pos (by omega)]
            have := g3 (j - o) y hj
            rwa [show i * sz + j - (i * sz + o) = j - o by omega]
           ·rename_i hout
            rw [if_neg (by omega)]
            exact hgc j y hj
          ·rename_i hqi
           obtain ⟨h3, h4⟩ := hg q c hq
           refine ⟨h3, fun j y hj => ?_⟩
           have hjl : j < sz := by rw [← h3]; exact (List.getElem?_eq_some_iff.1 hj).1
           rw [hget, if_neg ?_]
           ·exact h4 j y hj
           ·intro ⟨ha, hb⟩
            rcases Nat.lt_or_gt_of_ne (Ne.symm hqi) with hlt | hgt
            ·have : (q + 1) * sz ≤ i * sz := Nat.mul_le_mul_right _ hlt
             rw [Nat.succ_mul] at this; omega
            ·have : (i + 1) * sz ≤ q * sz := Nat.mul_le_mul_right _ hgt
             rw [Nat.succ_mul] at this; omega)
        exact ⟨_, E, hrun, hr', .und, hx'⟩
      ·exact hvs.elim
     ·exact hvs.elim
    ·exact h.elim
   ·exact h.elim
  ·exact h.elim
 ·exact h.elim

def srcK (H : Heap) (sz : Nat) (x : LV) (k : List (List LV) → Prop) : Prop :=
 match x with
 | .ro s xs => match Nat.beq s sz with
  | true => k xs
  | false => False
 | .nils => k []
 | .sl y off len => match look H.live y with
  | some (.row _ s es) => match Nat.beq s sz with
   | true => match off with
    | 0 => len = es.length ∧ k es
    | _ + 1 => False
   | false => False
  | _ => False
 | _ => False

theorem srcK_spec {sz : Nat} (hpos : 0 < sz) {x : LV} {k : List (List LV) → Prop} (h : srcK H sz x k) :
  ∃ ys, k ys ∧ ∀ (E : Env) (w : World) (v : Value), RelH E H w → G E w x v → (v = .slice none 0 0 ∧ ys = []) ∨
   ∃ (a : Addr) (c : Nat) (news : List Value), v = .slice (some a) ys.length c ∧ news.length = ys.length * sz ∧ (∀ j u, news[j]? = some u → w.cell? (a.add j) = some u) ∧ (∀ u ∈ news, u.oneCell' = true) ∧
    ∀ (i : Nat) (cs : List LV), ys[i]? = some cs → cs.length = sz ∧ ∀ j y, cs[j]? = some y → G E w y (news.getD (i * sz + j) undef) := by
 unfold srcK at h
 split at h
 ·rename_i s xs
  split at h
  ·rename_i hb
   have hs := Nat.eq_of_beq_eq_true hb
   subst hs
   refine ⟨xs, h, fun E w v hr hv => ?_⟩
   cases hv with
   | roNil => exact .inl ⟨rfl, rfl⟩
   | roZ _ a => exact .inr ⟨a, 0, [], rfl, by simp, fun j u hj => by simp at hj, fun u hu => (by cases hu), fun i cs hi => by simp at hi⟩
   | ro _ _ b off cap f hok hbl hcap hsz hnl hc hone hg =>
    refine .inr ⟨_, _, (List.range (xs.length * s)).map (fun q => f (q / s) (q % s)), rfl, by simp, ?_, ?_, ?_⟩
    ·intro j u hj
     simp only [List.getElem?_map, Option.map_eq_some_iff] at hj
     obtain ⟨q, hq, rfl⟩ := hj
     have hlt : j < xs.length * s := by
      have := (List.getElem?_eq_some_iff.1 hq).1
      simpa using this
     rw [List.getElem?_range hlt] at hq
     obtain rfl : j = q := Option.some.inj hq
     have h1 : j / s < xs.length := Nat.div_lt_of_lt_mul (by rw [Nat.mul_comm]; exact hlt)
     have := hc (j / s) (j % s) h1 (Nat.mod_lt _ hpos)
     rw [addr_add]
     have e : off + j / s * s + j % s = off + j := by have := Nat.div_add_mod' j s; omega
     rwa [e] at this
    ·intro u hu
     simp only [List.mem_map] at hu
     obtain ⟨q, _, rfl⟩ := hu
     exact hone _ _
    ·intro i cs hi
     refine ⟨hsz i cs hi, fun j y hj => ?_⟩
     have hjl : j < s := by rw [← hsz i cs hi]; exact (List.getElem?_eq_some_iff.1 hj).1
     have hil : i < xs.length := (List.getElem?_eq_some_iff.1 hi).1
     have hlt : i * s + j < xs.length * s := by
      have : (i + 1) * s ≤ xs.length * s := Nat.mul_le_mul_right _ hil
      rw [Nat.succ_mul] at this; omega
     have e1 : (i * s + j) / s = i := by rw [Nat.mul_comm, Nat.mul_add_div hpos, Nat.div_eq_of_lt hjl]; rfl
     have e2 : (i * s + j) % s = j := by rw [Nat.mul_comm, Nat.mul_add_mod, Nat.mod_eq_of_lt hjl]
     simp only [List.getD_eq_getElem?_getD, List.getElem?_map, List.getElem?_range hlt, Option.map_some, Option.getD_some, e1, e2]
     exact hg i cs j y hi hj
  ·exact h.elim
 ·refine ⟨[], h, fun E w v hr hv => ?_⟩
  cases hv
  exact .inl ⟨rfl, rfl⟩
 ·rename_i y off len
  split at h
  ·rename_i e0 s es hl
   split at h
   ·rename_i hb
    have hs := Nat.eq_of_beq_eq_true hb
    subst hs
    split at h
    ·obtain ⟨hlen, h⟩ := h
     refine ⟨es, h, fun E w v hr hv => ?_⟩
     rcases hr.row y e0 s es hl with ⟨hφ, rfl⟩ | ⟨k, arr, hφ, hh, hle, h1, hg⟩
     ·cases hv with
      | slDead _ _ _ _ hx _ => rw [hφ] at hx; cases hx
      | sl _ _ _ _ _ _ _ _ _ hx => rw [hφ] at hx; cases hx
      | slV => exact .inl ⟨rfl, rfl⟩
     ·cases hv with
      | slDead _ _ _ _ hx _ => rw [hφ] at hx; cases hx
      | slV _ _ hx => rw [hφ] at hx; cases hx
      | sl _ _ _ cap k' s' arr' t fr hx hlc hcm hk hcap =>
       subst hlen
       rw [hφ] at hx
       obtain ⟨hkk, rfl⟩ := Prod.mk.inj (Option.some.inj hx)
       cases hkk
       rw [hh] at hk; cases hk
       refine .inr ⟨_, _, arr.toList.take (es.length * s), rfl, by simp; omega, ?_, ?_, ?_⟩
       ·intro j u hj
        rw [List.getElem?_take] at hj
        split at hj
        ·have hj' : arr[j]? = some u := by simpa using hj
         rw [addr_add]
         simp [World.cell?, hh, hj']
        ·cases hj
       ·intro u hu
        obtain ⟨n, hn, hnu⟩ := List.getElem_of_mem hu
        have hn1 : n < es.length * s := by simp at hn; omega
        have hn2 : n < arr.size := by omega
        have := h1 n hn1
        simp only [List.getElem_take, Array.getElem_toList] at hnu
        simpa [Array.getD, hn2, hnu] using this
       ·intro i cs hi
        refine ⟨(hg i cs hi).1, fun j y hj => ?_⟩
        have hjl : j < s := by rw [← (hg i cs hi).1]; exact (List.getElem?_eq_some_iff.1 hj).1
        have hil : i < es.length := (List.getElem?_eq_some_iff.1 hi).1
        have hlt : i * s + j < es.length * s := by
         have : (i + 1) * s ≤ es.length * s := Nat.mul_le_mul_right _ hil
         rw [Nat.succ_mul] at this; omega
        have := (hg i cs hi).2 j y hj
        rw [Array.getD_eq_getD_getElem?] at this
        simpa [List.getD_eq_getElem?_getD, List.getElem?_take, hlt] using this
    ·exact h.elim
   ·exact h.elim
  ·exact h.elim
 ·exact h.elim

def fits (n bytes : Nat) : Prop := n ≤ 140737488355328 ∧ n * bytes ≤ 140737488355328

def appK (T : List (Nat × TE)) (H : Heap) (t : Nat) (s x : LV) (K : LV → Heap → Prop) : Prop :=
 match tyq T t with
 | some e => match e.u with
  | .slice el => match tyq T el with
   | some e' => match Nat.ble 1 e'.size with
    | true => srcK H e'.size x fun ys => match s with
     | .nils => fits ys.length e'.bytes ∧ K (.sl H.nx 0 ys.length) ⟨H.nx + 1, (H.nx, .row el e'.size ys) :: H.live⟩
     | .sl y off len => match look H.live y with
      | some (.row e0 sz0 es) => match Nat.beq e0 el, Nat.beq sz0 e'.size, off with
       | true, true, 0 => len = es.length ∧ fits (es ++ ys).length e'.bytes ∧ K (.sl H.nx 0 (es ++ ys).length) ⟨H.nx + 1, (H.nx, .row el e'.size (es ++ ys)) :: rm y H.live⟩
       | _, _, _ => False
      | _ => False
     | _ => False
    | false => False
   | none => False
  | _ => False
 | none => False


theorem sl_real {E : Env} {w : World} {y e0 s : Nat} {es : List (List LV)} {len : Nat} {v : Value} (hr : RelH E H w) (hl : look H.live y = some (.row e0 s es)) (hv : G E w (.sl y 0 len) v) :
  (v = .slice none 0 0 ∧ es = [] ∧ len = 0) ∨ ∃ k arr cap, v = .slice (some ⟨k, 0, none⟩) len cap ∧ E.φ y = some (some k, s) ∧ w.heap[k]? = some (.cells arr e0 (0, 0)) ∧ len ≤ cap ∧ cap ≤ maxLen ∧ cap * s ≤ arr.size ∧
   es.length * s ≤ arr.size ∧ (∀ i, i < es.length * s → (arr.getD i undef).oneCell' = true) ∧
   ∀ (i : Nat) (cs : List LV), es[i]? = some cs → cs.length = s ∧ ∀ j y, cs[j]? = some y → G E w y (arr.getD (i * s + j) undef) := by
 rcases hr.row y e0 s es hl with ⟨hφ, rfl⟩ | ⟨k, arr, hφ, hh, hle, h1, hg⟩
 ·cases hv with
  | slDead _ _ _ _ hx _ => rw [hφ] at hx; cases hx
  | sl _ _ _ _ _ _ _ _ _ hx => rw [hφ] at hx; cases hx
  | slV => exact .inl ⟨rfl, rfl, rfl⟩
 ·cases hv with
  | slDead _ _ _ _ hx _ => rw [hφ] at hx; cases hx
  | slV _ _ hx => rw [hφ] at hx; cases hx
  | sl _ _ _ cap k' s' arr' t fr hx hlc hcm hk hcap =>
   rw [hφ] at hx
   obtain ⟨hkk, rfl⟩ := Prod.mk.inj (Option.some.inj hx)
   cases hkk
   rw [hh] at hk; cases hk
   refine .inr ⟨k, arr, cap, by simp, hφ, hh, hlc, hcm, by simpa using hcap, hle, h1, hg⟩

theorem app_rows {E : Env} {w : World} {s : Nat} {es ys : List (List LV)} {pre : List Value} {news post : List Value} (hpre : pre.length = es.length * s)
  (h1 : ∀ (i : Nat) (cs : List LV), es[i]? = some cs → cs.length = s ∧ ∀ j y, cs[j]? = some y → G E w y (pre.getD (i * s + j) undef))
  (hnl : news.length = ys.length * s) (h2 : ∀ (i : Nat) (cs : List LV), ys[i]? = some cs → cs.length = s ∧ ∀ j y, cs[j]? = some y → G E w y (news.getD (i * s + j) undef)) :
  ∀ (i : Nat) (cs : List LV), (es ++ ys)[i]? = some cs → cs.length = s ∧ ∀ j y, cs[j]? = some y → G E w y ((pre ++ news ++ post).toArray.getD (i * s + j) undef) := by
 intro i cs hi
 rw [List.getElem?_append] at hi
 split at hi
 ·rename_i hlt
  refine ⟨(h1 i cs hi).1, fun j y hj => ?_⟩
  have := (h1 i cs hi).2 j y hj
  have hjl : j < s := by rw [← (h1 i cs hi).1]; exact (List.getElem?_eq_some_iff.1 hj).1
  have hb : i * s + j < pre.length := by
   have : (i + 1) * s ≤ es.length * s := Nat.mul_le_mul_right _ hlt
   rw [Nat.succ_mul] at this; omega
  simp only [Array.getD_eq_getD_getElem?, List.getElem?_toArray, List.append_assoc]
  rw [List.getElem?_append_left hb]
  simpa [List.getD_eq_getElem?_getD] using this
 ·rename_i hge
  refine ⟨(h2 _ cs hi).1, fun j y hj => ?_⟩
  have := (h2 _ cs hi).2 j y hj
  have hjl : j < s := by rw [← (h2 _ cs hi).1]; exact (List.getElem?_eq_some_iff.1 hj).1
  have hil : i - es.length < ys.length := (List.getElem?_eq_some_iff.1 hi).1
  have hb1 : pre.length ≤ i * s + j := by
   have : es.length * s ≤ i * s := Nat.mul_le_mul_right _ (by omega)
   omega
  have he : i * s + j - pre.length = (i - es.length) * s + j := by
   rw [hpre, Nat.sub_mul]
   have : es.length * s ≤ i * s := Nat.mul_le_mul_right _ (by omega)
   omega
  have hb2 : (i - es.length) * s + j < news.length := by
   have : (i - es.length + 1) * s ≤ ys.length * s := Nat.mul_le_mul_right _ hil
   rw [Nat.succ_mul] at this; omega
  simp only [Array.getD_eq_getD_getElem?, List.getElem?_toArray, List.append_assoc]
  rw [List.getElem?_append_right hb1, he, List.getElem?_append_left hb2]
  simpa [List.getD_eq_getElem?_getD] using this

theorem appK_spec (hT : TOk P T) {t : Nat} {s x : LV} (h : appK T H t s x K) :
  ∃ lv H', K lv H' ∧ ∀ (E : Env) (w : World) (u v : Value) (ty : TypeId), RelH E H w → G E w s u → G E w x v →
   ∃ r w' E', (Builtin.append_ #[t, t] ty #[u, v]).run P w = .ok r w' ∧ RelH E' H' w' ∧ G E' w' lv r ∧ Ext E w E' w' := by
 unfold appK at h
 split at h
 ·rename_i e he
  obtain ⟨d, hd, hof⟩ := (hT _ _ he).desc
  split at h
  ·rename_i el hel
   rw [hel] at hof
   have := TI.of_slice hof; subst this
   split at h
   ·rename_i e' he'
    have hte := hT _ _ he'
    obtain ⟨info, hi, hiz, his, hib⟩ := hte.inf
    split at h
    ·rename_i hpos
     have hpos' := Nat.le_of_ble_eq_true hpos
     obtain ⟨ys, h, hsrc⟩ := srcK_spec (by omega) h
     -- a new row out of nothing
     have fresh : ∀ (xo : Option Nat) (E : Env) (w : World) (a : Addr) (c : Nat) (news : List Value) (ty : TypeId), RelH E H w → fits ys.length e'.bytes → news.length = ys.length * e'.size →
       (∀ j u, news[j]? = some u → w.cell? (a.add j) = some u) → (∀ u ∈ news, u.oneCell' = true) →
       (∀ (i : Nat) (cs : List LV), ys[i]? = some cs → cs.length = e'.size ∧ ∀ j y, cs[j]? = some y → G E w y (news.getD (i * e'.size + j) undef)) → 0 < ys.length →
       ∃ r w' E', (Builtin.append_ #[t, t] ty #[.slice none 0 0, .slice (some a) ys.length c]).run P w = .ok r w' ∧ RelH E' ⟨H.nx + 1, (H.nx, .row el e'.size ys) :: rmo xo H.live⟩ w' ∧ G E' w' (.sl H.nx 0 ys.length) r ∧ Ext E w E' w' := by
      intro xo E w a c news ty hr hfit hnl hcell hone hgy h0
      have hr1 := run_append_nil (P := P) w t ty el info e'.zero hd hi hiz a ys.length c news (by rw [his]; exact hnl) hcell h0 (by have := hfit.1; omega) (by rw [hib]; have := hfit.2; omega)
      have hge := grownCap_ge w ys.length 0 el
      have hcm : grownCap w ys.length 0 el ≤ maxLen := grownCap_le_maxLen w _ _ _ (by have := hfit.1; simp only [maxLen]; omega)
      have hrows := app_rows (E := E) (w := w) (s := e'.size) (es := []) (ys := ys) (pre := []) (post := (Builtin.zeroCells e'.zero.cells (grownCap w ys.length 0 el - ys.length)).toList) (by simp) (by simp) hnl hgy
      have harr : (news.toArray ++ Builtin.zeroCells e'.zero.cells (grownCap w ys.length 0 el - ys.length)) = ([] ++ news ++ (Builtin.zeroCells e'.zero.cells (grownCap w ys.length 0 el - ys.length)).toList).toArray := by
       apply Array.ext'; simp
      have hasz : (news.toArray ++ Builtin.zeroCells e'.zero.cells (grownCap w ys.length 0 el - ys.length)).size = grownCap w ys.length 0 el * e'.size := by
       simp only [Array.size_append, List.size_toArray, size_zeroCells, hte.zsize, hnl, ← Nat.add_mul]
       congr 1; omega
      obtain ⟨E', hr', hx', hφ⟩ := relH_newx (w0 := w.drew) hr xo el e'.size ys _ rfl rfl rfl rfl (by rw [hasz]; exact Nat.mul_le_mul_right _ hge) (fun i hi' => by
       rw [← hnl] at hi'
       have := hone news[i] (List.getElem_mem hi')
       rw [harr]
       simpa [Array.getD_eq_getD_getElem?, List.getElem?_append_left hi', hi'] using this) (by rw [harr]; simpa using hrows)
      refine ⟨_, _, E', hr1, hr', ?_, hx'⟩
      have := G.sl (E := E') (w := w.drew.alloc (.cells (news.toArray ++ Builtin.zeroCells e'.zero.cells (grownCap w ys.length 0 el - ys.length)) el)) H.nx 0 ys.length (grownCap w ys.length 0 el) w.heap.size e'.size _ el (0, 0) hφ hge hcm (heap_alloc_new w.drew _) (by rw [hasz]; simp)
      simpa using this
     have nilnil : ∀ (w : World) (ty : TypeId), (Builtin.append_ #[t, t] ty #[.slice none 0 0, .slice none 0 0]).run P w = .ok (.slice none 0 0) w := by
      intro w ty
      simp [Builtin.append_, run_underlying hd, run_size hte, Builtin.lenOf, Builtin.firstCells]
     have nilzero : ∀ (w : World) (ty : TypeId) (a : Addr) (c : Nat), (Builtin.append_ #[t, t] ty #[.slice none 0 0, .slice (some a) 0 c]).run P w = .ok (.slice none 0 0) w := by
      intro w ty a c
      simp [Builtin.append_, run_underlying hd, run_size hte, Builtin.lenOf, Builtin.firstCells, loadCells, loadCellsFrom]
     split at h
     ·obtain ⟨hfit, h⟩ := h
      refine ⟨_, _, h, fun E w u v ty hr hu hv => ?_⟩
      cases hu
      rcases hsrc E w v hr hv with ⟨rfl, rfl⟩ | ⟨a, c, news, rfl, hnl, hcell, hone, hgy⟩
      ·obtain ⟨E', hr', hx', hφ⟩ := relH_virt hr none el e'.size
       exact ⟨_, w, E', nilnil w ty, hr', .slV _ _ hφ, hx'⟩
      ·rcases Nat.eq_zero_or_pos ys.length with h0 | h0
       ·have hys := List.eq_nil_of_length_eq_zero h0
        subst hys
        obtain ⟨E', hr', hx', hφ⟩ := relH_virt hr none el e'.size
        exact ⟨_, w, E', nilzero w ty a c, hr', .slV _ _ hφ, hx'⟩
       ·exact fresh none E w a c news ty hr hfit hnl hcell hone hgy h0
     ·rename_i y off len _
      split at h
      ·rename_i e0 sz0 es hl
       split at h
       ·rename_i hb1 hb2 _
        have h1 := Nat.eq_of_beq_eq_true hb1
        have h2 := Nat.eq_of_beq_eq_true hb2
        subst h1; subst h2
        obtain ⟨hlen, hfit, h⟩ := h
        refine ⟨_, _, h, fun E w u v ty hr hu hv => ?_⟩
        rcases sl_real hr hl hu with ⟨rfl, rfl, rfl⟩ | ⟨k, arr, cap, rfl, hφ, hh, hlc, hcm, hcap, hle, hone0, hg0⟩
        ·rw [List.nil_append] at hfit ⊢
         rcases hsrc E w v hr hv with ⟨rfl, rfl⟩ | ⟨a, c, news, rfl, hnl, hcell, hone, hgy⟩
         ·obtain ⟨E', hr', hx', hφ⟩ := relH_virt hr (some y) e0 e'.size
          exact ⟨_, w, E', nilnil w ty, hr', .slV _ _ hφ, hx'⟩
         ·rcases Nat.eq_zero_or_pos ys.length with h0 | h0
          ·have hys := List.eq_nil_of_length_eq_zero h0
           subst hys
           obtain ⟨E', hr', hx', hφ⟩ := relH_virt hr (some y) e0 e'.size
           exact ⟨_, w, E', nilzero w ty a c, hr', .slV _ _ hφ, hx'⟩
          ·exact fresh (some y) E w a c news ty hr hfit hnl hcell hone hgy h0
        ·subst hlen
         have hpl : (arr.toList.take (es.length * e'.size)).length = es.length * e'.size := by simp; omega
         have hgp : ∀ (i : Nat) (cs : List LV), es[i]? = some cs → cs.length = e'.size ∧ ∀ j y, cs[j]? = some y → G E w y ((arr.toList.take (es.length * e'.size)).getD (i * e'.size + j) undef) := by
          intro i cs hi'
          refine ⟨(hg0 i cs hi').1, fun j y hj => ?_⟩
          have hjl : j < e'.size := by rw [← (hg0 i cs hi').1]; exact (List.getElem?_eq_some_iff.1 hj).1
          have hil : i < es.length := (List.getElem?_eq_some_iff.1 hi').1
          have hlt : i * e'.size + j < es.length * e'.size := by
           have : (i + 1) * e'.size ≤ es.length * e'.size := Nat.mul_le_mul_right _ hil
           rw [Nat.succ_mul] at this; omega
          have := (hg0 i cs hi').2 j y hj
          rw [Array.getD_eq_getD_getElem?] at this
          simpa [List.getD_eq_getElem?_getD, List.getElem?_take, hlt] using this
         rcases hsrc E w v hr hv with ⟨rfl, rfl⟩ | ⟨a, c, news, rfl, hnl, hcell, hone, hgy⟩
         ·-- nothing is appended
          rw [List.append_nil]
          have hrun : (Builtin.append_ #[t, t] ty #[.slice (some ⟨k, 0, none⟩) es.length cap, .slice none 0 0]).run P w = .ok (.slice (some ⟨k, 0, none⟩) es.length cap) w := by
           simp [Builtin.append_, run_underlying hd, run_size hte, Builtin.lenOf, Builtin.firstCells, hlc, storeCells]
          obtain ⟨E', hr', hx', hφ'⟩ := relH_bind (w' := w) hr (some y) k e0 e'.size es arr hh (.inr ⟨y, _, rfl, hφ⟩) (Nat.le_refl _) (fun _ _ _ => rfl) (fun a t fr h => by rw [hh] at h; cases h; exact ⟨rfl, rfl⟩) (fun a c h => by rw [hh] at h; cases h) rfl rfl rfl hle hone0 hg0
          refine ⟨_, w, E', hrun, hr', ?_, hx'⟩
          have := G.sl (E := E') (w := w) H.nx 0 es.length cap k e'.size arr e0 (0, 0) hφ' hlc hcm hh (by simpa using hcap)
          simpa using this
         ·have hfit1 := hfit.1
          have hfit2 := hfit.2
          rw [List.length_append] at hfit1 hfit2
          have hone' : ∀ (l : List Value) (i : Nat), (∀ u ∈ l, u.oneCell' = true) → i < l.length → (l.getD i undef).oneCell' = true := by
           intro l i hl hi
           have := hl l[i] (List.getElem_mem hi)
           simpa [List.getD_eq_getElem?_getD, hi] using this
          have honepre : ∀ u ∈ arr.toList.take (es.length * e'.size), u.oneCell' = true := by
           intro u hu
           obtain ⟨n, hn, hnu⟩ := List.getElem_of_mem hu
           have hn1 : n < es.length * e'.size := by simp at hn; omega
           have hn2 : n < arr.size := by omega
           have := hone0 n hn1
           simp only [List.getElem_take, Array.getElem_toList] at hnu
           simpa [Array.getD, hn2, hnu] using this
          have onecells : ∀ (post : List Value) (i : Nat), i < (es ++ ys).length * e'.size → ((arr.toList.take (es.length * e'.size) ++ news ++ post).toArray.getD i undef).oneCell' = true := by
           intro post i hi'
           rw [List.length_append, Nat.add_mul] at hi'
           have hlt : i < (arr.toList.take (es.length * e'.size) ++ news).length := by rw [List.length_append, hpl, hnl]; exact hi'
           have := hone' (arr.toList.take (es.length * e'.size) ++ news) i (fun u hu => by
            rcases List.mem_append.1 hu with h | h
            ·exact honepre u h
            ·exact hone u h) hlt
           rw [List.getD_eq_getElem?_getD] at this
           simp only [Array.getD_eq_getD_getElem?, List.getElem?_toArray]
           rwa [List.getElem?_append_left hlt]
          by_cases hroom : es.length + ys.length ≤ cap
          ·have hfitc : es.length * info.size + news.length ≤ arr.size := by rw [his, hnl, ← Nat.add_mul]; exact Nat.le_trans (Nat.mul_le_mul_right _ hroom) hcap
           have hr1 := run_append_room (P := P) w t ty e0 info hd hi k es.length cap arr hh a ys.length c news (by rw [his]; exact hnl) hcell hone hroom hfitc
           rw [his] at hr1
           generalize hpost : arr.toList.drop (es.length * e'.size + news.length) = post at hr1
           have hsz : (arr.toList.take (es.length * e'.size) ++ news ++ post).toArray.size = arr.size := by
            rw [← hpost]; rw [his] at hfitc; simp; omega
           have hrows := app_rows (post := post) hpl hgp hnl hgy
           have hk' := setRow_heap w k arr (arr.toList.take (es.length * e'.size) ++ news ++ post).toArray e0 (0, 0) hh
           obtain ⟨E', hr', hx', hφ'⟩ := relH_bind (w' := w.setRow k (arr.toList.take (es.length * e'.size) ++ news ++ post).toArray) hr (some y) k e0 e'.size (es ++ ys) _ hk' (.inr ⟨y, _, rfl, hφ⟩) (by simp)
            (fun j _ hne => setRow_other w k j _ hne) (fun a t fr h => by rw [hh] at h; cases h; exact ⟨rfl, hsz.symm⟩) (fun a c h => by rw [hh] at h; cases h) rfl rfl rfl
            (by rw [hsz, List.length_append]; exact Nat.le_trans (Nat.mul_le_mul_right _ hroom) hcap) (onecells post) hrows
           refine ⟨_, _, E', hr1, hr', ?_, hx'⟩
           have := G.sl (E := E') (w := w.setRow k (arr.toList.take (es.length * e'.size) ++ news ++ post).toArray) H.nx 0 (es ++ ys).length cap k e'.size _ e0 (0, 0) hφ' (by rw [List.length_append]; exact hroom) hcm hk' (by rw [hsz]; simpa using hcap)
           simpa using this
          ·have holds : ∀ j u, (arr.toList.take (es.length * e'.size))[j]? = some u → w.cell? ((⟨k, 0, none⟩ : Addr).add j) = some u := by
            intro j u hj
            rw [List.getElem?_take] at hj
            split at hj
            ·have hj' : arr[j]? = some u := by simpa using hj
             rw [addr_add]
             simp [World.cell?, hh, hj']
            ·cases hj
           have hr1 := run_append_grow (P := P) w t ty e0 info e'.zero hd hi hiz ⟨k, 0, none⟩ es.length cap (arr.toList.take (es.length * e'.size)) (by rw [his]; exact hpl) holds a ys.length c news (by rw [his]; exact hnl) hcell (by omega) (by omega) (growslice_fits (by omega) (by rw [hib]; exact hfit2))
           generalize hgc : grownCap w (es.length + ys.length) cap e0 = ncap at hr1
           have hge : es.length + ys.length ≤ ncap := by rw [← hgc]; exact grownCap_ge w _ _ _
           have hncm : ncap ≤ maxLen := by rw [← hgc]; exact grownCap_le_maxLen w _ _ _ (by simp only [maxLen]; omega)
           have harr : (arr.toList.take (es.length * e'.size)).toArray ++ news.toArray ++ Builtin.zeroCells e'.zero.cells (ncap - (es.length + ys.length)) =
             (arr.toList.take (es.length * e'.size) ++ news ++ (Builtin.zeroCells e'.zero.cells (ncap - (es.length + ys.length))).toList).toArray := by
            apply Array.ext'; simp
           rw [harr] at hr1
           have hasz : (arr.toList.take (es.length * e'.size) ++ news ++ (Builtin.zeroCells e'.zero.cells (ncap - (es.length + ys.length))).toList).toArray.size = ncap * e'.size := by
            have hzc := size_zeroCells e'.zero.cells (ncap - (es.length + ys.length))
            rw [hte.zsize] at hzc
            simp only [List.size_toArray, List.length_append, hpl, hnl, Array.length_toList, hzc, ← Nat.add_mul]
            congr 1; omega
           have hrows := app_rows (post := (Builtin.zeroCells e'.zero.cells (ncap - (es.length + ys.length))).toList) hpl hgp hnl hgy
           obtain ⟨E', hr', hx', hφ'⟩ := relH_newx (w0 := w.drew) hr (some y) e0 e'.size (es ++ ys) _ rfl rfl rfl rfl (by rw [hasz, List.length_append]; exact Nat.mul_le_mul_right _ hge) (onecells _) hrows
           refine ⟨_, _, E', hr1, hr', ?_, hx'⟩
           have := G.sl (E := E') (w := w.drew.alloc (.cells (arr.toList.take (es.length * e'.size) ++ news ++ (Builtin.zeroCells e'.zero.cells (ncap - (es.length + ys.length))).toList).toArray e0)) H.nx 0 (es ++ ys).length ncap w.heap.size e'.size _ e0 (0, 0) hφ' (by rw [List.length_append]; exact hge) hncm (heap_alloc_new w.drew _) (by rw [hasz]; simp)
           simpa using this
       ·exact h.elim
      ·exact h.elim
     ·exact h.elim
    ·exact h.elim
   ·exact h.elim
  ·exact h.elim
 ·exact h.elim
end
end Go.RX
