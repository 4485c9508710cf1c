/- RX, part kb: copy into an own row; an own row's end cleared. -/
import Derived.Test.YtljecfgfbebjiaaRXka
import Derived.Laws.CopyRow
set_option linter.unusedVariables false
namespace Go.RX
section
variable {P : Program} {T : List (Nat × TE)} {H : Heap} {K : LV → Heap → Prop}
theorem look_upd_same {l : List (Nat × Blk)} {y : Nat} {b : Blk} (h : look l y = some b) (z : Nat) : look (upd y b l) z = look l z := by
 rw [look_upd]
 by_cases e : y = z
 ·subst e; rw [if_pos ⟨rfl, by rw [h]; rfl⟩, h]
 ·rw [if_neg (fun h => e h.1)]
theorem relH_same {E : Env} {w : World} (hr : RelH E H w) {l' : List (Nat × Blk)} (h : ∀ z, look l' z = look H.live z) : RelH E ⟨H.nx, l'⟩ w :=
 ⟨hr.nx, fun x e sz es hl => hr.row x e sz es ((h x).symm.trans hl), fun x es hl => hr.mp x es ((h x).symm.trans hl), fun x hl => hr.none x ((h x).symm.trans hl), fun x b hl => hr.lt x b ((h x).symm.trans hl), hr.inj, hr.nok, hr.okl⟩

def copyK0 (T : List (Nat × TE)) (H : Heap) (t : Nat) (s x : LV) (K : LV → Heap → Prop) : Prop :=
 match tyq T t with
 | some e => match e.u with
  | .slice el => match tyq T el with
   | some e' => match Nat.ble 1 e'.size with
    | true => srcK H e'.size x fun ys => match s with
     | .sl y off len => match look H.live y with
      | some (.row e0 sz0 es) => match Nat.beq sz0 e'.size, off with
       | true, 0 => len = es.length ∧ K (.int .i64 ((min ys.length es.length : Nat) : Int)) ⟨H.nx, upd y (.row e0 sz0 (ys.take es.length ++ es.drop ys.length)) H.live⟩
       | _, _ => False
      | _ => False
     | _ => False
    | false => False
   | none => False
  | _ => False
 | none => False

theorem copyK0_spec (hT : TOk P T) {t : Nat} {s x : LV} (h : copyK0 T H t s x K) :
  ∃ lv H', K lv H' ∧ ∀ (E : Env) (w : World) (u v : Value) (t' ty : TypeId), RelH E H w → G E w s u → G E w x v →
   ∃ r w' E', (Builtin.copy_ #[t, t'] ty #[u, v]).run P w = .ok r w' ∧ RelH E' H' w' ∧ G E' w' lv r ∧ Ext E w E' w' := by
 unfold copyK0 at h
 split at h
 ·rename_i e he
  obtain ⟨d, hd, hof⟩ := (hT _ _ he).desc
  split at h
  ·rename_i el hel
   rw [hel] at hof
   have := TI.of_slice hof; subst this
   split at h
   ·rename_i e' he'
    have hte := hT _ _ he'
    obtain ⟨info, hi, hiz, his, hib⟩ := hte.inf
    split at h
    ·rename_i hpos
     have hpos' := Nat.le_of_ble_eq_true hpos
     obtain ⟨ys, h, hsrc⟩ := srcK_spec (by omega) h
     split at h
     ·rename_i y off len _
      split at h
      ·rename_i e0 sz0 es hl
       split at h
       ·rename_i hb _
        have hsz := Nat.eq_of_beq_eq_true hb
        subst hsz
        obtain ⟨hlen, h⟩ := h
        refine ⟨_, _, h, fun E w u v t' ty hr hu hv => ?_⟩
        have run0 : ∀ (base : Option Addr) (dl dc : Nat) (v : Value), ((v = .slice none 0 0) ∨ (dl = 0 ∧ ∃ a n c, v = .slice (some a) n c)) → (Builtin.copy_ #[t, t'] ty #[.slice base dl dc, v]).run P w = .ok (goInt 0) w := by
         intro base dl dc v hv
         rcases hv with rfl | ⟨rfl, a, n, c, rfl⟩
         ·cases base <;> simp [Builtin.copy_, run_underlying hd, run_size hte, Builtin.lenOf, Builtin.firstCells, storeCells]
         ·cases base <;> simp [Builtin.copy_, run_underlying hd, run_size hte, Builtin.lenOf, Builtin.firstCells, storeCells, loadCells, loadCellsFrom]
        rcases sl_real hr hl hu with ⟨rfl, rfl, rfl⟩ | ⟨k, arr, cap, rfl, hφ, hh, hlc, hcm, hcap, hle, hone0, hg0⟩
        ·refine ⟨goInt 0, w, E, run0 none 0 0 v ?_, relH_same hr (fun z => look_upd_same (by simpa using hl) z), ?_, Ext.refl E w⟩
         ·rcases hsrc E w v hr hv with ⟨rfl, _⟩ | ⟨a, c, news, rfl, _⟩
          ·exact .inl rfl
          ·exact .inr ⟨rfl, a, _, c, rfl⟩
         ·simpa [goInt] using G.int (E := E) (w := w) .i64 0
        ·subst hlen
         rcases hsrc E w v hr hv with ⟨rfl, rfl⟩ | ⟨a, c, news, rfl, hnl, hcell, hone, hgy⟩
         ·refine ⟨goInt 0, w, E, run0 _ _ _ _ (.inl rfl), relH_same hr (fun z => look_upd_same (by simpa using hl) z), ?_, Ext.refl E w⟩
          simpa [goInt] using G.int (E := E) (w := w) .i64 0
         ·generalize hn : min ys.length es.length = n
          have hn1 : n ≤ ys.length := by omega
          have hn2 : n ≤ es.length := by omega
          have hm1 : n * e'.size ≤ ys.length * e'.size := Nat.mul_le_mul_right _ hn1
          have hm2 : n * e'.size ≤ es.length * e'.size := Nat.mul_le_mul_right _ hn2
          have hcsl : (news.take (n * e'.size)).length = n * e'.size := by rw [List.length_take, hnl]; omega
          have hcc : ∀ j u, (news.take (n * e'.size))[j]? = some u → w.cell? (a.add j) = some u := fun j u hj => by
           rw [List.getElem?_take] at hj
           split at hj
           ·exact hcell j u hj
           ·cases hj
          have hco : ∀ u ∈ news.take (n * e'.size), u.oneCell' = true := fun u hu => hone u (List.mem_of_mem_take hu)
          have hl1 := run_loadCells_list (P := P) w a (news.take (n * e'.size)) hcc
          have hst := run_storeCells_at P k 0 e0 (news.take (n * e'.size)) 0 arr w hh (by rw [hcsl]; omega) hco
          rw [hcsl] at hl1
          have hrun : (Builtin.copy_ #[t, t'] ty #[.slice (some ⟨k, 0, none⟩) es.length cap, .slice (some a) ys.length c]).run P w =
            .ok (goInt n) (w.setRow k (news.take (n * e'.size) ++ arr.toList.drop (n * e'.size)).toArray) := by
           simp only [Nat.zero_add, Nat.add_zero, List.take_zero, List.nil_append, hcsl] at hst
           have hn' : Nat.min ys.length es.length = n := hn
           simp [Builtin.copy_, run_underlying hd, run_size hte, Builtin.lenOf, Builtin.firstCells, hn', hl1, hst]
          have hpost := app_rows (E := E) (w := w) (s := e'.size) (es := ys.take n) (ys := es.drop n) (pre := news.take (n * e'.size)) (news := (arr.toList.drop (n * e'.size)).take ((es.length - n) * e'.size)) (post := (arr.toList.drop (n * e'.size)).drop ((es.length - n) * e'.size))
           (by rw [hcsl, List.length_take, Nat.min_eq_left hn1]) (fun i cs hi => by
            rw [List.getElem?_take] at hi
            split at hi
            ·rename_i hin
             refine ⟨(hgy i cs hi).1, fun j y hj => ?_⟩
             have := (hgy i cs hi).2 j y hj
             have hjl : j < e'.size := by rw [← (hgy i cs hi).1]; exact (List.getElem?_eq_some_iff.1 hj).1
             have : i * e'.size + j < n * e'.size := by
              have : (i + 1) * e'.size ≤ n * e'.size := Nat.mul_le_mul_right _ hin
              rw [Nat.succ_mul] at this; omega
             rw [List.getD_eq_getElem?_getD, List.getElem?_take, if_pos this, ← List.getD_eq_getElem?_getD]
             assumption
            ·cases hi)
           (by rw [List.length_take, List.length_drop, List.length_drop, Nat.min_eq_left]; rw [Nat.sub_mul]; simp; omega) (fun i cs hi => by
            rw [List.getElem?_drop] at hi
            obtain ⟨g1, g2⟩ := hg0 _ cs hi
            refine ⟨g1, fun j y hj => ?_⟩
            have hjl : j < e'.size := by rw [← g1]; exact (List.getElem?_eq_some_iff.1 hj).1
            have hil : n + i < es.length := (List.getElem?_eq_some_iff.1 hi).1
            have h1 : i * e'.size + j < (es.length - n) * e'.size := by
             have : (i + 1) * e'.size ≤ (es.length - n) * e'.size := Nat.mul_le_mul_right _ (by omega)
             rw [Nat.succ_mul] at this; omega
            have := g2 j y hj
            rw [Array.getD_eq_getD_getElem?, Nat.add_mul] at this
            rw [List.getD_eq_getElem?_getD, List.getElem?_take, if_pos h1, List.getElem?_drop, ← Nat.add_assoc]
            simpa using this)
          rw [List.append_assoc, List.take_append_drop] at hpost
          have hes : (ys.take es.length ++ es.drop ys.length) = ys.take n ++ es.drop n := by
           rcases Nat.le_total ys.length es.length with hc | hc
           ·have : n = ys.length := by omega
            subst this
            rw [List.take_of_length_le hc, List.take_length]
           ·have : n = es.length := by omega
            subst this
            rw [List.drop_length, List.drop_of_length_le hc]
          rw [hes]
          have hlen' : (ys.take n ++ es.drop n).length = es.length := by rw [List.length_append, List.length_take, List.length_drop]; omega
          obtain ⟨hr', hx'⟩ := relH_store (es' := ys.take n ++ es.drop n) (arr' := (news.take (n * e'.size) ++ arr.toList.drop (n * e'.size)).toArray) (w' := w.setRow k (news.take (n * e'.size) ++ arr.toList.drop (n * e'.size)).toArray) hr hl hφ hh (setRow_heap w k _ _ _ _ hh)
           (by simp only [List.size_toArray, List.length_append, hcsl, List.length_drop, Array.length_toList]; omega) (by simp) (fun j hj hne => setRow_other w k j _ hne) rfl rfl rfl
           (by simp only [hlen', List.size_toArray, List.length_append, hcsl, List.length_drop, Array.length_toList]; omega)
           (fun j hj => by
            rw [hlen'] at hj
            simp only [Array.getD_eq_getD_getElem?, List.getElem?_toArray]
            rw [List.getElem?_append, hcsl]
            split
            ·rename_i hjn
             have : j < (news.take (n * e'.size)).length := by rw [hcsl]; exact hjn
             rw [List.getElem?_eq_getElem this]
             exact hco _ (List.getElem_mem this)
            ·rename_i hjn
             have := hone0 j hj
             rw [Array.getD_eq_getD_getElem?] at this
             rw [List.getElem?_drop, show n * e'.size + (j - n * e'.size) = j by omega]
             simpa using this)
           hpost
          exact ⟨_, _, E, hrun, hr', by simpa [goInt] using G.int (E := E) (w := w.setRow k (news.take (n * e'.size) ++ arr.toList.drop (n * e'.size)).toArray) .i64 (n : Int), hx'⟩
       ·exact h.elim
      ·exact h.elim
     ·exact h.elim
    ·exact h.elim
   ·exact h.elim
  ·exact h.elim
 ·exact h.elim

def copyO (T : List (Nat × TE)) (H : Heap) (t y off len m : Nat) (K : LV → Heap → Prop) : Prop :=
 match tyq T t with
 | some e => match e.u with
  | .slice el => match tyq T el with
   | some e' => match look H.live y with
    | some (.row e0 sz0 es) => match Nat.beq sz0 e'.size with
     | true => (off + len = es.length ∧ m ≤ es.length) ∧ K (.int .i64 ((min m len : Nat) : Int)) ⟨H.nx, upd y (.row e0 sz0 (es.take off ++ es.take (min m len) ++ es.drop (off + min m len))) H.live⟩
     | false => False
    | _ => False
   | none => False
  | _ => False
 | none => False
theorem copyO_spec (hT : TOk P T) {t y off len m : Nat} (h : copyO T H t y off len m K) :
  ∃ lv H', K lv H' ∧ ∀ (E : Env) (w : World) (u v : Value) (t' ty : TypeId), RelH E H w → G E w (.sl y off len) u → G E w (.sl y 0 m) v →
   ∃ r w' E', (Builtin.copy_ #[t, t'] ty #[u, v]).run P w = .ok r w' ∧ RelH E' H' w' ∧ G E' w' lv r ∧ Ext E w E' w' := by
 unfold copyO at h
 split at h
 ·rename_i e he
  obtain ⟨d, hd, hof⟩ := (hT _ _ he).desc
  split at h
  ·rename_i el hel
   rw [hel] at hof
   have := TI.of_slice hof; subst this
   split at h
   ·rename_i e' he'
    have hte := hT _ _ he'
    split at h
    ·rename_i e0 sz0 es hl
     split at h
     ·rename_i hb
      have hsz := Nat.eq_of_beq_eq_true hb
      subst hsz
      obtain ⟨⟨hlen, hm⟩, h⟩ := h
      refine ⟨_, _, h, fun E w u v t' ty hr hu hv => ?_⟩
      rcases hr.row y e0 e'.size es hl with ⟨hφ, hnil⟩ | ⟨k, arr, hφ, hh, hle, h1, hg⟩
      ·subst hnil
       cases hu with
       | slDead _ _ _ _ hx _ => rw [hφ] at hx; cases hx
       | sl _ _ _ _ _ _ _ _ _ hx => rw [hφ] at hx; cases hx
       | slV =>
        cases hv with
        | slDead _ _ _ _ hx _ => rw [hφ] at hx; cases hx
        | sl _ _ _ _ _ _ _ _ _ hx => rw [hφ] at hx; cases hx
        | slV =>
         refine ⟨goInt 0, w, E, by simp [Builtin.copy_, run_underlying hd, run_size hte, Builtin.lenOf, Builtin.firstCells], relH_same hr (fun z => look_upd_same (by simpa using hl) z), ?_, Ext.refl E w⟩
         simpa [goInt] using G.int (E := E) (w := w) .i64 0
      ·cases hu with
       | slDead _ _ _ _ hx _ => rw [hφ] at hx; cases hx
       | slV _ _ hx => rw [hφ] at hx; cases hx
       | sl _ _ _ cap k' s' arr' t2 fr hx hlc hcm hk hcap =>
        rw [hφ] at hx
        obtain ⟨hkk, rfl⟩ := Prod.mk.inj (Option.some.inj hx)
        cases hkk
        rw [hh] at hk; cases hk
        obtain ⟨cap2, rfl⟩ : ∃ cap2, v = .slice (some ⟨k, 0, none⟩) m cap2 := by
         cases hv with
         | slDead _ _ _ _ hx _ => rw [hφ] at hx; cases hx
         | slV _ _ hx => rw [hφ] at hx; cases hx
         | sl _ _ _ cap2 k2 s2 arr2 t3 fr2 hx2 _ _ _ _ =>
          rw [hφ] at hx2
          obtain ⟨hkk, rfl⟩ := Prod.mk.inj (Option.some.inj hx2)
          cases hkk
          exact ⟨cap2, by simp⟩
        generalize hn : min m len = n
        have hn1 : n ≤ m := by omega
        have hn2 : n ≤ len := by omega
        have e1 : n * e'.size ≤ es.length * e'.size := Nat.mul_le_mul_right _ (by omega)
        have e2 : off * e'.size + n * e'.size ≤ arr.size := by
         rw [← Nat.add_mul]; exact Nat.le_trans (Nat.mul_le_mul_right _ (by omega)) hcap
        have hcl : (arr.toList.take (n * e'.size)).length = n * e'.size := by rw [List.length_take, Array.length_toList]; omega
        have hcc : ∀ j u, (arr.toList.take (n * e'.size))[j]? = some u → w.cell? ((⟨k, 0, none⟩ : Addr).add j) = some u := fun j u hj => by
         rw [List.getElem?_take] at hj
         split at hj
         ·have hj' : arr[j]? = some u := by simpa using hj
          rw [addr_add]
          simp [World.cell?, hh, hj']
         ·cases hj
        have hco : ∀ u ∈ arr.toList.take (n * e'.size), u.oneCell' = true := fun u hu => by
         obtain ⟨q, hq, hqu⟩ := List.getElem_of_mem hu
         have hq1 : q < n * e'.size := by rw [hcl] at hq; exact hq
         have hq2 : q < arr.size := by omega
         have := h1 q (by omega)
         simp only [List.getElem_take, Array.getElem_toList] at hqu
         simpa [Array.getD, hq2, hqu] using this
        have hl1 := run_loadCells_list (P := P) w ⟨k, 0, none⟩ (arr.toList.take (n * e'.size)) hcc
        have hst := run_storeCells_at P k (off * e'.size) e0 (arr.toList.take (n * e'.size)) 0 arr w hh (by rw [hcl]; omega) hco
        rw [hcl] at hl1
        have hrun : (Builtin.copy_ #[t, t'] ty #[.slice (some ⟨k, off * e'.size, none⟩) len cap, .slice (some ⟨k, 0, none⟩) m cap2]).run P w =
          .ok (goInt n) (w.setRow k (arr.toList.take (off * e'.size) ++ arr.toList.take (n * e'.size) ++ arr.toList.drop (off * e'.size + n * e'.size)).toArray) := by
         simp only [Nat.add_zero, hcl] at hst
         have hn' : Nat.min m len = n := hn
         simp [Builtin.copy_, run_underlying hd, run_size hte, Builtin.lenOf, Builtin.firstCells, hn', hl1, hst]
        generalize harr' : (arr.toList.take (off * e'.size) ++ arr.toList.take (n * e'.size) ++ arr.toList.drop (off * e'.size + n * e'.size)).toArray = arr' at hrun
        have hto : (arr.toList.take (off * e'.size)).length = off * e'.size := by rw [List.length_take, Array.length_toList]; omega
        have hsize : arr'.size = arr.size := by
         rw [← harr']
         simp only [List.size_toArray, List.length_append, hto, hcl, List.length_drop, Array.length_toList]
         omega
        have hget1 : ∀ q, q < off * e'.size → arr'.getD q undef = arr.getD q undef := by
         intro q hq
         rw [← harr']
         simp only [Array.getD_eq_getD_getElem?, List.getElem?_toArray, List.append_assoc]
         rw [List.getElem?_append_left (by rw [hto]; exact hq), List.getElem?_take, if_pos hq]
         simp
        have hget2 : ∀ q, q < n * e'.size → arr'.getD (off * e'.size + q) undef = arr.getD q undef := by
         intro q hq
         rw [← harr']
         simp only [Array.getD_eq_getD_getElem?, List.getElem?_toArray, List.append_assoc]
         rw [List.getElem?_append_right (by rw [hto]; omega), hto, List.getElem?_append_left (by rw [hcl]; omega), List.getElem?_take, if_pos (by omega), show off * e'.size + q - off * e'.size = q by omega]
         simp
        have hget3 : ∀ q, off * e'.size + n * e'.size ≤ q → arr'.getD q undef = arr.getD q undef := by
         intro q hq
         rw [← harr']
         simp only [Array.getD_eq_getD_getElem?, List.getElem?_toArray]
         rw [List.getElem?_append_right (by rw [List.length_append, hto, hcl]; exact hq), List.length_append, hto, hcl, List.getElem?_drop, show off * e'.size + n * e'.size + (q - (off * e'.size + n * e'.size)) = q by omega]
         simp
        have l1 : (es.take off).length = off := by rw [List.length_take]; omega
        have l2 : (es.take n).length = n := by rw [List.length_take]; omega
        have hel : (es.take off ++ es.take n ++ es.drop (off + n)).length = es.length := by
         rw [List.length_append, List.length_append, l1, l2, List.length_drop]; omega
        have hes : es.length * e'.size ≤ arr.size := hle
        have hone : ∀ q, q < es.length * e'.size → (arr'.getD q undef).oneCell' = true := by
         intro q hq
         rcases Nat.lt_or_ge q (off * e'.size) with g | g
         ·rw [hget1 q g]; exact h1 q hq
         ·rcases Nat.lt_or_ge q (off * e'.size + n * e'.size) with g2 | g2
          ·have := hget2 (q - off * e'.size) (by omega)
           rw [show off * e'.size + (q - off * e'.size) = q by omega] at this
           rw [this]; exact h1 _ (by omega)
          ·rw [hget3 q g2]; exact h1 q hq
        obtain ⟨hr', hx'⟩ := relH_store (es' := es.take off ++ es.take n ++ es.drop (off + n)) (arr' := arr') (w' := w.setRow k arr') hr hl hφ hh (setRow_heap w k _ _ _ _ hh) hsize (by simp) (fun j hj hne => setRow_other w k j _ hne) rfl rfl rfl
         (by rw [hel, hsize]; exact hes) (fun i hi' => hone i (by rwa [hel] at hi'))
         (fun i cs hi' => by
          have mul : ∀ {a b : Nat}, a < b → a * e'.size + e'.size ≤ b * e'.size := fun {a b} h => by
           have : (a + 1) * e'.size ≤ b * e'.size := Nat.mul_le_mul_right _ h
           rwa [Nat.succ_mul] at this
          rcases Nat.lt_or_ge i off with g | g
          ·rw [List.append_assoc, List.getElem?_append_left (by rw [l1]; exact g), List.getElem?_take, if_pos g] at hi'
           obtain ⟨g1, g2⟩ := hg i cs hi'
           refine ⟨g1, fun j z hj => ?_⟩
           have hjl : j < e'.size := by rw [← g1]; exact (List.getElem?_eq_some_iff.1 hj).1
           have := mul g
           rw [hget1 _ (by omega)]
           exact g2 j z hj
          ·rcases Nat.lt_or_ge i (off + n) with g3 | g3
           ·rw [List.append_assoc, List.getElem?_append_right (by rw [l1]; exact g), l1, List.getElem?_append_left (by rw [l2]; omega), List.getElem?_take, if_pos (by omega)] at hi'
            obtain ⟨g1, g2⟩ := hg (i - off) cs hi'
            refine ⟨g1, fun j z hj => ?_⟩
            have hjl : j < e'.size := by rw [← g1]; exact (List.getElem?_eq_some_iff.1 hj).1
            have := mul (show i - off < n by omega)
            have e3 : i * e'.size = off * e'.size + (i - off) * e'.size := by rw [← Nat.add_mul]; congr 1; omega
            rw [e3, Nat.add_assoc, hget2 _ (by omega)]
            exact g2 j z hj
           ·rw [List.getElem?_append_right (by rw [List.length_append, l1, l2]; exact g3), List.length_append, l1, l2, List.getElem?_drop, show off + n + (i - (off + n)) = i by omega] at hi'
            obtain ⟨g1, g2⟩ := hg i cs hi'
            refine ⟨g1, fun j z hj => ?_⟩
            have : (off + n) * e'.size ≤ i * e'.size := Nat.mul_le_mul_right _ g3
            rw [Nat.add_mul] at this
            rw [hget3 _ (by omega)]
            exact g2 j z hj)
        exact ⟨_, _, E, hrun, hr', by simpa [goInt] using G.int (E := E) (w := w.setRow k arr') .i64 (n : Int), hx'⟩
     ·exact h.elim
    ·exact h.elim
   ·exact h.elim
  ·exact h.elim
 ·exact h.elim
def copyK (T : List (Nat × TE)) (H : Heap) (t : Nat) (s x : LV) (K : LV → Heap → Prop) : Prop :=
 match s, x with
 | .sl y off len, .sl y2 off2 m => match Nat.beq y y2 with
  | true => off2 = 0 ∧ copyO T H t y off len m K
  | false => copyK0 T H t (.sl y off len) (.sl y2 off2 m) K
 | s, x => copyK0 T H t s x K
theorem copyK_spec (hT : TOk P T) {t : Nat} {s x : LV} (h : copyK T H t s x K) :
  ∃ lv H', K lv H' ∧ ∀ (E : Env) (w : World) (u v : Value) (t' ty : TypeId), RelH E H w → G E w s u → G E w x v →
   ∃ r w' E', (Builtin.copy_ #[t, t'] ty #[u, v]).run P w = .ok r w' ∧ RelH E' H' w' ∧ G E' w' lv r ∧ Ext E w E' w' := by
 unfold copyK at h
 split at h
 ·split at h
  ·rename_i hb
   have := Nat.eq_of_beq_eq_true hb
   subst this
   obtain ⟨rfl, h⟩ := h
   exact copyO_spec hT h
  ·exact copyK0_spec hT h
 ·exact copyK0_spec hT h

def clearK (T : List (Nat × TE)) (H : Heap) (t : Nat) (x : LV) (K : LV → Heap → Prop) : Prop :=
 match tyq T t with
 | some e => match e.u with
  | .slice el => match tyq T el with
   | some e' => match x with
    | .sl y off len => match look H.live y with
     | some (.row e0 sz0 es) => match Nat.beq sz0 e'.size with
      | true => off + len = es.length ∧ K (.tup []) ⟨H.nx, upd y (.row e0 sz0 (es.take off)) H.live⟩
      | false => False
     | _ => False
    | _ => False
   | none => False
  | _ => False
 | none => False
theorem clearK_spec (hT : TOk P T) {t : Nat} {x : LV} (h : clearK T H t x K) :
  ∃ lv H', K lv H' ∧ ∀ (E : Env) (w : World) (u : Value) (ty : TypeId), RelH E H w → G E w x u →
   ∃ r w' E', (Builtin.clear_ #[t] ty #[u]).run P w = .ok r w' ∧ RelH E' H' w' ∧ G E' w' lv r ∧ Ext E w E' w' := by
 unfold clearK at h
 split at h
 ·rename_i e he
  obtain ⟨d, hd, hof⟩ := (hT _ _ he).desc
  split at h
  ·rename_i el hel
   rw [hel] at hof
   have := TI.of_slice hof; subst this
   split at h
   ·rename_i e' he'
    have hte := hT _ _ he'
    obtain ⟨info, hi, hiz, his, hib⟩ := hte.inf
    split at h
    ·rename_i y off len
     split at h
     ·rename_i e0 sz0 es hl
      split at h
      ·rename_i hb
       have hsz := Nat.eq_of_beq_eq_true hb
       subst hsz
       obtain ⟨hlen, h⟩ := h
       refine ⟨_, _, h, fun E w u ty hr hu => ?_⟩
       have gt : ∀ w, G E w (.tup []) (.tuple #[]) := fun w => .tup [] #[] rfl (fun i x hx => by simp at hx)
       rcases hr.row y e0 e'.size es hl with ⟨hφ, hnil⟩ | ⟨k, arr, hφ, hh, hle, h1, hg⟩
       ·cases hu with
        | slDead _ _ _ _ hx _ => rw [hφ] at hx; cases hx
        | sl _ _ _ _ _ _ _ _ _ hx => rw [hφ] at hx; cases hx
        | slV =>
         subst hnil
         exact ⟨.tuple #[], w, E, by simp [Builtin.clear_, run_underlying hd], relH_same hr (fun z => look_upd_same (by simpa using hl) z), gt w, Ext.refl E w⟩
       ·cases hu with
        | slDead _ _ _ _ hx _ => rw [hφ] at hx; cases hx
        | slV _ _ hx => rw [hφ] at hx; cases hx
        | sl _ _ _ cap k' s' arr' t' fr hx hlc hcm hk hcap =>
         rw [hφ] at hx
         obtain ⟨hkk, rfl⟩ := Prod.mk.inj (Option.some.inj hx)
         cases hkk
         rw [hh] at hk; cases hk
         cases len with
         | zero =>
          have : es.take off = es := List.take_of_length_le (by omega)
          rw [this]
          exact ⟨.tuple #[], w, E, by simp [Builtin.clear_, run_underlying hd], relH_same hr (fun z => look_upd_same hl z), gt w, Ext.refl E w⟩
         | succ m =>
          have hzl : (Builtin.zeroCells e'.zero.cells (m + 1)).toList.length = (m + 1) * e'.size := by rw [Array.length_toList, size_zeroCells, hte.zsize]
          have hzo : ∀ v ∈ (Builtin.zeroCells e'.zero.cells (m + 1)).toList, v.oneCell' = true := by
           intro v hv
           simp only [Builtin.zeroCells, Array.mem_toList_iff, Array.mem_map, Array.mem_range] at hv
           obtain ⟨i, hi', rfl⟩ := hv
           have hpos : 0 < e'.zero.cells.size := by
            rcases Nat.eq_zero_or_pos e'.zero.cells.size with h0 | h0
            ·rw [h0] at hi'; simp at hi'
            ·exact h0
           have hm := Nat.mod_lt i hpos
           have := hte.zone _ hm
           rw [Array.getD_eq_getD_getElem?] at this
           rw [getElem!_def]
           simpa [hm] using this
          have hfit : off * e'.size + (m + 1) * e'.size ≤ arr.size := by
           rw [← Nat.add_mul]; exact Nat.le_trans (Nat.mul_le_mul_right _ (by omega)) hcap
          have hst := run_storeCells_at P k (off * e'.size) e0 (Builtin.zeroCells e'.zero.cells (m + 1)).toList 0 arr w hh (by rw [hzl]; omega) hzo
          have hrun : (Builtin.clear_ #[t] ty #[.slice (some ⟨k, off * e'.size, none⟩) (m + 1) cap]).run P w = .ok (.tuple #[]) (w.setRow k (arr.toList.take (off * e'.size) ++ (Builtin.zeroCells e'.zero.cells (m + 1)).toList ++ arr.toList.drop (off * e'.size + (m + 1) * e'.size)).toArray) := by
           simp only [Nat.add_zero, hzl] at hst
           simp [Builtin.clear_, run_underlying hd, zeroValue, typeInfo, hi, hiz, hst]
          generalize harr' : (arr.toList.take (off * e'.size) ++ (Builtin.zeroCells e'.zero.cells (m + 1)).toList ++ arr.toList.drop (off * e'.size + (m + 1) * e'.size)).toArray = arr' at hrun
          have hsize : arr'.size = arr.size := by
           rw [← harr']
           simp only [List.size_toArray, List.length_append, List.length_take, hzl, List.length_drop, Array.length_toList]
           omega
          have hget : ∀ j, j < off * e'.size → arr'.getD j undef = arr.getD j undef := by
           intro j hj
           rw [← harr']
           simp only [Array.getD_eq_getD_getElem?, List.getElem?_toArray, List.append_assoc]
           rw [List.getElem?_append_left (by rw [List.length_take, Array.length_toList]; omega), List.getElem?_take, if_pos hj]
           simp
          have hol : (es.take off).length = off := by rw [List.length_take]; omega
          have hoe : off * e'.size ≤ es.length * e'.size := Nat.mul_le_mul_right _ (by omega)
          obtain ⟨hr', hx'⟩ := relH_store (es' := es.take off) (arr' := arr') (w' := w.setRow k arr') hr hl hφ hh (setRow_heap w k _ _ _ _ hh) hsize (by simp) (fun j hj hne => setRow_other w k j _ hne) rfl rfl rfl
           (by rw [hol, hsize]; omega) (fun i hi' => by rw [hol] at hi'; rw [hget i hi']; exact h1 i (by omega))
           (fun i cs hi' => by
            rw [List.getElem?_take] at hi'
            split at hi'
            ·rename_i hio
             obtain ⟨g1, g2⟩ := hg i cs hi'
             refine ⟨g1, fun j z hj => ?_⟩
             have hjl : j < e'.size := by rw [← g1]; exact (List.getElem?_eq_some_iff.1 hj).1
             have : (i + 1) * e'.size ≤ off * e'.size := Nat.mul_le_mul_right _ hio
             rw [Nat.succ_mul] at this
             rw [hget _ (by omega)]
             exact g2 j z hj
            ·cases hi')
          exact ⟨_, _, E, hrun, hr', gt _, hx'⟩
      ·exact h.elim
     ·exact h.elim
    ·exact h.elim
   ·exact h.elim
  ·exact h.elim
 ·exact h.elim
end
end Go.RX
