/- RX, part r: what a law's arguments read as; a contract as a law's answer. -/
import Derived.Test.YtljecfgfbebjiaaRXq
import Derived.ProofKit
import Derived.Below
import Derived.Carry
import Derived.Deep.Slices
set_option linter.unusedVariables false
namespace Go.RX
open Go.RowKit Go.Deep

def tyF (k : Nat → List LV → Prop) : List (Nat × Nat × Bool) → List LV → Prop
 | [], cs => cs = []
 | (_, ty, _) :: r, cs => ∃ c rest, cs = c ++ rest ∧ k ty c ∧ tyF k r rest

def tyA (k : List LV → Prop) : Nat → List LV → Prop
 | 0, cs => cs = []
 | m + 1, cs => ∃ c rest, cs = c ++ rest ∧ k c ∧ tyA k m rest

def tyC (T : List (Nat × TE)) : Nat → Nat → List LV → Prop
 | 0, _, _ => False
 | n + 1, t, cs => match tyq T t with
  | some e => match e.u with
   | .bool => ∃ b, cs = [.bool b]
   | .int k => ∃ x, cs = [.int k x] ∧ (Lit.int k x).wf = true
   | .str => ∃ s : ByteArray, cs = [.str s] ∧ s.size ≤ maxLen
   | .slice el => match tyq T el with
    | some e' => ∃ xs, cs = [.ro e'.size xs] ∧ xs.length ≤ maxLen ∧ ∀ r ∈ xs, tyC T n el r
    | none => False
   | .struct fs => tyF (tyC T n) fs cs
   | .arr m el => tyA (tyC T n el) m cs
   | _ => False
  | none => False

def covF (T : List (Nat × TE)) (k : Nat → Bool) : Nat → List (Nat × Nat × Bool) → Option Nat
 | o, [] => some o
 | o, (o', ty, _) :: r => match Nat.beq o' o, k ty, tyq T ty with
  | true, true, some e => covF T k (o + e.size) r
  | _, _, _ => none

def cov (T : List (Nat × TE)) : Nat → Nat → Bool
 | 0, _ => false
 | n + 1, t => match tyq T t with
  | some e => match e.u with
   | .bool => Nat.beq e.size 1
   | .int _ => Nat.beq e.size 1
   | .str => Nat.beq e.size 1
   | .slice el => Nat.beq e.size 1 && cov T n el && (match tyq T el with
    | some e' => Nat.ble 1 e'.size
    | none => false)
   | .struct fs => match covF T (cov T n) 0 fs with
    | some m => Nat.beq m e.size
    | none => false
   | .arr m el => cov T n el && (match tyq T el with
    | some e' => Nat.beq (m * e'.size) e.size
    | none => false)
   | _ => false
  | none => false

def plainC (w : World) : Value → Prop
 | .slice (some a) _ _ => a.spot = none ∧ a.block < w.heap.size
 | _ => True

section
variable {P : Program} {T : List (Nat × TE)} {w : World} {H : Type} {enc : TypeId × Value → H} {base : Nat} {spare : Nat → Bool} {held : Bool}

def ReadsL (E : Env) (w : World) (ls : List LV) (cs : List Value) : Prop :=
 ls.length = cs.length ∧ NLs ls ∧ (∀ v ∈ cs, v.oneCell' = true) ∧ ∀ (i : Nat) (x : LV) (v : Value), ls[i]? = some x → cs[i]? = some v → G E w x v

theorem ReadsL.one {E : Env} {x : LV} {v : Value} (h : G E w x v) (hn : NL x) (h1 : v.oneCell' = true) : ReadsL E w [x] [v] :=
 ⟨rfl, by simpa [NLs] using hn, by simpa using h1, fun i y u hy hu => by
  cases i with
  | zero => simp at hy hu; subst hy; subst hu; exact h
  | succ i => simp at hy⟩

theorem NLs_append : ∀ {a b : List LV}, NLs a → NLs b → NLs (a ++ b)
 | [], b, _, h => h
 | x :: r, b, h, h' => by simp only [NLs] at h; simp only [List.cons_append, NLs]; exact ⟨h.1, NLs_append h.2 h'⟩

theorem ReadsL.append {E : Env} {a b : List LV} {c d : List Value} (h : ReadsL E w a c) (h' : ReadsL E w b d) : ReadsL E w (a ++ b) (c ++ d) := by
 refine ⟨by simp [h.1, h'.1], NLs_append h.2.1 h'.2.1, ?_, ?_⟩
 ·intro v hv
  rcases List.mem_append.1 hv with h1 | h1
  ·exact h.2.2.1 v h1
  ·exact h'.2.2.1 v h1
 ·intro i x v hx hv
  rcases Nat.lt_or_ge i a.length with hi | hi
  ·rw [List.getElem?_append_left hi] at hx
   rw [List.getElem?_append_left (by rw [← h.1]; exact hi)] at hv
   exact h.2.2.2 i x v hx hv
  ·rw [List.getElem?_append_right hi] at hx
   rw [List.getElem?_append_right (by rw [← h.1]; exact hi), ← h.1] at hv
   exact h'.2.2.2 _ x v hx hv

theorem cellsOf_of (hT : TOk P T) {t : Nat} {e : TE} (h : tyq T t = some e) : P.cellsOf t = e.size := by
 obtain ⟨i, hi, _, hs, _⟩ := (hT t e h).inf
 simp [Program.cellsOf, hi, hs]

theorem trod_arr {fuel t el m : Nat} {cs : List Value} {x : DataW H × List MemPlace} (ht : P.underlying t = some (.array m el)) (h : DataW.trod enc P w base spare held fuel t cs = some x) :
  ∃ n, cs.length = P.cellsOf t ∧ ∀ i, i < m → ∃ y, DataW.trod enc P w base spare held n el ((cs.drop (i * P.cellsOf el)).take (P.cellsOf el)) = some y := by
 cases fuel with
 | zero => simp [DataW.trod] at h
 | succ n =>
  unfold DataW.trod at h
  rw [ht] at h
  split at h <;> simp_all
  obtain ⟨hl, xs, hp, hd⟩ := h
  refine ⟨n, fun i hi => ?_⟩
  have := mapM_some_get hp i i (by simp [hi])
  have hx : i < xs.length := by rw [mapM_some_length hp]; simpa using hi
  rw [List.getElem?_eq_getElem hx] at this
  exact ⟨_, _, this⟩

theorem reads (hT : TOk P T) (hsp : ∀ b, spare b = true) (E : Env) (hE : ∀ b, b < w.heap.size → E.ok b) : ∀ (n : Nat) (t fuel : Nat) (cs : List Value) (x : DataW H × List MemPlace), cov T n t = true →
  DataW.trod enc P w base spare held fuel t cs = some x →
  ∃ ls, tyC T n t ls ∧ ReadsL E w ls cs
 | 0, t, fuel, cs, x, hc, h => by cases hc
 | n + 1, t, fuel, cs, x, hc, h => by
  simp only [cov] at hc
  simp only [tyC]
  split at hc
  ·rename_i e he
   obtain ⟨d, hd, hu⟩ := (hT t e he).desc
   have hsz := cellsOf_of hT he
   split at hc
   ·rename_i hk
    have := TI.of_bool (hu.trans hk); subst this
    obtain ⟨b, rfl, _⟩ := DataW.trod_bool hd h
    exact ⟨_, ⟨b, rfl⟩, .one (.bool b) trivial rfl⟩
   ·rename_i k hk
    have := TI.of_int (hu.trans hk); subst this
    obtain ⟨m, rfl, _, hw⟩ := DataW.trod_int hd h
    exact ⟨_, ⟨m, rfl, hw⟩, .one (.int k m) trivial rfl⟩
   ·rename_i hk
    have := TI.of_str (hu.trans hk); subst this
    obtain ⟨s, rfl, _, hs⟩ := DataW.trod_string hd h
    exact ⟨_, ⟨s, rfl, hs⟩, .one (.str s) trivial rfl⟩
   ·rename_i el hk
    have := TI.of_slice (hu.trans hk); subst this
    simp only [Bool.and_eq_true] at hc
    have hel : ∃ e', tyq T el = some e' := by
     cases n with
     | zero => cases hc.1.2
     | succ n =>
      have := hc.1.2
      simp only [cov] at this
      cases hq : tyq T el with
      | none => rw [hq] at this; cases this
      | some e' => exact ⟨e', rfl⟩
    obtain ⟨e', he'⟩ := hel
    simp only [he']
    have hs' := cellsOf_of hT he'
    rcases open_slice hd h with ⟨rfl, _⟩ | ⟨a, len, cap, m, f2, D, Pl, rfl, hb, hl, hmx, rfl, _, hx⟩
    ·exact ⟨_, ⟨[], rfl, Nat.zero_le _, fun r hr => by simp at hr⟩, .one (.roNil _) trivial rfl⟩
    ·by_cases hz : len = 0 ∧ cap = 0
     ·obtain ⟨rfl, rfl⟩ := hz
      exact ⟨_, ⟨[], rfl, Nat.zero_le _, fun r hr => by simp at hr⟩, .one (.roZ _ a) trivial rfl⟩
     rw [hsp, if_pos rfl] at hx
     have hpa : a.spot = none ∧ a.block < w.heap.size := by
      obtain ⟨cs', h1, h2⟩ := hx 0 (by omega)
      obtain ⟨_, h3, h4⟩ := World.cells?_some h1
      have hsz1 : 1 ≤ e'.size := by
       have := hc.2
       rw [he'] at this
       exact Nat.le_of_ble_eq_true this
      rw [hs'] at h3 h4
      have h5 := h4 0 hsz1
      rw [List.getElem?_eq_getElem (show 0 < cs'.length by omega)] at h5
      have h6 : (a.add (0 * e'.size)).add 0 = a := by simp [Addr.add]
      rw [h6] at h5
      unfold World.cell? at h5
      split at h5
      ·rename_i c t fr hh
       split at h5
       ·cases h5
       ·rename_i hspn
        exact ⟨by simpa using hspn, (Array.getElem?_eq_some_iff.1 hh).1⟩
      ·cases h5
     obtain ⟨blk, off, sp⟩ := a
     obtain ⟨hsp, hbl⟩ := hpa
     simp only at hsp hbl; subst hsp
     have hle : len ≤ cap := hl
     have key : ∀ i, i < len → ∃ ls cs', tyC T n el ls ∧ ReadsL E w ls cs' ∧ cs'.length = e'.size ∧ ∀ j, j < e'.size → w.cell? ⟨blk, off + i * e'.size + j, none⟩ = cs'[j]? := by
      intro i hi
      obtain ⟨cs', h1, h2⟩ := hx i (Nat.lt_of_lt_of_le hi hle)
      obtain ⟨_, h3, h4⟩ := World.cells?_some h1
      rw [hs'] at h3 h4
      rw [addr_add] at h4
      have h4' : ∀ j, j < e'.size → w.cell? ⟨blk, off + i * e'.size + j, none⟩ = cs'[j]? := fun j hj => by
       have := h4 j hj
       rwa [addr_add] at this
      obtain ⟨ls, h5, h6⟩ := reads hT hsp E hE n el f2 cs' _ hc.1.2 h2
      exact ⟨ls, cs', h5, h6, h3, h4'⟩
     obtain ⟨L, hL⟩ := Classical.axiomOfChoice (α := Fin len) (r := fun i ls => ∃ cs', tyC T n el ls ∧ ReadsL E w ls cs' ∧ cs'.length = e'.size ∧ ∀ j, j < e'.size → w.cell? ⟨blk, off + i.1 * e'.size + j, none⟩ = cs'[j]?) (fun i => key i.1 i.2)
     obtain ⟨C, hC⟩ := Classical.axiomOfChoice (r := fun (i : Fin len) cs' => tyC T n el (L i) ∧ ReadsL E w (L i) cs' ∧ cs'.length = e'.size ∧ ∀ j, j < e'.size → w.cell? ⟨blk, off + i.1 * e'.size + j, none⟩ = cs'[j]?) hL
     let xs := List.ofFn L
     have hxl : xs.length = len := by simp [xs]
     have hxi : ∀ (i : Nat) (r : List LV), xs[i]? = some r → ∃ h : i < len, r = L ⟨i, h⟩ := fun i r hr => by
      have hi : i < len := by rw [← hxl]; exact (List.getElem?_eq_some_iff.1 hr).1
      refine ⟨hi, ?_⟩
      simp [xs, hi] at hr
      exact hr.symm
     refine ⟨_, ⟨xs, rfl, by rw [hxl]; omega, fun r hr => ?_⟩, .one ?_ (by simp [NL]) rfl⟩
     ·obtain ⟨i, hi⟩ := List.getElem?_of_mem hr
      obtain ⟨hl', rfl⟩ := hxi i r hi
      exact (hC _).1
     ·rw [← hxl]
      let f : Nat → Nat → Value := fun i j => if h : i < len then (C ⟨i, h⟩).getD j (.bool true) else .bool true
      have hf : ∀ i (h : i < len) j v, (C ⟨i, h⟩)[j]? = some v → f i j = v := fun i h j v hv => by simp [f, h, hv]
      refine .ro e'.size xs blk off cap f (hE _ hbl) hbl (by rw [hxl]; exact hl) ?_ ?_ ?_ ?_ ?_
      ·intro i r hr
       obtain ⟨hi, rfl⟩ := hxi i r hr
       rw [(hC ⟨i, hi⟩).2.1.1, (hC ⟨i, hi⟩).2.2.1]
      ·intro i r j y hr hy
       obtain ⟨hi, rfl⟩ := hxi i r hr
       exact NLs.get (hC ⟨i, hi⟩).2.1.2.1 hy
      ·intro i j hi hj
       rw [hxl] at hi
       have hjl : j < (C ⟨i, hi⟩).length := by rw [(hC ⟨i, hi⟩).2.2.1]; exact hj
       rw [(hC ⟨i, hi⟩).2.2.2 j hj, hf i hi j _ (List.getElem?_eq_getElem hjl), List.getElem?_eq_getElem hjl]
      ·intro i j
       simp only [f]
       split
       ·rename_i hi
        rcases Nat.lt_or_ge j (C ⟨i, hi⟩).length with hj | hj
        ·simp only [List.getD_eq_getElem?_getD, List.getElem?_eq_getElem hj, Option.getD_some]
         exact (hC ⟨i, hi⟩).2.1.2.2.1 _ (List.getElem_mem hj)
        ·simp only [List.getD_eq_getElem?_getD, List.getElem?_eq_none hj]; rfl
       ·rfl
      ·intro i r j y hr hy
       obtain ⟨hi, rfl⟩ := hxi i r hr
       have hjl : j < (C ⟨i, hi⟩).length := by rw [← (hC ⟨i, hi⟩).2.1.1]; exact (List.getElem?_eq_some_iff.1 hy).1
       rw [hf i hi j _ (List.getElem?_eq_getElem hjl)]
       exact (hC ⟨i, hi⟩).2.1.2.2.2 j y _ hy (List.getElem?_eq_getElem hjl)
   ·rename_i fs hk
    obtain ⟨gs, rfl, hgs⟩ := TI.of_struct (hu.trans hk)
    obtain ⟨xs, m, _, _, hlen, hxl, hf⟩ := DataW.trod_struct hd h
    split at hc
    ·rename_i tot hcf
     have htot := Nat.eq_of_beq_eq_true hc
     have go : ∀ (l : List Field) (o : Nat), (∀ f ∈ l, ∃ y, DataW.trod enc P w base spare held m f.type ((cs.drop f.offset).take (P.cellsOf f.type)) = some y) →
       covF T (cov T n) o (l.map fun f => (f.offset, f.type, f.name != "_")) = some tot → ∃ ls, tyF (tyC T n) (l.map fun f => (f.offset, f.type, f.name != "_")) ls ∧ ReadsL E w ls (cs.drop o) := by
      intro l
      induction l with
      | nil =>
       intro o _ ho
       simp only [List.map_nil, covF, Option.some.injEq] at ho
       subst ho
       refine ⟨[], rfl, ?_⟩
       rw [List.drop_eq_nil_of_le (by omega)]
       exact ⟨rfl, trivial, by simp, fun i x v hx => by simp at hx⟩
      | cons f r ih =>
       intro o hall ho
       simp only [List.map_cons, covF] at ho
       split at ho
       ·rename_i e2 h1 h2 h3
        have := Nat.eq_of_beq_eq_true h1
        obtain ⟨ls, h4, h5⟩ := ih (o + e2.size) (fun g hg => hall g (List.mem_cons_of_mem _ hg)) ho
        obtain ⟨y, hy⟩ := hall f (List.mem_cons_self)
        rw [this, cellsOf_of hT h3] at hy
        obtain ⟨l1, h6, h7⟩ := reads hT hsp E hE n f.type m _ _ h2 hy
        refine ⟨l1 ++ ls, ⟨l1, ls, rfl, h6, h4⟩, ?_⟩
        have e : cs.drop o = (cs.drop o).take e2.size ++ cs.drop (o + e2.size) := by rw [← List.drop_drop, List.take_append_drop]
        rw [e]
        exact h7.append h5
       ·cases ho
     rw [← hgs] at hcf ⊢
     obtain ⟨ls, h1, h2⟩ := go gs.toList 0 (fun f hfm => by
      obtain ⟨i, hi⟩ := List.getElem?_of_mem hfm
      have hi' : gs[i]? = some f := by simpa using hi
      have hil : i < xs.length := by rw [hxl]; exact (Array.getElem?_eq_some_iff.1 hi').1
      exact ⟨xs[i], by rw [hf i f hi', List.getElem?_eq_getElem hil]⟩) hcf
     exact ⟨ls, h1, by simpa using h2⟩
    ·cases hc
   ·rename_i m el hk
    have := TI.of_arr (hu.trans hk); subst this
    simp only [Bool.and_eq_true] at hc
    obtain ⟨hc1, hc2⟩ := hc
    split at hc2
    ·rename_i e' he'
     have htot := Nat.eq_of_beq_eq_true hc2
     have hs' := cellsOf_of hT he'
     obtain ⟨fu, hlen, hf⟩ := trod_arr hd h
     rw [hsz, ← htot] at hlen
     rw [hs'] at hf
     have go : ∀ (j o : Nat), (∀ i, i < j → ∃ y, DataW.trod enc P w base spare held fu el ((cs.drop (o + i * e'.size)).take e'.size) = some y) → cs.length = o + j * e'.size → ∃ ls, tyA (tyC T n el) j ls ∧ ReadsL E w ls (cs.drop o) := by
      intro j
      induction j with
      | zero =>
       intro o _ ho
       refine ⟨[], rfl, ?_⟩
       rw [List.drop_eq_nil_of_le (by omega)]
       exact ⟨rfl, trivial, by simp, fun i x v hx => by simp at hx⟩
      | succ j ih =>
       intro o hall ho
       obtain ⟨y, hy⟩ := hall 0 (Nat.succ_pos j)
       rw [Nat.zero_mul, Nat.add_zero] at hy
       obtain ⟨l1, h6, h7⟩ := reads hT hsp E hE n el fu _ _ hc1 hy
       obtain ⟨ls, h4, h5⟩ := ih (o + e'.size) (fun i hi => by
        have := hall (i + 1) (by omega)
        rwa [Nat.succ_mul, Nat.add_comm (i * e'.size), ← Nat.add_assoc] at this) (by rw [ho, Nat.succ_mul]; omega)
       refine ⟨l1 ++ ls, ⟨l1, ls, rfl, h6, h4⟩, ?_⟩
       have e : cs.drop o = (cs.drop o).take e'.size ++ cs.drop (o + e'.size) := by rw [← List.drop_drop, List.take_append_drop]
       rw [e]
       exact h7.append h5
     obtain ⟨ls, h1, h2⟩ := go m 0 (fun i hi => by rw [Nat.zero_add]; exact hf i hi) (by omega)
     exact ⟨ls, h1, by simpa using h2⟩
    ·cases hc2
   ·cases hc
  ·cases hc
def E0 (w : World) : Env := ⟨0, fun _ => none, fun b => b < w.heap.size⟩

theorem plain_of_cell {r : Reach} {b0 u : Nat} {v : Value} (h : Cell.okWide P w r b0 u v) : plainC w v := by
 unfold plainC
 split
 ·rename_i a len cap
  simp only [Cell.okWide, Cell.ok] at h
  split at h <;> try simp_all
  split at h <;> try simp_all
  rename_i heq
  obtain ⟨rfl, rfl, rfl⟩ := heq
  obtain ⟨_, _, _, hs, row, cells, hsh, _⟩ := h
  refine ⟨hs, ?_⟩
  unfold World.shape? at hsh
  rcases Nat.lt_or_ge a.block w.heap.size with hb | hb
  ·exact hb
  ·rw [Array.getElem?_eq_none hb] at hsh; cases hsh
 ·trivial

def asV (T : List (Nat × TE)) (t : Nat) (ls : List LV) : LV :=
 match tyq T t with
 | some e => match e.u.isAgg with
  | true => .agg ls
  | false => match ls with
   | x :: _ => x
   | [] => .any
 | none => .any

theorem argL (hT : TOk P T) (hsp : ∀ b, spare b = true) {n t : Nat} {v : Value} {d : DataW H} {p : List MemPlace} {r : Reach} {b0 : Nat} (hc : cov T n t = true) (hval : Value.okWide P w r b0 t v) (h : DataW.Trod enc P w base spare held t v d p) :
  ∃ ls, tyC T n t ls ∧ NLs ls ∧ G (E0 w) w (asV T t ls) v := by
 obtain ⟨fuel, hf⟩ := h
 obtain ⟨ls, h1, h2⟩ := reads hT hsp (E0 w) (fun b hb => hb) n t fuel _ _ hc hf
 refine ⟨ls, h1, h2.2.1, ?_⟩
 cases n with
 | zero => cases hc
 | succ n =>
  simp only [cov] at hc
  simp only [asV]
  split at hc
  ·rename_i e he
   obtain ⟨dd, hd, hu⟩ := (hT t e he).desc
   cases ha : e.u.isAgg with
   | true =>
    have : ∃ cs, v = .agg cs := by
     unfold Value.okWide at hval
     split at hval
     ·obtain ⟨cs, rfl, _⟩ := hval; exact ⟨cs, rfl⟩
     ·obtain ⟨cs, rfl, _⟩ := hval; exact ⟨cs, rfl⟩
     ·rename_i h3 h4
      exfalso
      rw [hd] at h3 h4
      cases dd <;> simp [TI.of] at hu <;> rw [← hu] at ha <;> simp [TI.isAgg] at ha
      ·exact h4 _ _ rfl
      ·exact h3 _ rfl
    obtain ⟨cs, rfl⟩ := this
    have hcs : (Value.agg cs).cells.toList = cs.toList := rfl
    rw [hcs] at h2
    refine .agg ls cs (by simpa using h2.1.symm) (fun i hi => ?_) (fun i x hx => ?_)
    ·have := h2.2.2.1 cs[i] (by simp)
     simpa [Array.getD, hi] using this
    ·have hi : i < cs.size := by rw [← Array.length_toList, ← h2.1]; exact (List.getElem?_eq_some_iff.1 hx).1
     have := h2.2.2.2 i x cs[i] hx (by simp [hi])
     simpa [Array.getD, hi] using this
   | false =>
    have hone : v.cells = #[v] := by
     cases v with
     | agg cs =>
      exfalso
      unfold Value.okWide at hval
      rw [hd] at hval
      cases dd <;> simp [TI.of] at hu <;> rw [← hu] at ha <;> simp [TI.isAgg] at ha <;> simp_all [Cell.okWide, Cell.ok]
     | _ => rfl
    rw [hone] at h2
    have hl : ls.length = 1 := h2.1
    match ls, hl with
    | [x], _ => exact h2.2.2.2 0 x v rfl rfl
  ·cases hc

theorem Gs.mk0 {E : Env} : Gs E w [] [] := ⟨rfl, fun i x v h => by simp at h⟩
theorem Gs.mkc {E : Env} {x : LV} {v : Value} {l : List LV} {vs : List Value} (h : G E w x v) (h' : Gs E w l vs) : Gs E w (x :: l) (v :: vs) :=
 ⟨by simp [h'.1], fun i y u hy hu => by
  cases i with
  | zero => simp at hy hu; subst hy; subst hu; exact h
  | succ i => exact h'.2 i y u (by simpa using hy) (by simpa using hu)⟩

theorem CallP.law {f : FuncId} {args : List LV} (h : CallP P f args (.bool true)) {vals : List Value} (hg : Gs (E0 w) w args vals) :
  Calls P f vals.toArray w fun e w' => e = .returned (.bool true) ∧ Below w.heap.size w w' := by
 have hr : RelH (E0 w) ⟨0, []⟩ w := ⟨rfl, fun x e sz es h => by simp [look] at h, fun x es h => by simp [look] at h, fun _ _ => rfl, fun x b h => by simp [look] at h, fun x y k s s' h => (by cases h), fun x k s h => (by cases h), fun b hb => hb⟩
 refine ((h ⟨0, []⟩).2 (E0 w) w vals hr hg).mono fun e w' he => ?_
 cases e with
 | panicked c => exact he.elim
 | outgrown => exact he.elim
 | returned v =>
  obtain ⟨E1, lv, H1, ⟨rfl, rfl⟩, hr1, hgv, hx⟩ := he
  cases hgv
  exact ⟨rfl, hx.os, hx.tape, hx.output, hx.size, fun k hk => hx.keep k hk (fun x s h => by cases h)⟩
end

end Go.RX
