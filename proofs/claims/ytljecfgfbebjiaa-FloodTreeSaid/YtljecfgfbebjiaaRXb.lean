/- RX, part b: the table of types; what an operation that only reads comes to, and that the machine does so. -/
import Derived.Test.YtljecfgfbebjiaaRXa
set_option linter.unusedVariables false
namespace Go.RX

inductive TI where
 | int (k : IntKind) | bool | str
 | struct (fs : List (Nat × Nat × Bool))
 | arr (n e : Nat) | slice (e : Nat) | ptr (e : Nat) | iface (emp : Bool) | func | map (k e : Nat) | chan (e : Nat) | other

def TI.of : TypeDesc → TI
 | .int k => .int k
 | .bool => .bool
 | .string => .str
 | .struct fs => .struct (fs.toList.map fun f => (f.offset, f.type, f.name != "_"))
 | .array n e => .arr n e
 | .slice e => .slice e
 | .pointer e => .ptr e
 | .interface ms => .iface ms.isEmpty
 | .func _ _ _ => .func
 | .map k e => .map k e
 | .chan _ e => .chan e
 | _ => .other

def TI.isAgg : TI → Bool
 | .struct _ => true
 | .arr _ _ => true
 | _ => false

structure TE where
 u : TI
 size : Nat
 bytes : Nat
 zero : Value

def tyq : List (Nat × TE) → Nat → Option TE
 | [], _ => none
 | (j, v) :: r, i => match Nat.beq i j with
  | true => some v
  | false => tyq r i

def one (v : Value) : Bool := match v with
 | .agg _ => false
 | .tuple _ => false
 | _ => true

structure TEok (P : Program) (t : Nat) (e : TE) : Prop where
 und : (P.underlying t).map TI.of = some e.u
 info : (P.info? t).map (fun i => (i.zero, i.size, i.bytes)) = some (some e.zero, e.size, e.bytes)
 held : P.stoodInHeld t = false
 guard : e.u.isAgg = true → P.eqGuardType P.depth t = false
 zsize : e.zero.cells.size = e.size
 zone : ∀ i, i < e.zero.cells.size → (e.zero.cells.getD i undef).oneCell' = true

def TOk (P : Program) (T : List (Nat × TE)) : Prop := ∀ t e, tyq T t = some e → TEok P t e

theorem TOk.nil (P : Program) : TOk P [] := fun _ _ h => by cases h
theorem TOk.cons {P : Program} {T : List (Nat × TE)} {t : Nat} {e : TE} (h : TEok P t e) (hT : TOk P T) : TOk P ((t, e) :: T) := fun t' e' h' => by
 simp only [tyq] at h'
 cases hb : Nat.beq t' t with
 | true => rw [hb] at h'; cases h'; rw [Nat.eq_of_beq_eq_true hb]; exact h
 | false => rw [hb] at h'; exact hT t' e' h'

theorem TEok.desc {P : Program} {t : Nat} {e : TE} (h : TEok P t e) : ∃ d, P.underlying t = some d ∧ TI.of d = e.u := by
 have := h.und
 cases hd : P.underlying t with
 | none => rw [hd] at this; cases this
 | some d => rw [hd] at this; exact ⟨d, rfl, Option.some.inj this⟩
theorem TEok.inf {P : Program} {t : Nat} {e : TE} (h : TEok P t e) : ∃ i, P.info? t = some i ∧ i.zero = some e.zero ∧ i.size = e.size ∧ i.bytes = e.bytes := by
 have := h.info
 cases hd : P.info? t with
 | none => rw [hd] at this; cases this
 | some i =>
  rw [hd] at this
  have h2 := Option.some.inj this
  simp only [Prod.mk.injEq] at h2
  exact ⟨i, rfl, h2.1, h2.2.1, h2.2.2⟩

section tio
variable {d : TypeDesc}
theorem TI.of_int {k : IntKind} (h : TI.of d = .int k) : d = .int k := by cases d <;> simp_all [TI.of]
theorem TI.of_bool (h : TI.of d = .bool) : d = .bool := by cases d <;> simp_all [TI.of]
theorem TI.of_str (h : TI.of d = .str) : d = .string := by cases d <;> simp_all [TI.of]
theorem TI.of_slice {e : Nat} (h : TI.of d = .slice e) : d = .slice e := by cases d <;> simp_all [TI.of]
theorem TI.of_ptr {e : Nat} (h : TI.of d = .ptr e) : d = .pointer e := by cases d <;> simp_all [TI.of]
theorem TI.of_arr {n e : Nat} (h : TI.of d = .arr n e) : d = .array n e := by cases d <;> simp_all [TI.of]
theorem TI.of_map {n e : Nat} (h : TI.of d = .map n e) : d = .map n e := by cases d <;> simp_all [TI.of]
theorem TI.of_struct {fs : List (Nat × Nat × Bool)} (h : TI.of d = .struct fs) : ∃ gs, d = .struct gs ∧ gs.toList.map (fun f => (f.offset, f.type, f.name != "_")) = fs := by
 cases d <;> simp_all [TI.of]
theorem TI.of_iface {b : Bool} (h : TI.of d = .iface b) : ∃ ms, d = .interface ms ∧ ms.isEmpty = b := by cases d <;> simp_all [TI.of]
end tio

section runs
variable {P : Program} {T : List (Nat × TE)} {t : Nat} {e : TE} {w : World}
theorem run_und (h : TEok P t e) : ∃ d, (underlying t).run P w = .ok d w ∧ TI.of d = e.u := by
 obtain ⟨d, hd, hu⟩ := h.desc
 exact ⟨d, run_underlying hd w, hu⟩
theorem run_isAgg (h : TEok P t e) : (isAgg t).run P w = .ok e.u.isAgg w := by
 obtain ⟨d, hd, hu⟩ := h.desc
 simp only [isAgg, Sem.run_bind, run_underlying hd, Result.andThen_ok]
 rw [← hu]
 cases d <;> simp [TI.of, TI.isAgg]
theorem run_size (h : TEok P t e) : (sizeOf t).run P w = .ok e.size w := by
 obtain ⟨i, hi, _, hs, _⟩ := h.inf
 simp [sizeOf, typeInfo, hi, hs]
theorem run_zero (h : TEok P t e) : (zeroValue t).run P w = .ok e.zero w := by
 obtain ⟨i, hi, hz, _, _⟩ := h.inf
 simp [zeroValue, typeInfo, hi, hz]
end runs

def takeK : Nat → List LV → (List LV → Prop) → Prop
 | 0, _, k => k []
 | n + 1, c :: r, k => takeK n r fun l => k (c :: l)
 | _ + 1, [], _ => False

def dropN : Nat → List LV → List LV
 | 0, l => l
 | n + 1, _ :: r => dropN n r
 | _ + 1, [] => []

theorem dropN_get : ∀ (n : Nat) (l : List LV) (j : Nat), (dropN n l)[j]? = l[n + j]?
 | 0, l, j => by simp [dropN]
 | n + 1, [], j => by simp [dropN]
 | n + 1, c :: r, j => by rw [dropN, dropN_get n r j, show n + 1 + j = (n + j) + 1 by omega]; simp

theorem takeK_spec : ∀ (n : Nat) (l : List LV) (k : List LV → Prop), takeK n l k → ∃ m, k m ∧ m.length = n ∧ ∀ j, j < n → m[j]? = l[j]? ∧ (l[j]?).isSome
 | 0, _, k, h => ⟨[], h, rfl, fun j hj => by omega⟩
 | n + 1, [], k, h => h.elim
 | n + 1, c :: r, k, h => by
  obtain ⟨m, h1, h2, h3⟩ := takeK_spec n r _ h
  refine ⟨c :: m, h1, by simp [h2], fun j hj => ?_⟩
  cases j with
  | zero => simp
  | succ j => simpa using h3 j (by omega)

def partK (T : List (Nat × TE)) (t : Nat) (cs : List LV) (off : Nat) (k : LV → Prop) : Prop :=
 match tyq T t with
 | some e => match e.u.isAgg with
  | true => takeK e.size (dropN off cs) fun l => k (.agg l)
  | false => match dropN off cs with
   | c :: _ => k c
   | [] => False
 | none => False

section load
variable {P : Program} {T : List (Nat × TE)} {E : Env} {w : World}

theorem addr_add (b o n : Nat) : (⟨b, o, none⟩ : Addr).add n = ⟨b, o + n, none⟩ := by
 unfold Addr.add
 split
 ·rename_i h; subst h; rfl
 ·rfl

theorem partK_load (hT : TOk P T) {t : Nat} {cs : List LV} {off : Nat} {k : LV → Prop} (h : partK T t cs off k) {b o : Nat} {f : Nat → Value}
  (hc : ∀ j x, cs[j]? = some x → w.cell? ⟨b, o + j, none⟩ = some (f j)) (h1 : ∀ j x, cs[j]? = some x → (f j).oneCell' = true) (hg : ∀ j x, cs[j]? = some x → G E w x (f j)) :
  ∃ lv, k lv ∧ ∃ v, (loadVar t ⟨b, o + off, none⟩).run P w = .ok v w ∧ G E w lv v := by
 unfold partK at h
 cases hq : tyq T t with
 | none => rw [hq] at h; exact h.elim
 | some e =>
  rw [hq] at h
  have he := hT t e hq
  simp only at h
  cases ha : e.u.isAgg with
  | true =>
   rw [ha] at h
   obtain ⟨m, hk, hlen, hm⟩ := takeK_spec _ _ _ h
   have hm' : ∀ j, j < e.size → m[j]? = cs[off + j]? ∧ (cs[off + j]?).isSome := fun j hj => by
    have := hm j hj
    rwa [dropN_get] at this
   refine ⟨_, hk, .agg ((List.range e.size).map fun j => f (off + j)).toArray, ?_, ?_⟩
   ·simp only [loadVar, Sem.run_bind, run_isAgg he, ha, Result.andThen_ok, if_true, run_size he]
    rw [run_loadCells w ⟨b, o + off, none⟩ e.size (fun j => f (off + j))]
    ·rfl
    ·intro j hj
     obtain ⟨x, hx⟩ := Option.isSome_iff_exists.1 (hm' j hj).2
     rw [addr_add, Nat.add_assoc]
     exact hc (off + j) x hx
   ·refine .agg m _ (by simp [hlen]) ?_ ?_
    ·intro i hi
     have hi' : i < e.size := by simpa using hi
     obtain ⟨x, hx⟩ := Option.isSome_iff_exists.1 (hm' i hi').2
     simpa [Array.getD, hi'] using h1 _ x hx
    ·intro i x hx
     have hi : i < e.size := by
      rcases Nat.lt_or_ge i e.size with h' | h'
      ·exact h'
      ·rw [List.getElem?_eq_none (by omega)] at hx; cases hx
     have := hg (off + i) x (by rw [← (hm' i hi).1]; exact hx)
     simpa [Array.getD, hi] using this
  | false =>
   rw [ha] at h
   simp only at h
   cases hd : dropN off cs with
   | nil => rw [hd] at h; exact h.elim
   | cons c r =>
    rw [hd] at h
    have hx : cs[off]? = some c := by
     have := dropN_get off cs 0
     rw [hd] at this
     simpa using this.symm
    refine ⟨c, h, f off, ?_, hg off c hx⟩
    simp only [loadVar, Sem.run_bind, run_isAgg he, ha, Result.andThen_ok, Bool.false_eq_true, if_false]
    simp [hc off c hx]

theorem partK_part (hT : TOk P T) {t : Nat} {cs : List LV} {off : Nat} {k : LV → Prop} (h : partK T t cs off k) {arr : Array Value}
  (hl : arr.size = cs.length) (h1 : ∀ i, i < arr.size → (arr.getD i undef).oneCell' = true) (hg : ∀ j x, cs[j]? = some x → G E w x (arr.getD j undef)) :
  ∃ lv, k lv ∧ ∃ v, (part t arr off).run P w = .ok v w ∧ G E w lv v := by
 unfold partK at h
 cases hq : tyq T t with
 | none => rw [hq] at h; exact h.elim
 | some e =>
  rw [hq] at h
  have he := hT t e hq
  simp only at h
  cases ha : e.u.isAgg with
  | true =>
   rw [ha] at h
   obtain ⟨m, hk, hlen, hm⟩ := takeK_spec _ _ _ h
   have hm' : ∀ j, j < e.size → m[j]? = cs[off + j]? ∧ (cs[off + j]?).isSome := fun j hj => by
    have := hm j hj
    rwa [dropN_get] at this
   have hlt : ∀ j, j < e.size → off + j < arr.size := fun j hj => by
    obtain ⟨x, hx⟩ := Option.isSome_iff_exists.1 (hm' j hj).2
    rw [hl]; exact (List.getElem?_eq_some_iff.1 hx).1
   have hsz : (arr.extract off (off + e.size)).size = e.size := by
    rw [Array.size_extract]
    rcases Nat.eq_zero_or_pos e.size with h0 | h0
    ·omega
    ·have := hlt (e.size - 1) (by omega); omega
   refine ⟨_, hk, .agg (arr.extract off (off + e.size)), ?_, ?_⟩
   ·simp only [part, Sem.run_bind, run_isAgg he, ha, Result.andThen_ok, if_true, run_size he]
    rfl
   ·have hget : ∀ i, i < e.size → (arr.extract off (off + e.size)).getD i undef = arr.getD (off + i) undef := fun i hi => by
     have := hlt i hi
     simp [Array.getD, hsz, hi, this]
    refine .agg m _ (by rw [hsz, hlen]) ?_ ?_
    ·intro i hi
     rw [hget i (by omega)]
     exact h1 _ (hlt i (by omega))
    ·intro i x hx
     have hi : i < e.size := by
      rcases Nat.lt_or_ge i e.size with h' | h'
      ·exact h'
      ·rw [List.getElem?_eq_none (by omega)] at hx; cases hx
     rw [hget i hi]
     exact hg (off + i) x (by rw [← (hm' i hi).1]; exact hx)
  | false =>
   rw [ha] at h
   simp only at h
   cases hd : dropN off cs with
   | nil => rw [hd] at h; exact h.elim
   | cons c r =>
    rw [hd] at h
    have hx : cs[off]? = some c := by
     have := dropN_get off cs 0
     rw [hd] at this
     simpa using this.symm
    have hlt : off < arr.size := by rw [hl]; exact (List.getElem?_eq_some_iff.1 hx).1
    refine ⟨c, h, arr.getD off undef, ?_, hg off c hx⟩
    simp only [part, Sem.run_bind, run_isAgg he, ha, Result.andThen_ok, Bool.false_eq_true, if_false]
    simp [Array.getD, hlt]
end load

end Go.RX
