/- What is kept of a table: flushed, unpinned, swept, plainly. -/
import Derived.Test.YtknjenjjhdhemaaFj
import Derived.Test.YtknjenjjhdhemaaPQ
import Derived.Test.YtknjenjjhdhemaaUe
import Derived.Test.YtknjenjjhdhemaaFl
import Derived.KernelRfl
set_option linter.unusedVariables false
set_option linter.unusedSimpArgs false
open Go Go.RX
namespace Go.RX
section
set_option maxHeartbeats 1000000

def tf (t : Tb) (p : En → Bool) : Tb := ⟨t.Buckets.map (·.filter p), t.Slots, t.Age⟩
theorem keep_loop {ρ : Type} {body : Nat → Tb → Option (Step ρ Tb)} (p : En → Bool) {t : Tb} (hn : t.Buckets.length ≤ 1000) (hb : ∀ (k : Nat) (s : Tb) (v : List En), t.Buckets[k]? = some v → s.Buckets[k]? = some v → s.Buckets.length = t.Buckets.length → body k s = some (.nxt ⟨s.Buckets.set k (v.filter p), s.Slots, s.Age⟩)) :
  rangeN body ((t.Buckets.length : Nat) : Int) t = some (.nxt (tf t p)) := by
 have e := rangeN_up (body := body) (n := ((t.Buckets.length : Nat) : Int)) (s0 := t) (by omega) (fun k => (⟨(t.Buckets.take k).map (·.filter p) ++ t.Buckets.drop k, t.Slots, t.Age⟩ : Tb)) (by simp) (fun k hk => by
  have hk' : k < t.Buckets.length := by omega
  have hv : t.Buckets[k]? = some t.Buckets[k] := List.getElem?_eq_getElem hk'
  have hlt : ((t.Buckets.take k).map (·.filter p)).length = k := by rw [List.length_map, List.length_take]; omega
  have hd : t.Buckets.drop k = t.Buckets[k] :: t.Buckets.drop (k + 1) := List.drop_eq_getElem_cons hk'
  rw [hb k _ _ hv (by
   show ((t.Buckets.take k).map (·.filter p) ++ t.Buckets.drop k)[k]? = _
   rw [List.getElem?_append_right (by omega), hlt, Nat.sub_self, hd]; rfl) (by
   show ((t.Buckets.take k).map (·.filter p) ++ t.Buckets.drop k).length = _
   rw [List.length_append, hlt, List.length_drop]; omega)]
  congr 2
  show (⟨((t.Buckets.take k).map (·.filter p) ++ t.Buckets.drop k).set k (t.Buckets[k].filter p), t.Slots, t.Age⟩ : Tb) = _
  rw [List.set_append_right _ _ (by omega), hlt, Nat.sub_self, hd, List.take_succ_eq_append_getElem hk', List.map_append, List.set_cons_zero]
  simp)
 rw [e, Int.toNat_natCast, List.take_length, List.drop_length, List.append_nil]
 rfl
theorem buck4 {t : Tb} (h : TbOk t) {k : Nat} {v : List En} (hv : t.Buckets[k]? = some v) : v.length ≤ 4 := by
 have h1 := (h.2 k v hv).2
 have h2 := h.1.2.1.2
 omega
theorem del_body {q : En → Option Bool} {p : En → Bool} (hq : ∀ e, q e = some (!p e)) {v : List En} (hv : v.length ≤ 4) : slices_DeleteFunc_Entry v q = some (v.filter p) := by
 have := delG_eq (q := q) (p := fun e => !p e) (l := v) (by omega) (fun x _ => hq x)
 rw [show slices_DeleteFunc_Entry v q = delG q v from rfl, this]
 simp
theorem Flush_eq {t : Tb} (h : TbOk t) {port : Int} (hp : port = -1 ∨ (0 ≤ port ∧ port ≤ 7)) : fdb_Flush t port = some (tf t (fun e => e.Static || (!decide (port = -1) && !decide (e.Port = port))), 0) := by
 have hn := n16 h
 obtain ⟨b, h1, h2⟩ := Right_prog (small_of h)
 have hb : b = true := h2.2 h
 subst hb
 have hq : ∀ e, fdb_keep_1_fdb_Flush_1 e port = some (!(e.Static || (!decide (port = -1) && !decide (e.Port = port)))) := fun e => by
  unfold fdb_keep_1_fdb_Flush_1 fdb_Flush_1
  cases e.Static <;> by_cases h : port = -1 <;> by_cases g : e.Port = port <;> simp [h, g]
 have hk : fdb_keep_fdb_Flush_1 t port = some (tf t (fun e => e.Static || (!decide (port = -1) && !decide (e.Port = port)))) := by
  unfold fdb_keep_fdb_Flush_1
  rw [own_eq (by omega)]
  simp only [Option.bind_some]
  rw [keep_loop (fun e => e.Static || (!decide (port = -1) && !decide (e.Port = port))) (by omega) (fun k s v hv hs hl => by
   have hk := (List.getElem?_eq_some_iff.1 hs).1
   have h4 := buck4 h hv
   unfold fdb_keep_fdb_Flush_1_c0
   rw [grd_true ⟨by omega, by omega⟩, Int.toNat_natCast, show gixN s.Buckets k = some v from hs]
   simp only [Option.bind_some]
   rw [clone_eq (by omega)]
   simp only [Option.bind_some]
   rw [del_body hq h4]
   simp only [Option.bind_some]
   rw [grd_true ⟨by omega, by omega⟩]), aft_some_nxt]
 unfold fdb_Flush
 rw [h1, isPort_eq, hk]
 simp only [Option.bind_some, gd_some]
 rcases hp with hp | hp
 ·subst hp; rfl
 ·have : ¬ port = -1 := by omega
  simp [this, hp]
theorem Unpin_eq {t : Tb} (h : TbOk t) {a : Int} (ha : Uni a) : fdb_Unpin t a = some (if ∃ e ∈ bk t a, e.Mac = a ∧ e.Static = true then (tf t (fun e => !decide (e.Mac = a)), 0) else (⟨[], 0, 0⟩, 4)) := by
 have hn := n16 h
 obtain ⟨b, h1, h2⟩ := Right_prog (small_of h)
 have hb : b = true := h2.2 h
 subst hb
 have hq : ∀ e, fdb_keep_1_fdb_Unpin_1 e a = some (!(!decide (e.Mac = a))) := fun e => by
  unfold fdb_keep_1_fdb_Unpin_1 fdb_Unpin_1
  by_cases h : e.Mac = a <;> simp [h]
 have hk : fdb_keep_fdb_Unpin_1 t a = some (tf t (fun e => !decide (e.Mac = a))) := by
  unfold fdb_keep_fdb_Unpin_1
  rw [own_eq (by omega)]
  simp only [Option.bind_some]
  rw [keep_loop (fun e => !decide (e.Mac = a)) (by omega) (fun k s v hv hs hl => by
   have hk := (List.getElem?_eq_some_iff.1 hs).1
   have h4 := buck4 h hv
   unfold fdb_keep_fdb_Unpin_1_c0
   rw [grd_true ⟨by omega, by omega⟩, Int.toNat_natCast, show gixN s.Buckets k = some v from hs]
   simp only [Option.bind_some]
   rw [clone_eq (by omega)]
   simp only [Option.bind_some]
   rw [del_body hq h4]
   simp only [Option.bind_some]
   rw [grd_true ⟨by omega, by omega⟩]), aft_some_nxt]
 have hl := h.len4 a
 have hbk : gix t.Buckets ((bkt a.toNat t.Buckets.length : Nat) : Int) = some (bk t a) := by rw [gix_nat]; exact h.bucket a
 have hnd := (h.bok a).1.1
 unfold fdb_Unpin fdb_pinned
 rw [h1, isMac_eq, hk, place_eq h ha]
 simp only [Option.bind_some, gd_some, decide_eq_true ha, Bool.not_true, Bool.not_false, cond_true, cond_false, hbk]
 by_cases hp : 0 ≤ plc (bk t a) a
 ·obtain ⟨e, h4, h5⟩ := plc_get hp
  have hg : gix (bk t a) (plc (bk t a) a) = some e := gix_of hp h4
  simp only [decide_eq_true hp, cond_true, gd_true, hg, Option.bind_some]
  have huniq : ∀ x ∈ bk t a, x.Mac = a → x = e := fun x hx hm => by
   obtain ⟨j, hj⟩ := List.getElem?_of_mem hx
   have hj1 := (List.getElem?_eq_some_iff.1 hj).1
   have hi1 := (List.getElem?_eq_some_iff.1 h4).1
   have hpw := List.pairwise_iff_getElem.1 hnd
   have ej : ((bk t a).map (·.Mac))[j]'(by simpa using hj1) = a := by
    rw [List.getElem_map, (List.getElem?_eq_some_iff.1 hj).2, hm]
   have ei : ((bk t a).map (·.Mac))[(plc (bk t a) a).toNat]'(by simpa using hi1) = a := by
    rw [List.getElem_map, (List.getElem?_eq_some_iff.1 h4).2, h5]
   rcases Nat.lt_trichotomy j (plc (bk t a) a).toNat with hlt | heq | hlt
   ·exact absurd (ej.trans ei.symm) (hpw _ _ _ _ hlt)
   ·rw [heq, h4] at hj
    exact (Option.some.inj hj).symm
   ·exact absurd (ei.trans ej.symm) (hpw _ _ _ _ hlt)
  cases hs : e.Static
  ·rw [if_neg (fun ⟨x, hx, hm, hst⟩ => by rw [huniq x hx hm, hs] at hst; cases hst)]
   rfl
  ·rw [if_pos ⟨e, List.mem_of_getElem? h4, h5, hs⟩]
   rfl
 ·simp only [decide_eq_false hp, cond_false, gd_false, Option.bind_some]
  rw [if_neg (fun ⟨x, hx, hm, _⟩ => hp (plc_mem.2 (List.mem_map.2 ⟨x, hx, hm⟩)))]
  rfl

def tm (A : Int) : Nat → List En → List Tm
 | _, [] => []
 | i, e :: l => ⟨(i : Int), e.Seen + A + 1⟩ :: tm A (i + 1) l
theorem tm_app (A : Int) : ∀ (l : List En) (i : Nat) (x : En), tm A i (l ++ [x]) = tm A i l ++ [⟨((i + l.length : Nat) : Int), x.Seen + A + 1⟩]
 | [], i, x => by simp [tm]
 | e :: l, i, x => by
  simp only [List.cons_append, tm, tm_app A l (i + 1) x, List.length_cons]
  rw [show i + 1 + l.length = i + (l.length + 1) by omega]
theorem tm_mem {A : Int} {x : Tm} : ∀ {l : List En} {i : Nat}, x ∈ tm A i l ↔ ∃ (j : Nat) (e : En), l[j]? = some e ∧ x = ⟨((i + j : Nat) : Int), e.Seen + A + 1⟩
 | [], i => by simp [tm]
 | e :: l, i => by
  rw [tm, List.mem_cons, tm_mem]
  constructor
  ·rintro (h | ⟨j, y, h1, h2⟩)
   ·exact ⟨0, e, rfl, h⟩
   ·exact ⟨j + 1, y, by simpa using h1, by rw [h2, show i + 1 + j = i + (j + 1) by omega]⟩
  ·rintro ⟨j, y, h1, h2⟩
   cases j with
   | zero => simp at h1; subst h1; exact .inl h2
   | succ j => exact .inr ⟨j, y, by simpa using h1, by rw [h2, show i + 1 + j = i + (j + 1) by omega]⟩
theorem tm_len (A : Int) : ∀ (l : List En) (i : Nat), (tm A i l).length = l.length
 | [], _ => rfl
 | e :: l, i => by simp [tm, tm_len A l]
def ages (A : Int) (e : En) : Bool := !e.Static && decide (e.Seen + A + 1 ≤ 1099511627776)
theorem flat_len {t : Tb} (h : TbOk t) : ∀ k, (t.Buckets.take k).flatten.length ≤ 4 * k := by
 intro k
 induction k with
 | zero => simp
 | succ k ih =>
  by_cases hk : k < t.Buckets.length
  ·have hv : t.Buckets[k]? = some t.Buckets[k] := List.getElem?_eq_getElem hk
   have := buck4 h hv
   rw [List.take_succ_eq_append_getElem hk, List.flatten_append, List.length_append, List.flatten_cons, List.flatten_nil, List.append_nil]
   omega
  ·rw [List.take_of_length_le (by omega)]
   rw [List.take_of_length_le (by omega)] at ih
   omega
theorem arm_next {A : Int} {T : List Tm} {all : List En} {x : En} (hT : TLOk T) (hp : T.Perm (tm A 0 all)) (hlen : all.length + 1 ≤ 64) (hx : 0 ≤ x.Seen + A + 1) (hx2 : x.Seen + A + 1 ≤ 1099511627776) :
  ∃ L, wheel_Arm T ⟨((all.length : Nat) : Int), x.Seen + A + 1⟩ = some (L, 0) ∧ TLOk L ∧ L.Perm (tm A 0 (all ++ [x])) := by
 have ht : TmOk ⟨((all.length : Nat) : Int), x.Seen + A + 1⟩ := ⟨by show (0 : Int) ≤ ((all.length : Nat) : Int); omega, hx, hx2⟩
 have hU : armU T ⟨((all.length : Nat) : Int), x.Seen + A + 1⟩ = T ++ [⟨((all.length : Nat) : Int), x.Seen + A + 1⟩] := by
  unfold armU
  rw [List.filter_eq_self.2 fun y hy => by
   obtain ⟨j, e, h1, h2⟩ := tm_mem.1 (hp.mem_iff.1 hy)
   have hj := (List.getElem?_eq_some_iff.1 h1).1
   have : ¬ y.ID = ((all.length : Nat) : Int) := by
    rw [h2]; show ¬ ((0 + j : Nat) : Int) = _; omega
   simp [this]]
 have hTl : T.length = all.length := by rw [hp.length_eq, tm_len]
 rcases Arm_eq hT ht with ⟨g, _⟩ | ⟨_, L, l1, l2, l3⟩
 ·rw [hU, List.length_append, hTl] at g; simp at g; omega
 ·refine ⟨L, l1, l3, l2.trans ?_⟩
  rw [hU, tm_app, Nat.zero_add]
  exact hp.append_right _
theorem sweep_in {t : Tb} (h : TbOk t) {k : Nat} {l : List En} (hl : t.Buckets[k]? = some l) {T0 : List Tm} {all0 : List En} (hT : TLOk T0) (hp : T0.Perm (tm t.Age 0 all0)) (ha : all0.length ≤ 4 * k) :
  ∃ T, rangeL (fdb_Sweep_c1 t) l (T0, all0) = some (.nxt (T, all0 ++ l.filter (ages t.Age))) ∧ TLOk T ∧ T.Perm (tm t.Age 0 (all0 ++ l.filter (ages t.Age))) := by
 have h4 := buck4 h hl
 have hk := (List.getElem?_eq_some_iff.1 hl).1
 have hn := n16 h
 have hage := h.1.2.2
 obtain ⟨s, h1, h2, h3, h5⟩ := rangeL_inv (ρ := Step (Tb × Int) (List Tm × List En)) (body := fdb_Sweep_c1 t) (xs := l) (s0 := (T0, all0)) (by omega) (fun j s => s.2 = all0 ++ (l.take j).filter (ages t.Age) ∧ TLOk s.1 ∧ s.1.Perm (tm t.Age 0 s.2)) ⟨by simp, hT, hp⟩ (fun j x s hx ⟨i1, i2, i3⟩ => by
  have hj := (List.getElem?_eq_some_iff.1 hx).1
  have he := (h.2 k l hl).1.2 x (List.mem_of_getElem? hx)
  have hseen := he.2.2.1
  have ht : l.take (j + 1) = l.take j ++ [x] := by rw [List.take_add_one, hx]; rfl
  have hfl := List.length_filter_le (ages t.Age) (l.take j)
  rw [List.length_take] at hfl
  have hs2 : s.2.length + 1 ≤ 64 := by rw [i1, List.length_append]; omega
  unfold fdb_Sweep_c1
  rw [w64t (x := x.Seen + t.Age) (by omega) (by omega), w64t (x := x.Seen + t.Age + 1) (by omega) (by omega)]
  rw [ht, List.filter_append]
  by_cases hc : ages t.Age x = true
  ·have hc' := hc
   unfold ages at hc'
   rw [Bool.and_eq_true] at hc'
   have e1 : (bif !x.Static then decide (x.Seen + t.Age + 1 ≤ 1099511627776) else false) = true := by rw [hc'.1, hc'.2]; rfl
   obtain ⟨L, l1, l2, l3⟩ := arm_next (A := t.Age) (x := x) i2 i3 hs2 (by omega) (by simpa using hc'.2)
   rw [e1]
   simp only [cond_true]
   rw [l1]
   simp only [Option.bind_some]
   rw [grd_true (fitsT (by rw [List.length_append]; simp; omega) (by omega))]
   refine ⟨_, rfl, ?_, l2, l3⟩
   show s.2 ++ [x] = _
   rw [i1, List.filter_cons, if_pos hc, List.filter_nil, List.append_assoc]
  ·have e1 : (bif !x.Static then decide (x.Seen + t.Age + 1 ≤ 1099511627776) else false) = false := by
    unfold ages at hc
    cases hs : x.Static
    ·rw [hs] at hc; simpa using hc
    ·rfl
   rw [e1]
   simp only [cond_false]
   refine ⟨_, rfl, ?_, i2, i3⟩
   rw [List.filter_cons, if_neg hc, List.filter_nil, List.append_nil]
   exact i1)
 rw [List.take_length] at h2
 obtain ⟨s1, s2⟩ := s
 simp only at h2 h3 h5
 subst h2
 exact ⟨s1, h1, h3, h5⟩
theorem tl_nil : TLOk [] := ⟨⟨by simp, by simp, by simp⟩, by simp⟩
theorem sweep_out {t : Tb} (h : TbOk t) : ∃ T all, rangeL (fdb_Sweep_c0 t) t.Buckets (([] : List Tm), ([] : List En)) = some (.nxt (T, all)) ∧ TLOk T ∧ T.Perm (tm t.Age 0 all) ∧ (∀ e, e ∈ all ↔ (∃ l ∈ t.Buckets, e ∈ l) ∧ ages t.Age e = true) ∧ all.length ≤ 64 := by
 have hn := n16 h
 obtain ⟨s, h1, h2, h3, h5⟩ := rangeL_inv (ρ := Tb × Int) (body := fdb_Sweep_c0 t) (xs := t.Buckets) (s0 := (([] : List Tm), ([] : List En))) (by omega) (fun k s => s.2 = (t.Buckets.take k).flatten.filter (ages t.Age) ∧ TLOk s.1 ∧ s.1.Perm (tm t.Age 0 s.2)) ⟨by simp, tl_nil, List.Perm.refl _⟩ (fun k l s hl ⟨i1, i2, i3⟩ => by
  have hk := (List.getElem?_eq_some_iff.1 hl).1
  have hfl := List.length_filter_le (ages t.Age) (t.Buckets.take k).flatten
  have hf4 := flat_len h k
  obtain ⟨T, t1, t2, t3⟩ := sweep_in h hl i2 i3 (by rw [i1]; omega)
  unfold fdb_Sweep_c0
  rw [t1, aft_some_nxt]
  refine ⟨_, rfl, ?_, t2, t3⟩
  show s.2 ++ l.filter (ages t.Age) = _
  have ht : t.Buckets.take (k + 1) = t.Buckets.take k ++ [l] := by rw [List.take_add_one, hl]; rfl
  rw [ht, List.flatten_append, List.filter_append, i1]
  simp)
 rw [List.take_length] at h2
 refine ⟨s.1, s.2, h1, h3, h5, fun e => ?_, ?_⟩
 ·rw [h2, List.mem_filter, List.mem_flatten]
 ·rw [h2]
  have hfl := List.length_filter_le (ages t.Age) t.Buckets.flatten
  have hf4 := flat_len h t.Buckets.length
  rw [List.take_length] at hf4
  omega
theorem idxX_eq {l : List En} (hl : l.length ≤ 1000) (m : List (En × Bool)) : slices_IndexFunc_Entry_x l m = idxG (fun e => fdb_keep_1_x e m) l := by
 have hq : ∀ e, fdb_keep_1_x e m = some (mget m e false) := fun e => by
  unfold fdb_keep_1_x fdb_Sweep_1_x
  simp
 have hb : ∀ (k : Nat) (x : En), l[k]? = some x → slices_IndexFunc_Entry_x_c0 l m k () = some (bif mget m x false then .ret ((k : Nat) : Int) else .nxt ()) := fun k x hx => by
  have hk := (List.getElem?_eq_some_iff.1 hx).1
  unfold slices_IndexFunc_Entry_x_c0
  rw [grd_true ⟨by omega, by omega⟩, Int.toNat_natCast, show gixN l k = some x from hx]
  simp only [Option.bind_some, hq]
  cases mget m x false <;> rfl
 obtain ⟨o, h1, h2⟩ := rangeN_rec (s0 := ()) (body := slices_IndexFunc_Entry_x_c0 l m) (n := ((l.length : Nat) : Int)) (by omega) (fun k _ => ∀ j y, j < k → l[j]? = some y → mget m y false = false) (fun r => ∃ k x, l[k]? = some x ∧ mget m x false = true ∧ (∀ j y, j < k → l[j]? = some y → mget m y false = false) ∧ r = ((k : Nat) : Int)) (fun _ => False) (fun j y h => by omega) (fun k s hk hi => by
  have hk' : k < l.length := by omega
  have hx : l[k]? = some l[k] := List.getElem?_eq_getElem hk'
  refine ⟨_, hb k _ hx, ?_⟩
  cases hm : mget m l[k] false with
  | true => exact ⟨k, _, hx, hm, hi, rfl⟩
  | false =>
   intro j y hj hy
   by_cases hjk : j = k
   ·subst hjk
    rw [hx] at hy
    rw [← Option.some.inj hy]; exact hm
   ·exact hi j y (by omega) hy)
 unfold slices_IndexFunc_Entry_x
 rw [h1]
 rcases idxG_eq (q := fun e => fdb_keep_1_x e m) (p := fun e => mget m e false) (l := l) (by omega) (fun x _ => hq x) with ⟨k, x, hx, hp, hj, h3⟩ | ⟨hp, h3⟩
 ·rw [h3]
  cases o with
  | ret r =>
   obtain ⟨k', x', hx', hp', hj', rfl⟩ := h2
   rw [aft_some_ret]
   rcases Nat.lt_trichotomy k k' with h | h | h
   ·have := hj' k x h hx; rw [hp] at this; cases this
   ·rw [h]
   ·have := hj k' x' h hx'; rw [hp'] at this; cases this
  | brk s => exact h2.elim
  | nxt s =>
   have h4 := h2.resolve_right id
   have hk := (List.getElem?_eq_some_iff.1 hx).1
   have := h4 k x (by omega) hx
   rw [hp] at this; cases this
 ·rw [h3]
  cases o with
  | ret r =>
   obtain ⟨k', x', hx', hp', hj', rfl⟩ := h2
   have := hp x' (List.mem_of_getElem? hx')
   rw [hp'] at this; cases this
  | brk s => exact h2.elim
  | nxt s => rw [aft_some_nxt]
theorem delX_eq {l : List En} (hl : l.length ≤ 1000) (m : List (En × Bool)) : slices_DeleteFunc_Entry_x l m = some (l.filter fun e => !mget m e false) := by
 have hq : ∀ e, fdb_keep_1_x e m = some (mget m e false) := fun e => by
  unfold fdb_keep_1_x fdb_Sweep_1_x
  simp
 have h1 : slices_DeleteFunc_Entry_x l m = delG (fun e => fdb_keep_1_x e m) l := by
  unfold slices_DeleteFunc_Entry_x
  rw [idxX_eq hl]
  rfl
 rw [h1, delG_eq (p := fun e => mget m e false) (by omega) (fun x _ => hq x)]
theorem Sweep_eq {t : Tb} (h : TbOk t) {now : Int} (h0 : 0 ≤ now) (h1 : now ≤ 1099511627776) : fdb_Sweep t now = some (tf t (fun e => e.Static || decide (now - e.Seen ≤ t.Age)), 0) := by
 have hn := n16 h
 obtain ⟨b, r1, r2⟩ := Right_prog (small_of h)
 have hb : b = true := r2.2 h
 subst hb
 obtain ⟨T, all, s1, s2, s3, s4, s5⟩ := sweep_out h
 obtain ⟨k, k1, k2, k3, k4⟩ := Advance_eq s2 h0 h1
 have hT64 := s2.2
 -- what is due
 have hdue : ∀ x, x ∈ T.take k ↔ x ∈ T ∧ x.At ≤ now := fun x => by
  constructor
  ·intro hx
   exact ⟨(List.take_sublist k T).mem hx, k3 x hx⟩
  ·intro ⟨hx, hle⟩
   rw [← List.take_append_drop k T] at hx
   rcases List.mem_append.1 hx with hx | hx
   ·exact hx
   ·have := k4 x hx; omega
 have hid : ∀ x ∈ T, ∃ e, all[x.ID.toNat]? = some e ∧ 0 ≤ x.ID ∧ x.At = e.Seen + t.Age + 1 := fun x hx => by
  obtain ⟨j, e, e1, e2⟩ := tm_mem.1 (s3.mem_iff.1 hx)
  rw [Nat.zero_add] at e2
  rw [e2]
  exact ⟨e, by simpa using e1, by show (0 : Int) ≤ ((j : Nat) : Int); omega, rfl⟩
 obtain ⟨m, m1, m2⟩ := rangeL_inv (ρ := Tb × Int) (body := fdb_Sweep_c2 (T, all)) (xs := T.take k) (s0 := ([] : List (En × Bool))) (by rw [List.length_take]; omega) (fun j m => ∀ e, mget m e false = true ↔ ∃ x ∈ (T.take k).take j, all[x.ID.toNat]? = some e) (fun e => by simp [mget_nil]) (fun j x m hx hi => by
  have hxT : x ∈ T := (List.take_sublist k T).mem (List.mem_of_getElem? hx)
  obtain ⟨e, e1, e2, e3⟩ := hid x hxT
  have he := (List.getElem?_eq_some_iff.1 e1).1
  have ht : (T.take k).take (j + 1) = (T.take k).take j ++ [x] := by rw [List.take_add_one, hx]; rfl
  unfold fdb_Sweep_c2
  simp only
  rw [grd_true ⟨by omega, by omega⟩, show gixN all x.ID.toNat = some e from e1]
  refine ⟨_, rfl, fun z => ?_⟩
  rw [ht]
  by_cases hz : e = z
  ·subst hz
   rw [mget_mput]
   exact ⟨fun _ => ⟨x, by simp, e1⟩, fun _ => rfl⟩
  ·rw [mget_mput_ne hz, hi]
   constructor
   ·rintro ⟨y, hy, hy2⟩; exact ⟨y, List.mem_append_left _ hy, hy2⟩
   ·rintro ⟨y, hy, hy2⟩
    rcases List.mem_append.1 hy with hy | hy
    ·exact ⟨y, hy, hy2⟩
    ·simp at hy; subst hy
     rw [e1] at hy2
     exact absurd (Option.some.inj hy2) hz)
 rw [List.take_length] at m2
 -- who is old
 have hold : ∀ l ∈ t.Buckets, ∀ e ∈ l, (!mget m e false) = (e.Static || decide (now - e.Seen ≤ t.Age)) := fun l hl e he => by
  have key : mget m e false = true ↔ (e.Static = false ∧ ¬ now - e.Seen ≤ t.Age) := by
   rw [m2]
   constructor
   ·rintro ⟨x, hx, hx2⟩
    obtain ⟨hxT, hxn⟩ := (hdue x).1 hx
    obtain ⟨e', e1, e2, e3⟩ := hid x hxT
    rw [e1] at hx2
    have := Option.some.inj hx2
    subst this
    have hag := ((s4 e').1 (List.mem_of_getElem? e1)).2
    unfold ages at hag
    rw [Bool.and_eq_true] at hag
    exact ⟨by simpa using hag.1, by omega⟩
   ·intro ⟨g1, g2⟩
    have hag : ages t.Age e = true := by
     unfold ages
     rw [g1]
     simp; omega
    obtain ⟨j, hj⟩ := List.getElem?_of_mem ((s4 e).2 ⟨⟨l, hl, he⟩, hag⟩)
    have hx : (⟨((j : Nat) : Int), e.Seen + t.Age + 1⟩ : Tm) ∈ T := s3.mem_iff.2 (tm_mem.2 ⟨j, e, hj, by rw [Nat.zero_add]⟩)
    exact ⟨_, (hdue _).2 ⟨hx, by show e.Seen + t.Age + 1 ≤ now; omega⟩, by simpa using hj⟩
  cases hs : e.Static
  ·by_cases hd : now - e.Seen ≤ t.Age
   ·have : ¬ mget m e false = true := fun g => (key.1 g).2 hd
    simp [hd, this]
   ·have : mget m e false = true := key.2 ⟨hs, hd⟩
    simp [hd, this]
  ·have : ¬ mget m e false = true := fun g => by have := (key.1 g).1; rw [hs] at this; cases this
   simp [this]
 have hk : fdb_keep_x t m = some (tf t (fun e => e.Static || decide (now - e.Seen ≤ t.Age))) := by
  unfold fdb_keep_x
  rw [own_eq (by omega)]
  simp only [Option.bind_some]
  rw [keep_loop (fun e => e.Static || decide (now - e.Seen ≤ t.Age)) (by omega) (fun k s v hv hs hl => by
   have hk := (List.getElem?_eq_some_iff.1 hs).1
   have h4 := buck4 h hv
   unfold fdb_keep_x_c0
   rw [grd_true ⟨by omega, by omega⟩, Int.toNat_natCast, show gixN s.Buckets k = some v from hs]
   simp only [Option.bind_some]
   rw [clone_eq (by omega)]
   simp only [Option.bind_some]
   rw [delX_eq (by omega)]
   simp only [Option.bind_some]
   rw [grd_true ⟨by omega, by omega⟩, List.filter_congr fun e he => hold v (List.mem_of_getElem? hv) e he]), aft_some_nxt]
 unfold fdb_Sweep
 rw [r1, isTime_eq]
 simp only [Option.bind_some, gd_some, Bool.not_true, Bool.not_false, cond_true, cond_false, decide_eq_true (show 0 ≤ now ∧ now ≤ 1099511627776 from ⟨h0, h1⟩)]
 rw [s1, aft_some_nxt]
 simp only
 rw [k2]
 simp only [Option.bind_some]
 rw [m1, aft_some_nxt, hk]
 rfl

theorem tf_ok {t : Tb} (h : TbOk t) (p : En → Bool) : TbOk (tf t p) := by
 refine ⟨by show Szs (((t.Buckets.map _).length : Nat) : Int) _ _; rw [List.length_map]; exact h.1, fun b l hl => ?_⟩
 have hl' : (t.Buckets.map (·.filter p))[b]? = some l := hl
 rw [List.getElem?_map, Option.map_eq_some_iff] at hl'
 obtain ⟨v, hv, rfl⟩ := hl'
 obtain ⟨⟨g1, g2⟩, g3⟩ := h.2 b v hv
 have hs : (v.filter p).Sublist v := List.filter_sublist
 have hlen : (tf t p).Buckets.length = t.Buckets.length := by simp [tf]
 refine ⟨⟨(hs.map (·.Mac)).nodup g1, fun e he => ?_⟩, ?_⟩
 ·rw [hlen]; exact g2 e (hs.mem he)
 ·have := hs.length_le
  show (((v.filter p).length : Nat) : Int) ≤ t.Slots
  omega
theorem tf_bk {t : Tb} (h : TbOk t) (p : En → Bool) (a : Int) : bk (tf t p) a = (bk t a).filter p := by
 have h1 := h.bucket a
 have hlen : (tf t p).Buckets.length = t.Buckets.length := by simp [tf]
 unfold bk
 rw [hlen]
 show (t.Buckets.map (·.filter p)).getD _ [] = _
 rw [List.getD_eq_getElem?_getD, List.getElem?_map, h1, List.getD_eq_getElem?_getD, h1]
 rfl
noncomputable def ent (t : Tb) (a : Int) : Option En := (bk t a).find? fun e => decide (e.Mac = a)
theorem plc_find {a : Int} : ∀ {l : List En}, l.find? (fun e => decide (e.Mac = a)) = if plc l a < 0 then none else l[(plc l a).toNat]?
 | [] => rfl
 | e :: l => by
  rw [List.find?_cons]
  unfold plc
  by_cases h : e.Mac = a
  ·rw [if_pos h]; simp [h]
  ·rw [if_neg h]
   simp only [decide_eq_false h]
   rw [plc_find]
   by_cases h2 : plc l a < 0
   ·rw [if_pos h2, if_pos h2]; rfl
   ·rw [if_neg h2, if_neg h2, if_neg (by omega), show (plc l a + 1).toNat = (plc l a).toNat + 1 by omega]
    rfl
theorem fnd_ent (t : Tb) (a now : Int) : fnd t a now = match ent t a with
  | some e => if e.Static = true ∨ now - e.Seen ≤ t.Age then e.Port else -1
  | none => -1 := by
 unfold fnd ent
 rw [plc_find]
 by_cases h : plc (bk t a) a < 0
 ·rw [if_pos h]
  split
  ·rw [if_pos h]
  ·rfl
 ·rw [if_neg h]
  split
  ·rename_i e he
   rw [if_neg h, he]
  ·rename_i he
   rw [he]
theorem find_filter {a : Int} {p : En → Bool} : ∀ {l : List En}, (l.map (·.Mac)).Nodup → (l.filter p).find? (fun e => decide (e.Mac = a)) = (l.find? fun e => decide (e.Mac = a)).filter p
 | [], _ => rfl
 | e :: l, hn => by
  rw [List.map_cons, List.nodup_cons] at hn
  by_cases h : e.Mac = a
  ·have hno : l.find? (fun e => decide (e.Mac = a)) = none := by
    rw [List.find?_eq_none]
    intro x hx
    have : x.Mac ≠ a := fun g => hn.1 (List.mem_map.2 ⟨x, hx, g.trans h.symm⟩)
    simp [this]
   have ih := find_filter (a := a) (p := p) hn.2
   rw [hno] at ih
   rw [List.find?_cons]
   simp only [decide_eq_true h]
   rw [List.filter_cons]
   by_cases hp : p e = true
   ·rw [if_pos hp, List.find?_cons]
    simp only [decide_eq_true h]
    simp [Option.filter, hp]
   ·rw [if_neg hp, ih]
    simp [Option.filter, hp]
  ·have ih := find_filter (a := a) (p := p) hn.2
   rw [List.find?_cons]
   simp only [decide_eq_false h]
   rw [List.filter_cons]
   by_cases hp : p e = true
   ·rw [if_pos hp, List.find?_cons]
    simp only [decide_eq_false h]
    exact ih
   ·rw [if_neg hp]; exact ih
theorem tf_ent {t : Tb} (h : TbOk t) (p : En → Bool) (a : Int) : ent (tf t p) a = (ent t a).filter p := by
 unfold ent
 rw [tf_bk h, find_filter (h.bok a).1.1]
theorem ent_mem {t : Tb} {a : Int} {e : En} (h : ent t a = some e) : e ∈ bk t a ∧ e.Mac = a := by
 unfold ent at h
 exact ⟨List.mem_of_find?_eq_some h, by simpa using List.find?_some h⟩
theorem ent_of {t : Tb} (ht : TbOk t) {a : Int} {e : En} (h : e ∈ bk t a) (hm : e.Mac = a) : ent t a = some e := by
 have hn := (ht.bok a).1.1
 unfold ent
 generalize bk t a = l at h hn
 induction l with
 | nil => cases h
 | cons x l ih =>
  rw [List.map_cons, List.nodup_cons] at hn
  rw [List.find?_cons]
  rcases List.mem_cons.1 h with rfl | h
  ·simp [hm]
  ·have : x.Mac ≠ a := fun g => hn.1 (List.mem_map.2 ⟨e, h, hm.trans g.symm⟩)
   simp only [decide_eq_false this]
   exact ih h hn.2
end
section
set_option maxHeartbeats 1000000

theorem lstN_zero {l : List En} (h : lstN l = 0) : ∀ e ∈ l, e.Static = true := fun e he => by
 have := lst_lstN l
 rw [h] at this
 obtain ⟨k, hk⟩ := List.getElem?_of_mem he
 exact this.2.1 k e (Nat.zero_le _) hk
theorem lstN_pos {l : List En} (h : lstN l ≠ 0) : ∃ e, l[lstN l - 1]? = some e ∧ e.Static = false := (lst_lstN l).2.2.resolve_left h
theorem mac_uniq : ∀ {l : List En} {x y : En}, (l.map (·.Mac)).Nodup → x ∈ l → y ∈ l → x.Mac = y.Mac → x = y
 | [], _, _, _, h, _, _ => by cases h
 | z :: l, x, y, hn, hx, hy, he => by
  rw [List.map_cons, List.nodup_cons] at hn
  rcases List.mem_cons.1 hx with hxz | hx1
  ·rcases List.mem_cons.1 hy with hyz | hy1
   ·rw [hxz, hyz]
   ·exact absurd (List.mem_map.2 ⟨y, hy1, by rw [← he, hxz]⟩) hn.1
  ·rcases List.mem_cons.1 hy with hyz | hy1
   ·exact absurd (List.mem_map.2 ⟨x, hx1, by rw [he, hyz]⟩) hn.1
   ·exact mac_uniq hn.2 hx1 hy1 he
theorem put_cases {t : Tb} (h : TbOk t) (e : En) :
  (putP t e = (t, false) ∧ ∃ f : List En, ((f.length : Nat) : Int) = t.Slots ∧ (f.map (·.Mac)).Nodup ∧ (∀ y ∈ f, y ∈ bk t e.Mac ∧ y.Mac ≠ e.Mac ∧ y.Static = true) ∧ ∀ y ∈ bk t e.Mac, y.Mac ≠ e.Mac) ∨
  (∃ p : En → Bool, putP t e = (wth t e.Mac (e :: (bk t e.Mac).filter p), true) ∧ (∀ y ∈ bk t e.Mac, y.Static = true → y.Mac ≠ e.Mac → p y = true) ∧ (∀ y ∈ bk t e.Mac, y.Mac = e.Mac → p y = false) ∧ ((((bk t e.Mac).filter p).length + 1 : Nat) : Int) ≤ t.Slots) := by
 have hbo := h.bok e.Mac
 unfold putP
 generalize bk t e.Mac = l at *
 obtain ⟨⟨hn, hent⟩, hsl⟩ := hbo
 have hfl := List.length_filter_le (fun y : En => !decide (y.Mac = e.Mac)) l
 by_cases hc : (((l.filter fun y => !decide (y.Mac = e.Mac)).length : Nat) : Int) = t.Slots
 ·rw [if_pos hc]
  by_cases h0 : lstN (l.filter fun y => !decide (y.Mac = e.Mac)) = 0
  ·rw [if_pos h0]
   refine .inl ⟨rfl, l.filter fun y => !decide (y.Mac = e.Mac), hc, ((List.filter_sublist (l := l)).map (fun x : En => x.Mac)).nodup hn, fun y hy => ?_, fun y hy hm => ?_⟩
   ·obtain ⟨h1, h2⟩ := List.mem_filter.1 hy
    exact ⟨h1, by simpa using h2, lstN_zero h0 y hy⟩
   ·have hlt : (l.filter fun y => !decide (y.Mac = e.Mac)).length < l.length := List.length_filter_lt_length_iff_exists.2 ⟨y, hy, by simp [hm]⟩
    omega
  ·rw [if_neg h0]
   obtain ⟨z, hz, hzs⟩ := lstN_pos h0
   have hzd : (l.filter fun y => !decide (y.Mac = e.Mac)).getD (lstN (l.filter fun y => !decide (y.Mac = e.Mac)) - 1) zE = z := by
    rw [List.getD_eq_getElem?_getD, hz]; rfl
   have hzm := List.mem_of_getElem? hz
   rw [hzd, List.filter_filter]
   refine .inr ⟨fun y => !decide (y.Mac = z.Mac) && !decide (y.Mac = e.Mac), rfl, fun y hy hs hm => ?_, fun y hy hm => by simp [hm], ?_⟩
   ·have : y.Mac ≠ z.Mac := fun g => by
     have := mac_uniq hn hy (List.mem_filter.1 hzm).1 g
     rw [this, hzs] at hs; cases hs
    simp [this, hm]
   ·rw [← List.filter_filter]
    have hlt : ((l.filter fun y => !decide (y.Mac = e.Mac)).filter fun y => !decide (y.Mac = z.Mac)).length < (l.filter fun y => !decide (y.Mac = e.Mac)).length := List.length_filter_lt_length_iff_exists.2 ⟨z, hzm, by simp⟩
    omega
 ·rw [if_neg hc]
  refine .inr ⟨fun y => !decide (y.Mac = e.Mac), rfl, fun y hy hs hm => by simp [hm], fun y hy hm => by simp [hm], ?_⟩
  omega
theorem wth_ok {t : Tb} (h : TbOk t) {e : En} (he : EOk t.Buckets.length (bkt e.Mac.toNat t.Buckets.length) e) {p : En → Bool} (h2 : ∀ y ∈ bk t e.Mac, y.Mac = e.Mac → p y = false) (h3 : ((((bk t e.Mac).filter p).length + 1 : Nat) : Int) ≤ t.Slots) :
  TbOk (wth t e.Mac (e :: (bk t e.Mac).filter p)) := by
 have hlen : (wth t e.Mac (e :: (bk t e.Mac).filter p)).Buckets.length = t.Buckets.length := by simp [wth]
 refine ⟨by rw [hlen]; exact h.1, fun b l hl => ?_⟩
 rw [hlen]
 have hl' : (t.Buckets.set (bkt e.Mac.toNat t.Buckets.length) (e :: (bk t e.Mac).filter p))[b]? = some l := hl
 by_cases hb : bkt e.Mac.toNat t.Buckets.length = b
 ·subst hb
  rw [List.getElem?_set_self (bucket_len h _)] at hl'
  obtain rfl := Option.some.inj hl'
  have hbo := h.bok e.Mac
  refine ⟨⟨?_, fun y hy => ?_⟩, by show (((e :: (bk t e.Mac).filter p).length : Nat) : Int) ≤ t.Slots; simpa using h3⟩
  ·rw [List.map_cons, List.nodup_cons]
   exact ⟨fun hm => by
    obtain ⟨y, hy, hm⟩ := List.mem_map.1 hm
    obtain ⟨y1, y2⟩ := List.mem_filter.1 hy
    rw [h2 y y1 hm] at y2; exact absurd y2 (by decide), ((List.filter_sublist (l := bk t e.Mac)).map (fun x : En => x.Mac)).nodup hbo.1.1⟩
  ·rcases List.mem_cons.1 hy with rfl | hy
   ·exact he
   ·exact hbo.1.2 y (List.mem_filter.1 hy).1
 ·rw [List.getElem?_set_ne hb] at hl'
  exact h.2 b l hl'
theorem wth_bk {t : Tb} (h : TbOk t) (a b : Int) (L : List En) : bk (wth t a L) b = if bkt a.toNat t.Buckets.length = bkt b.toNat t.Buckets.length then L else bk t b := by
 have hlen : (wth t a L).Buckets.length = t.Buckets.length := by simp [wth]
 unfold bk
 rw [hlen]
 show (t.Buckets.set _ L).getD _ [] = _
 rw [List.getD_eq_getElem?_getD]
 by_cases hb : bkt a.toNat t.Buckets.length = bkt b.toNat t.Buckets.length
 ·rw [if_pos hb, ← hb, List.getElem?_set_self (bucket_len h a)]; rfl
 ·rw [if_neg hb, List.getElem?_set_ne hb, List.getD_eq_getElem?_getD]
structure St (t t' : Tb) (e : En) : Prop where
 ok : TbOk t'
 slots : t'.Slots = t.Slots
 age : t'.Age = t.Age
 self : ent t' e.Mac = some e
 oth : ∀ b, b ≠ e.Mac → ent t' b = ent t b ∨ (ent t' b = none ∧ ∃ y, ent t b = some y ∧ y.Static = false)
theorem put_st {t : Tb} (h : TbOk t) {e : En} (he : EOk t.Buckets.length (bkt e.Mac.toNat t.Buckets.length) e) :
  (putP t e = (t, false) ∧ ∃ f : List En, ((f.length : Nat) : Int) = t.Slots ∧ (f.map (·.Mac)).Nodup ∧ (∀ y ∈ f, y ∈ bk t e.Mac ∧ y.Mac ≠ e.Mac ∧ y.Static = true) ∧ ∀ y ∈ bk t e.Mac, y.Mac ≠ e.Mac) ∨
  ∃ t', putP t e = (t', true) ∧ St t t' e := by
 rcases put_cases h e with h1 | ⟨p, p1, p2, p3, p4⟩
 ·exact .inl h1
 ·refine .inr ⟨_, p1, ⟨wth_ok h he p3 p4, rfl, rfl, ?_, fun b hb => ?_⟩⟩
  ·unfold ent
   rw [wth_bk h, if_pos rfl]; simp
  ·unfold ent
   rw [wth_bk h]
   by_cases hbk : bkt e.Mac.toNat t.Buckets.length = bkt b.toNat t.Buckets.length
   ·have hbb : bk t e.Mac = bk t b := by unfold bk; rw [hbk]
    rw [if_pos hbk, List.find?_cons, decide_eq_false (fun g => hb g.symm), hbb, find_filter (h.bok b).1.1]
    cases hf : (bk t b).find? fun x => decide (x.Mac = b) with
    | none => exact .inl rfl
    | some y =>
     have hy : y ∈ bk t b := List.mem_of_find?_eq_some hf
     have hm : y.Mac = b := by simpa using List.find?_some hf
     cases hpy : p y with
     | true => exact .inl (by simp [Option.filter, hpy])
     | false =>
      refine .inr ⟨by simp [Option.filter, hpy], y, rfl, ?_⟩
      cases hs : y.Static with
      | false => rfl
      | true =>
       have := p2 y (by rw [hbb]; exact hy) hs (by rw [hm]; exact hb)
       rw [hpy] at this; cases this
   ·rw [if_neg hbk]; exact .inl rfl
theorem pinned_eq {t : Tb} (h : TbOk t) {a : Int} (ha : Uni a) : fdb_pinned t a = some (match ent t a with | some e => e.Static | none => false) := by
 have hbk : gix t.Buckets ((bkt a.toNat t.Buckets.length : Nat) : Int) = some (bk t a) := by rw [gix_nat]; exact h.bucket a
 unfold fdb_pinned ent
 rw [place_eq h ha, plc_find]
 simp only [Option.bind_some]
 by_cases hp : 0 ≤ plc (bk t a) a
 ·obtain ⟨e, h4, h5⟩ := plc_get hp
  rw [decide_eq_true hp, if_neg (by omega), h4]
  simp only [gd_true, hbk, Option.bind_some, gix_of hp h4, cond_true]
 ·rw [decide_eq_false hp, if_pos (by omega)]
  rfl
theorem Learn_st {t : Tb} (h : TbOk t) {a p now : Int} (ha : Uni a) (hp : 0 ≤ p ∧ p ≤ 7) (hn : 0 ≤ now ∧ now ≤ 1099511627776) :
  (∃ e, ent t a = some e ∧ e.Static = true ∧ fdb_Learn t a p now = some (t, 0)) ∨ ((∀ e, ent t a = some e → e.Static = false) ∧ fdb_Learn t a p now = some ((putP t ⟨a, p, now, false⟩).1, 0)) := by
 obtain ⟨b, h1, h2⟩ := Right_prog (small_of h)
 have hb : b = true := h2.2 h
 subst hb
 have e : fdb_Learn t a p now = ((fdb_pinned t a).bind fun y35 => (bif (!y35) then ((fdb_put t (⟨a, p, now, false⟩ : En)).bind fun y145 => some (y145.1, (0 : Int))) else some (t, 0))) := by
  unfold fdb_Learn
  rw [h1, isMac_eq, isPort_eq, isTime_eq, decide_eq_true ha, decide_eq_true hp, decide_eq_true hn]
  simp only [Option.bind_some, Bool.not_true, Bool.not_false, gd_true, cond_false]
 rw [e, pinned_eq h ha, Put_prog h ha]
 cases hx : ent t a with
 | none => exact .inr ⟨fun e he => (by cases he), rfl⟩
 | some x =>
  cases hs : x.Static with
  | false => exact .inr ⟨fun e he => (by rw [← Option.some.inj he]; exact hs), by simp only [Option.bind_some, hs, Bool.not_false, cond_true]⟩
  | true => exact .inl ⟨x, rfl, hs, by simp only [Option.bind_some, hs, Bool.not_true, cond_false]⟩
theorem Pin_st {t : Tb} (h : TbOk t) {a p : Int} (ha : Uni a) (hp : 0 ≤ p ∧ p ≤ 7) :
  fdb_Pin t a p = some (⟨[], 0, 0⟩, 5) ∨ ∃ t', fdb_Pin t a p = some (t', 0) ∧ St t t' ⟨a, p, 0, true⟩ := by
 obtain ⟨b, h1, h2⟩ := Right_prog (small_of h)
 have hb : b = true := h2.2 h
 subst hb
 have e : fdb_Pin t a p = ((fdb_put t (⟨a, p, 0, true⟩ : En)).bind fun y7 => (bif (!y7.2) then some ((⟨[], 0, 0⟩ : Tb), (5 : Int)) else some (y7.1, 0))) := by
  unfold fdb_Pin
  rw [h1, isMac_eq, isPort_eq, decide_eq_true ha, decide_eq_true hp]
  simp only [Option.bind_some, Bool.not_true, Bool.not_false, gd_true, cond_false]
 rw [e, Put_prog h ha]
 rcases put_st h (e := ⟨a, p, 0, true⟩) ⟨ha, hp, ⟨Int.le_refl _, (by show (0 : Int) ≤ 1099511627776; omega)⟩, fun _ => rfl, rfl⟩ with ⟨g1, _⟩ | ⟨t', g1, g2⟩
 ·rw [g1]; exact .inl rfl
 ·rw [g1]; exact .inr ⟨t', rfl, g2⟩

def tellB {ρ : Type} (age : Int) (T : Tb) (S A P : List (Int × Int)) (N : Int) (k26 : Nat) (s26 : Unit) : Option (Step (Step Bool ρ) Unit) :=
 (fdb_Find T (IntKind.i64.wrap (2 * ((k26 : Nat) : Int))) N).bind fun y7 =>
 (bif (bif (!decide (y7.2 = 0)) then true else (bif (decide (0 < (mget P (IntKind.i64.wrap (2 * ((k26 : Nat) : Int))) 0))) then (!decide (y7.1 = (IntKind.i64.wrap ((mget P (IntKind.i64.wrap (2 * ((k26 : Nat) : Int))) 0) - 1)))) else false)) then
  some (.ret (.ret false))
 else
  (bif (bif (bif (decide ((mget P (IntKind.i64.wrap (2 * ((k26 : Nat) : Int))) 0) = 0)) then (!decide (y7.1 = (-1))) else false) then (bif (!decide (y7.1 = (IntKind.i64.wrap ((mget S (IntKind.i64.wrap (2 * ((k26 : Nat) : Int))) 0) - 1)))) then true else (decide (age < (IntKind.i64.wrap (N - (mget A (IntKind.i64.wrap (2 * ((k26 : Nat) : Int))) 0)))))) else false) then
   some (.ret (.ret false))
  else
   some (.nxt ())))
structure Inv (slots age : Int) (T : Tb) (S A P : List (Int × Int)) : Prop where
 ok : TbOk T
 sl : T.Slots = slots
 ag : T.Age = age
 row : ∀ a, (∃ e, ent T a = some e ∧ e.Static = true ∧ mget P a 0 = e.Port + 1) ∨ (mget P a 0 = 0 ∧ ∀ e, ent T a = some e → e.Static = false ∧ mget S a 0 = e.Port + 1 ∧ mget A a 0 = e.Seen)
theorem Inv.eok {slots age : Int} {T : Tb} {S A P : List (Int × Int)} (h : Inv slots age T S A P) {a : Int} {e : En} (he : ent T a = some e) : (0 ≤ e.Port ∧ e.Port ≤ 7) ∧ (0 ≤ e.Seen ∧ e.Seen ≤ 1099511627776) := by
 obtain ⟨_, h1, h2, _⟩ := (h.ok.bok a).1.2 e (ent_mem he).1
 exact ⟨h1, h2⟩
theorem uniS {x : Int} (h0 : 0 ≤ x) (h1 : x < 1000) : Uni x := ⟨h0, by omega, by omega, by omega⟩
theorem tell_ok {ρ : Type} {slots age : Int} {T : Tb} {S A P : List (Int × Int)} (h : Inv slots age T S A P) {N : Int} (hN : 0 ≤ N ∧ N ≤ 1000000) : rangeN (ρ := Step Bool ρ) (tellB age T S A P N) 12 () = some (.nxt ()) := by
 have := rangeN_up (ρ := Step Bool ρ) (body := tellB age T S A P N) (n := 12) (s0 := ()) (by omega) (fun _ => ()) rfl (fun k hk => by
  unfold tellB
  rw [w64i (x := 2 * ((k : Nat) : Int)) (by omega) (by omega), Find_eq (small_of h.ok) h.ok (uniS (by omega) (by omega)) ⟨hN.1, by omega⟩, fnd_ent]
  simp only [Option.bind_some, decide_true, Bool.not_true, cond_false]
  rcases h.row (2 * ((k : Nat) : Int)) with ⟨e, e1, e2, e3⟩ | ⟨e1, e2⟩
  ·have hp := (h.eok e1).1
   rw [e1]
   simp only [e2, true_or, if_true]
   rw [e3, decide_eq_true (show 0 < e.Port + 1 by omega), decide_eq_false (show ¬ e.Port + 1 = 0 by omega), show e.Port + 1 - 1 = e.Port by omega, w64i (x := e.Port) (by omega) (by omega), decide_eq_true rfl]
   rfl
  ·rw [e1]
   cases hx : ent T (2 * ((k : Nat) : Int)) with
   | none => rfl
   | some e =>
    obtain ⟨g1, g2, g3⟩ := e2 e hx
    have hp := h.eok hx
    simp only [g1]
    rw [g2, g3, show e.Port + 1 - 1 = e.Port by omega, w64i (x := e.Port) (by omega) (by omega), w64i (x := N - e.Seen) (by omega) (by omega), h.ag]
    by_cases hf : N - e.Seen ≤ age
    ·simp [hf, show ¬ age < N - e.Seen by omega]
    ·simp [hf])
 exact this
end
section
set_option maxHeartbeats 1000000

theorem mdS {n : Int} (h1 : 1 ≤ n) (h2 : n ≤ 1000000) (a : Int) : 0 ≤ (IntKind.i64.wrap (a.tmod n + n)).tmod n ∧ (IntKind.i64.wrap (a.tmod n + n)).tmod n < n := by
 obtain ⟨i, h3, h4⟩ := idx_ok h1 h2 a
 omega
theorem alive08F : law08_alive = some true := by kernel_rfl
theorem Inv.filter {slots age : Int} {T : Tb} {S A P : List (Int × Int)} (h : Inv slots age T S A P) {p : En → Bool} (hp : ∀ e : En, e.Static = true → p e = true) : Inv slots age (tf T p) S A P where
 ok := tf_ok h.ok p
 sl := h.sl
 ag := h.ag
 row a := by
  rw [tf_ent h.ok]
  rcases h.row a with ⟨e, e1, e2, e3⟩ | ⟨e1, e2⟩
  ·exact .inl ⟨e, by rw [e1]; simp [Option.filter, hp e e2], e2, e3⟩
  ·refine .inr ⟨e1, fun e he => ?_⟩
   cases hx : ent T a with
   | none => rw [hx] at he; cases he
   | some y =>
    rw [hx] at he
    cases hy : p y with
    | true =>
     simp only [Option.filter, hy, if_true] at he
     exact e2 e (hx.trans he)
    | false => simp [Option.filter, hy] at he
theorem Inv.pin {slots age : Int} {T T' : Tb} {S A P : List (Int × Int)} (h : Inv slots age T S A P) {a v : Int} (hs : St T T' ⟨a, v, 0, true⟩) : Inv slots age T' S A (mput P a (v + 1)) where
 ok := hs.ok
 sl := hs.slots.trans h.sl
 ag := hs.age.trans h.ag
 row b := by
  by_cases hb : a = b
  ·subst hb
   exact .inl ⟨_, hs.self, rfl, mget_mput _ _ _ _⟩
  ·rw [mget_mput_ne hb]
   rcases hs.oth b (fun g => hb g.symm) with g | ⟨g, y, y1, y2⟩
   ·rw [g]; exact h.row b
   ·rw [g]
    rcases h.row b with ⟨e, e1, e2, _⟩ | ⟨e1, _⟩
    ·rw [y1] at e1
     rw [← Option.some.inj e1, y2] at e2; cases e2
    ·exact .inr ⟨e1, fun e he => by cases he⟩
theorem Inv.unpin {slots age : Int} {T : Tb} {S A P : List (Int × Int)} (h : Inv slots age T S A P) (a : Int) : Inv slots age (tf T (fun e => !decide (e.Mac = a))) (mput S a 0) A (mput P a 0) where
 ok := tf_ok h.ok _
 sl := h.sl
 ag := h.ag
 row b := by
  rw [tf_ent h.ok]
  by_cases hb : a = b
  ·subst hb
   refine .inr ⟨mget_mput _ _ _ _, fun e he => ?_⟩
   cases hx : ent T a with
   | none => rw [hx] at he; cases he
   | some y =>
    have := (ent_mem hx).2
    rw [hx] at he
    simp [Option.filter, this] at he
  ·rw [mget_mput_ne hb, mget_mput_ne hb]
   have e : (ent T b).filter (fun e => !decide (e.Mac = a)) = ent T b := by
    cases hx : ent T b with
    | none => rfl
    | some y =>
     have : ¬ y.Mac = a := fun g => hb (g.symm.trans (ent_mem hx).2)
     simp [Option.filter, this]
   rw [e]; exact h.row b
theorem Inv.learn {slots age : Int} {T T' : Tb} {S A P : List (Int × Int)} (h : Inv slots age T S A P) {a v now : Int} (hs : St T T' ⟨a, v, now, false⟩) (hp : mget P a 0 = 0) : Inv slots age T' (mput S a (v + 1)) (mput A a now) P where
 ok := hs.ok
 sl := hs.slots.trans h.sl
 ag := hs.age.trans h.ag
 row b := by
  by_cases hb : a = b
  ·subst hb
   refine .inr ⟨hp, fun e he => ?_⟩
   have := hs.self
   rw [show ent T' (⟨a, v, now, false⟩ : En).Mac = ent T' a from rfl, he] at this
   obtain rfl := Option.some.inj this
   exact ⟨rfl, mget_mput _ _ _ _, mget_mput _ _ _ _⟩
  ·rw [mget_mput_ne hb, mget_mput_ne hb]
   rcases hs.oth b (fun g => hb g.symm) with g | ⟨g, y, y1, y2⟩
   ·rw [g]; exact h.row b
   ·rw [g]
    rcases h.row b with ⟨e, e1, e2, _⟩ | ⟨e1, _⟩
    ·rw [y1] at e1
     rw [← Option.some.inj e1, y2] at e2; cases e2
    ·exact .inr ⟨e1, fun e he => by cases he⟩
theorem Inv.full {slots age : Int} {T : Tb} {S A P : List (Int × Int)} (h : Inv slots age T S A P) {a : Int} (v now : Int) (hn : ent T a = none) (hp : mget P a 0 = 0) : Inv slots age T (mput S a v) (mput A a now) P where
 ok := h.ok
 sl := h.sl
 ag := h.ag
 row b := by
  by_cases hb : a = b
  ·subst hb
   exact .inr ⟨hp, fun e he => by rw [hn] at he; cases he⟩
  ·rw [mget_mput_ne hb, mget_mput_ne hb]; exact h.row b
theorem mget_key {m : List (Int × Int)} {k : Int} (h : mget m k 0 ≠ 0) : k ∈ m.map (·.1) := by
 cases hf : mfind m k with
 | none => exact absurd (mget_none hf 0) h
 | some p =>
  obtain ⟨i, u⟩ := p
  exact List.mem_map.2 ⟨(k, u), List.mem_of_getElem? (mfind_some hf).1, rfl⟩
theorem full_len {slots age : Int} {T : Tb} {S A P : List (Int × Int)} (h : Inv slots age T S A P) {a : Int} {f : List En} (h1 : ((f.length : Nat) : Int) = T.Slots) (h2 : (f.map (·.Mac)).Nodup) (h3 : ∀ y ∈ f, y ∈ bk T a ∧ y.Mac ≠ a ∧ y.Static = true) : slots ≤ ((P.length : Nat) : Int) := by
 have hsub : f.map (·.Mac) ⊆ P.map (·.1) := fun z hz => by
  obtain ⟨y, hy, rfl⟩ := List.mem_map.1 hz
  obtain ⟨g1, _, g3⟩ := h3 y hy
  have hb : bk T y.Mac = bk T a := by
   have := ((h.ok.bok a).1.2 y g1).2.2.2.2
   unfold bk; rw [this]
  have he : ent T y.Mac = some y := ent_of h.ok (by rw [hb]; exact g1) rfl
  have hport := (h.eok he).1
  rcases h.row y.Mac with ⟨e, e1, _, e3⟩ | ⟨_, e2⟩
  ·rw [he] at e1
   rw [← Option.some.inj e1] at e3
   exact mget_key (by omega)
  ·have := (e2 y he).1
   rw [g3] at this; cases this
 have := List.Nodup.length_le_of_subset h2 hsub
 rw [List.length_map, List.length_map] at this
 have := h.sl
 omega
theorem no_ent {T : Tb} {a : Int} (h : ∀ y ∈ bk T a, y.Mac ≠ a) : ent T a = none := by
 unfold ent
 rw [List.find?_eq_none]
 intro x hx
 simpa using h x hx
theorem forget_step (a1 a2 : Int) {k : Nat} (hk : k ≤ 100) (x : A3_Int) {s : Int × Tb × List (Int × Int) × List (Int × Int) × List (Int × Int)} (hnow : 0 ≤ s.1 ∧ s.1 ≤ 7 * (k : Int))
  (h : Inv (IntKind.i64.wrap (1 + (((IntKind.i64.wrap (((a1).tmod 4) + 4))).tmod 4))) (IntKind.i64.wrap (1 + (((IntKind.i64.wrap (((a2).tmod 50) + 50))).tmod 50))) s.2.1 s.2.2.1 s.2.2.2.1 s.2.2.2.2) :
  ∃ s', law08_FdbForgets_c0 a1 a2 k x s = some (.nxt s') ∧ (0 ≤ s'.1 ∧ s'.1 ≤ 7 * ((k + 1 : Nat) : Int)) ∧ Inv (IntKind.i64.wrap (1 + (((IntKind.i64.wrap (((a1).tmod 4) + 4))).tmod 4))) (IntKind.i64.wrap (1 + (((IntKind.i64.wrap (((a2).tmod 50) + 50))).tmod 50))) s'.2.1 s'.2.2.1 s'.2.2.2.1 s'.2.2.2.2 := by
 obtain ⟨now, T, S, A, P⟩ := s
 simp only at hnow h
 have bo := mdS (n := 8) (by omega) (by omega) x.c0
 have bm := mdS (n := 12) (by omega) (by omega) x.c1
 have bv := mdS (n := 8) (by omega) (by omega) x.c2
 have t1 : ∀ y, law08_FdbForgets_c1 a2 x (now, T, S, A, P) y = tellB (IntKind.i64.wrap (1 + (((IntKind.i64.wrap (((a2).tmod 50) + 50))).tmod 50))) y.1 S A P (IntKind.i64.wrap (now + (((IntKind.i64.wrap (((x.c2).tmod 8) + 8))).tmod 8))) := fun _ => rfl
 have t3 : ∀ y, law08_FdbForgets_c3 a2 x (now, T, S, A, P) y = tellB (IntKind.i64.wrap (1 + (((IntKind.i64.wrap (((a2).tmod 50) + 50))).tmod 50))) y.1 S A (mput P (IntKind.i64.wrap (2 * (((IntKind.i64.wrap (((x.c1).tmod 12) + 12))).tmod 12))) (IntKind.i64.wrap ((((IntKind.i64.wrap (((x.c2).tmod 8) + 8))).tmod 8) + 1))) now := fun _ => rfl
 have t6 : law08_FdbForgets_c6 a2 (now, T, S, A, P) = tellB (IntKind.i64.wrap (1 + (((IntKind.i64.wrap (((a2).tmod 50) + 50))).tmod 50))) T S A P now := rfl
 have t7 : ∀ y, law08_FdbForgets_c7 a2 x (now, T, S, A, P) y = tellB (IntKind.i64.wrap (1 + (((IntKind.i64.wrap (((a2).tmod 50) + 50))).tmod 50))) y.1 (mput S (IntKind.i64.wrap (2 * (((IntKind.i64.wrap (((x.c1).tmod 12) + 12))).tmod 12))) 0) A (mput P (IntKind.i64.wrap (2 * (((IntKind.i64.wrap (((x.c1).tmod 12) + 12))).tmod 12))) 0) now := fun _ => rfl
 have t10 : law08_FdbForgets_c10 a2 (now, T, S, A, P) = tellB (IntKind.i64.wrap (1 + (((IntKind.i64.wrap (((a2).tmod 50) + 50))).tmod 50))) T S A P now := rfl
 have t11 : ∀ y, law08_FdbForgets_c11 a2 (now, T, S, A, P) y = tellB (IntKind.i64.wrap (1 + (((IntKind.i64.wrap (((a2).tmod 50) + 50))).tmod 50))) y.1 S A P now := fun _ => rfl
 have t13 : ∀ y, law08_FdbForgets_c13 a2 x (now, T, S, A, P) y = tellB (IntKind.i64.wrap (1 + (((IntKind.i64.wrap (((a2).tmod 50) + 50))).tmod 50))) y.1 (mput S (IntKind.i64.wrap (2 * (((IntKind.i64.wrap (((x.c1).tmod 12) + 12))).tmod 12))) (IntKind.i64.wrap ((((IntKind.i64.wrap (((x.c2).tmod 8) + 8))).tmod 8) + 1))) (mput A (IntKind.i64.wrap (2 * (((IntKind.i64.wrap (((x.c1).tmod 12) + 12))).tmod 12))) now) P now := fun _ => rfl
 have t15 : ∀ y, law08_FdbForgets_c15 a2 (now, T, S, A, P) y = tellB (IntKind.i64.wrap (1 + (((IntKind.i64.wrap (((a2).tmod 50) + 50))).tmod 50))) y.1 S A P now := fun _ => rfl
 unfold law08_FdbForgets_c0
 simp only [t1, t3, t6, t7, t10, t11, t13, t15]
 clear t1 t3 t6 t7 t10 t11 t13 t15
 generalize (IntKind.i64.wrap (x.c0.tmod 8 + 8)).tmod 8 = op at *
 generalize (IntKind.i64.wrap (x.c1.tmod 12 + 12)).tmod 12 = m at *
 generalize (IntKind.i64.wrap (x.c2.tmod 8 + 8)).tmod 8 = v at *
 generalize IntKind.i64.wrap (1 + (IntKind.i64.wrap (a2.tmod 50 + 50)).tmod 50) = age at *
 generalize IntKind.i64.wrap (1 + (IntKind.i64.wrap (a1.tmod 4 + 4)).tmod 4) = slots at *
 rw [w64i (x := now + v) (by omega) (by omega), w64i (x := 2 * m) (by omega) (by omega), w64i (x := v + 1) (by omega) (by omega), w64i (x := v - 1) (by omega) (by omega)]
 have hu : Uni (2 * m) := uniS (by omega) (by omega)
 generalize 2 * m = a at *
 have hN : 0 ≤ now ∧ now ≤ 1000000 := by omega
 have hN2 : 0 ≤ now ∧ now ≤ 1099511627776 := by omega
 by_cases h0 : op = 0
 ·rw [decide_eq_true h0, cond_true, Sweep_eq h.ok (now := now + v) (by omega) (by omega)]
  have hi := h.filter (p := fun e => e.Static || decide (now + v - e.Seen ≤ T.Age)) (fun e he => by simp [he])
  simp only [Option.bind_some, decide_true, cond_true]
  rw [tell_ok hi (by omega), aft_some_nxt]
  exact ⟨_, rfl, ⟨by show 0 ≤ now + v; omega, by show now + v ≤ _; omega⟩, hi⟩
 rw [decide_eq_false h0, cond_false]
 have stay : (0 ≤ now ∧ now ≤ 7 * ((k + 1 : Nat) : Int)) := by omega
 by_cases h1 : op = 1
 ·rw [decide_eq_true h1, cond_true]
  rcases Pin_st h.ok hu (p := v) (by omega) with g | ⟨T', g, hs⟩
  ·rw [g]
   simp only [Option.bind_some]
   rw [tell_ok h hN]
   exact ⟨_, rfl, stay, h⟩
  ·have hi := h.pin hs
   rw [g]
   simp only [Option.bind_some, decide_true, cond_true]
   rw [tell_ok hi hN, aft_some_nxt]
   exact ⟨_, rfl, stay, hi⟩
 rw [decide_eq_false h1, cond_false]
 by_cases h2 : op = 2
 ·rw [decide_eq_true h2, cond_true, Unpin_eq h.ok hu]
  rcases h.row a with ⟨e, e1, e2, e3⟩ | ⟨e1, e2⟩
  ·have hi := h.unpin a
   have hp := (h.eok e1).1
   rw [if_pos ⟨e, (ent_mem e1).1, (ent_mem e1).2, e2⟩]
   simp only [Option.bind_some, decide_true, cond_true]
   rw [e3, decide_eq_true (show 0 < e.Port + 1 by omega)]
   simp only [beq_self_eq_true, Bool.not_true, cond_false]
   rw [tell_ok hi hN, aft_some_nxt]
   exact ⟨_, rfl, stay, hi⟩
  ·rw [if_neg (fun ⟨e, g1, g2, g3⟩ => by
    have := (e2 e (ent_of h.ok g1 g2)).1
    rw [g3] at this; cases this)]
   simp only [Option.bind_some]
   rw [e1, tell_ok h hN]
   exact ⟨_, rfl, stay, h⟩
 rw [decide_eq_false h2, cond_false]
 by_cases h3 : op = 3
 ·rw [decide_eq_true h3, cond_true, Flush_eq h.ok (port := v - 1) (by omega)]
  have hi := h.filter (p := fun e => e.Static || (!decide (v - 1 = -1) && !decide (e.Port = v - 1))) (fun e he => by simp [he])
  simp only [Option.bind_some, decide_true, cond_true]
  rw [tell_ok hi hN, aft_some_nxt]
  exact ⟨_, rfl, stay, hi⟩
 rw [decide_eq_false h3, cond_false]
 rcases Learn_st h.ok hu (p := v) (by omega) hN2 with ⟨e, e1, e2, g⟩ | ⟨e2, g⟩
 ·have hpe := (h.eok e1).1
  have hP : mget P a 0 = e.Port + 1 := by
   rcases h.row a with ⟨y, y1, _, y3⟩ | ⟨_, y2⟩
   ·rw [e1] at y1
    rw [Option.some.inj y1]; exact y3
   ·have := (y2 e e1).1
    rw [e2] at this; cases this
  rw [g]
  simp only [Option.bind_some]
  rw [hP, decide_eq_false (show ¬ e.Port + 1 = 0 by omega), cond_false, Find_eq (small_of h.ok) h.ok hu hN2, fnd_ent, e1]
  simp only [Option.bind_some, e2, true_or, if_true, decide_true, Bool.not_true, cond_false]
  rw [decide_eq_false (show ¬ e.Port = -1 by omega)]
  simp only [cond_false, cond_true]
  rw [tell_ok h hN, aft_some_nxt]
  exact ⟨_, rfl, stay, h⟩
 ·have hP : mget P a 0 = 0 := by
   rcases h.row a with ⟨y, y1, y2, _⟩ | ⟨y1, _⟩
   ·rw [e2 y y1] at y2; cases y2
   ·exact y1
  rw [g]
  simp only [Option.bind_some]
  rw [hP, decide_eq_true rfl, cond_true]
  rcases put_st h.ok (e := ⟨a, v, now, false⟩) ⟨hu, ⟨bv.1, (by show v ≤ 7; omega)⟩, hN2, fun g => (by cases g), rfl⟩ with ⟨p1, f, f1, f2, f3, f4⟩ | ⟨T', p1, hs⟩
  ·have hn : ent T a = none := no_ent f4
   have hi := h.full (v + 1) now hn hP
   have hlen := full_len h f1 f2 f3
   rw [p1, Find_eq (small_of h.ok) h.ok hu hN2, fnd_ent, hn]
   simp only [Option.bind_some, decide_true, Bool.not_true, cond_false, cond_true]
   rw [decide_eq_false (show ¬ ((P.length : Nat) : Int) < slots by omega), cond_false, tell_ok hi hN, aft_some_nxt]
   exact ⟨_, rfl, stay, hi⟩
  ·have hi := h.learn hs hP
   have hself : ent T' a = some ⟨a, v, now, false⟩ := hs.self
   have hag : 0 ≤ age := by
    have h5 := h.ok.1.2.2
    have := h.ag
    omega
   rw [p1, Find_eq (small_of hs.ok) hs.ok hu hN2, fnd_ent, hself]
   simp only [Option.bind_some]
   rw [if_pos (.inr (by rw [hi.ag]; omega)), decide_eq_false (show ¬ v = -1 by omega)]
   simp only [decide_true, Bool.not_true, cond_false, cond_true]
   rw [tell_ok hi hN, aft_some_nxt]
   exact ⟨_, rfl, stay, hi⟩
theorem FdbForgets_true (a0 a1 a2 : Int) (a3 : List A3_Int) : law08_FdbForgets a0 a1 a2 a3 = some true := by
 have b0 := mdS (n := 5) (by omega) (by omega) a0
 have b1 := mdS (n := 4) (by omega) (by omega) a1
 have b2 := mdS (n := 50) (by omega) (by omega) a2
 have hstep := @forget_step a1 a2
 unfold law08_FdbForgets
 rw [grd_true b0.1]
 generalize (IntKind.i64.wrap (a0.tmod 5 + 5)).tmod 5 = i at *
 have hi : i = 0 ∨ i = 1 ∨ i = 2 ∨ i = 3 ∨ i = 4 := by omega
 obtain ⟨n, hn, hnum⟩ : ∃ n : Int, IntKind.i64.wrap (1 * 2 ^ (min (i : Int).toNat 64)) = n ∧ Num n := by
  refine ⟨_, rfl, ?_⟩
  rcases hi with rfl | rfl | rfl | rfl | rfl <;> decide
 rw [hn]
 have hsl : 1 ≤ IntKind.i64.wrap (1 + (IntKind.i64.wrap (a1.tmod 4 + 4)).tmod 4) ∧ IntKind.i64.wrap (1 + (IntKind.i64.wrap (a1.tmod 4 + 4)).tmod 4) ≤ 4 := by
  rw [w64i (by omega) (by omega)]; omega
 have hag : 1 ≤ IntKind.i64.wrap (1 + (IntKind.i64.wrap (a2.tmod 50 + 50)).tmod 50) ∧ IntKind.i64.wrap (1 + (IntKind.i64.wrap (a2.tmod 50 + 50)).tmod 50) ≤ 50 := by
  rw [w64i (by omega) (by omega)]; omega
 generalize IntKind.i64.wrap (1 + (IntKind.i64.wrap (a2.tmod 50 + 50)).tmod 50) = age at *
 generalize IntKind.i64.wrap (1 + (IntKind.i64.wrap (a1.tmod 4 + 4)).tmod 4) = slots at *
 have hz : Szs n slots age := ⟨hnum, hsl, hag.1, by omega⟩
 have hn16 : 1 ≤ n ∧ n ≤ 16 := by unfold Num at hnum; omega
 have hnew : fdb_New n slots age = some (⟨List.replicate n.toNat [], slots, age⟩, 0) := by
  unfold fdb_New
  rw [sizes_eq, decide_eq_true hz]
  simp only [Option.bind_some, Bool.not_true, cond_false]
  rw [grd_true ⟨by omega, Int.le_refl _, fitsS (by omega) (by omega)⟩]
 rw [hnew]
 simp only [Option.bind_some, decide_true, Bool.not_true, cond_false]
 have e80 : a3.take (mn ((a3.length : Nat) : Int) 80).toNat = a3.take 80 := take_mn a3 80
 rw [grd_true (mn_ok a3 80 (by omega)), e80]
 have hlen : ((List.replicate n.toNat ([] : List En)).length : Int) = n := by rw [List.length_replicate]; omega
 have ht0 : TbOk ⟨List.replicate n.toNat [], slots, age⟩ := ⟨by show Szs (((List.replicate n.toNat ([] : List En)).length : Nat) : Int) slots age; rw [hlen]; exact hz, fun b l hl => by
  have hl' : (List.replicate n.toNat ([] : List En))[b]? = some l := hl
  have := (List.mem_replicate.1 (List.mem_of_getElem? hl')).2
  subst this
  exact ⟨⟨by simp, by simp⟩, by show ((0 : Nat) : Int) ≤ slots; omega⟩⟩
 have hb0 : ∀ a, bk ⟨List.replicate n.toNat [], slots, age⟩ a = [] := fun a => by
  have h1 := ht0.bucket a
  have h2 : (List.replicate n.toNat ([] : List En))[bkt a.toNat (List.replicate n.toNat ([] : List En)).length]? = some (bk ⟨List.replicate n.toNat [], slots, age⟩ a) := h1
  exact (List.mem_replicate.1 (List.mem_of_getElem? h2)).2
 have hinv : Inv slots age ⟨List.replicate n.toNat [], slots, age⟩ [] [] [] := ⟨ht0, rfl, rfl, fun a => .inr ⟨rfl, fun e he => by
  unfold ent at he
  rw [hb0] at he; cases he⟩⟩
 obtain ⟨s, h1, _⟩ := rangeL_inv (ρ := Bool) (s0 := (0, (⟨List.replicate n.toNat [], slots, age⟩ : Tb), ([] : List (Int × Int)), ([] : List (Int × Int)), ([] : List (Int × Int)))) (body := law08_FdbForgets_c0 a1 a2) (xs := a3.take 80) (by rw [List.length_take]; omega)
  (fun k s => k ≤ 100 → (0 ≤ s.1 ∧ s.1 ≤ 7 * (k : Int)) ∧ Inv slots age s.2.1 s.2.2.1 s.2.2.2.1 s.2.2.2.2) (fun _ => ⟨⟨Int.le_refl _, by show (0 : Int) ≤ _; omega⟩, hinv⟩) (fun k x s hx hI => by
   have hk := (List.getElem?_eq_some_iff.1 hx).1
   rw [List.length_take] at hk
   obtain ⟨i1, i2⟩ := hI (by omega)
   obtain ⟨s', g1, g2, g3⟩ := hstep (k := k) (by omega) x i1 i2
   exact ⟨s', g1, fun _ => ⟨g2, g3⟩⟩)
 rw [h1, aft_some_nxt, alive08F]
 rfl
end
end Go.RX
