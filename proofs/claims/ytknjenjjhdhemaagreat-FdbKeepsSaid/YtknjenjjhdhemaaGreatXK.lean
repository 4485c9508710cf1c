/- What is kept of a table: flushed, unpinned, swept, plainly. -/
import Derived.Test.YtknjenjjhdhemaaGreatFj
import Derived.Test.YtknjenjjhdhemaaGreatPQ
import Derived.Test.YtknjenjjhdhemaaGreatFq
import Derived.KernelRfl
set_option linter.unusedVariables false
set_option linter.unusedSimpArgs false
namespace Go.RX
section
set_option maxHeartbeats 1000000

def tf (t : Tb) (p : En → Bool) : Tb := ⟨t.Buckets.map (·.filter p), t.Slots, t.Age⟩
theorem Right_prog {t : Tb} (hs : Small t) : ∃ b, fdb_Right t = some b ∧ (b = true ↔ TbOk t) := by
 obtain ⟨b, h1, _, h3⟩ := Right_both hs
 exact ⟨b, h1, h3⟩
theorem keep_loop {ρ : Type} {body : Nat → Tb → Option (Step ρ Tb)} (p : En → Bool) {t : Tb} (hn : t.Buckets.length ≤ 1000) (hb : ∀ (k : Nat) (s : Tb) (v : List En), t.Buckets[k]? = some v → s.Buckets[k]? = some v → s.Buckets.length = t.Buckets.length → body k s = some (.nxt ⟨s.Buckets.set k (v.filter p), s.Slots, s.Age⟩)) :
  rangeN body ((t.Buckets.length : Nat) : Int) t = some (.nxt (tf t p)) := by
 have e := rangeN_up (body := body) (n := ((t.Buckets.length : Nat) : Int)) (s0 := t) (by omega) (fun k => (⟨(t.Buckets.take k).map (·.filter p) ++ t.Buckets.drop k, t.Slots, t.Age⟩ : Tb)) (by simp) (fun k hk => by
  have hk' : k < t.Buckets.length := by omega
  have hv : t.Buckets[k]? = some t.Buckets[k] := List.getElem?_eq_getElem hk'
  have hlt : ((t.Buckets.take k).map (·.filter p)).length = k := by rw [List.length_map, List.length_take]; omega
  have hd : t.Buckets.drop k = t.Buckets[k] :: t.Buckets.drop (k + 1) := List.drop_eq_getElem_cons hk'
  rw [hb k _ _ hv (by
   show ((t.Buckets.take k).map (·.filter p) ++ t.Buckets.drop k)[k]? = _
   rw [List.getElem?_append_right (by omega), hlt, Nat.sub_self, hd]; rfl) (by
   show ((t.Buckets.take k).map (·.filter p) ++ t.Buckets.drop k).length = _
   rw [List.length_append, hlt, List.length_drop]; omega)]
  congr 2
  show (⟨((t.Buckets.take k).map (·.filter p) ++ t.Buckets.drop k).set k (t.Buckets[k].filter p), t.Slots, t.Age⟩ : Tb) = _
  rw [List.set_append_right _ _ (by omega), hlt, Nat.sub_self, hd, List.take_succ_eq_append_getElem hk', List.map_append, List.set_cons_zero]
  simp)
 rw [e, Int.toNat_natCast, List.take_length, List.drop_length, List.append_nil]
 rfl
theorem buck4 {t : Tb} (h : TbOk t) {k : Nat} {v : List En} (hv : t.Buckets[k]? = some v) : v.length ≤ 4 := by
 have h1 := (h.2 k v hv).2
 have h2 := h.1.2.1.2
 omega
theorem del_body {q : En → Option Bool} {p : En → Bool} (hq : ∀ e, q e = some (!p e)) {v : List En} (hv : v.length ≤ 4) : slices_DeleteFunc_Entry v q = some (v.filter p) := by
 have := delG_eq (q := q) (p := fun e => !p e) (l := v) (by omega) (fun x _ => hq x)
 rw [show slices_DeleteFunc_Entry v q = delG q v from rfl, this]
 simp
theorem Flush_eq {t : Tb} (h : TbOk t) {port : Int} (hp : port = -1 ∨ (0 ≤ port ∧ port ≤ 7)) : fdb_Flush t port = some (tf t (fun e => e.Static || (!decide (port = -1) && !decide (e.Port = port))), 0) := by
 have hn := n16 h
 obtain ⟨b, h1, h2⟩ := Right_prog (small_of h)
 have hb : b = true := h2.2 h
 subst hb
 have hq : ∀ e, fdb_keep_1_fdb_Flush_1 e port = some (!(e.Static || (!decide (port = -1) && !decide (e.Port = port)))) := fun e => by
  unfold fdb_keep_1_fdb_Flush_1 fdb_Flush_1
  cases e.Static <;> by_cases h : port = -1 <;> by_cases g : e.Port = port <;> simp [h, g]
 have hk : fdb_keep_fdb_Flush_1 t port = some (tf t (fun e => e.Static || (!decide (port = -1) && !decide (e.Port = port)))) := by
  unfold fdb_keep_fdb_Flush_1
  rw [own_eq (by omega)]
  simp only [Option.bind_some]
  rw [keep_loop (fun e => e.Static || (!decide (port = -1) && !decide (e.Port = port))) (by omega) (fun k s v hv hs hl => by
   have hk := (List.getElem?_eq_some_iff.1 hs).1
   have h4 := buck4 h hv
   unfold fdb_keep_fdb_Flush_1_c0
   rw [grd_true ⟨by omega, by omega⟩, Int.toNat_natCast, show gixN s.Buckets k = some v from hs]
   simp only [Option.bind_some]
   rw [clone_eq (by omega)]
   simp only [Option.bind_some]
   rw [del_body hq h4]
   simp only [Option.bind_some]
   rw [grd_true ⟨by omega, by omega⟩]), aft_some_nxt]
 unfold fdb_Flush
 rw [h1, isPort_eq, hk]
 simp only [Option.bind_some, gd_some]
 rcases hp with hp | hp
 ·subst hp; rfl
 ·have : ¬ port = -1 := by omega
  simp [this, hp]
theorem Unpin_eq {t : Tb} (h : TbOk t) {a : Int} (ha : Uni a) : fdb_Unpin t a = some (if ∃ e ∈ bk t a, e.Mac = a ∧ e.Static = true then (tf t (fun e => !decide (e.Mac = a)), 0) else (⟨[], 0, 0⟩, 4)) := by
 have hn := n16 h
 obtain ⟨b, h1, h2⟩ := Right_prog (small_of h)
 have hb : b = true := h2.2 h
 subst hb
 have hq : ∀ e, fdb_keep_1_fdb_Unpin_1 e a = some (!(!decide (e.Mac = a))) := fun e => by
  unfold fdb_keep_1_fdb_Unpin_1 fdb_Unpin_1
  by_cases h : e.Mac = a <;> simp [h]
 have hk : fdb_keep_fdb_Unpin_1 t a = some (tf t (fun e => !decide (e.Mac = a))) := by
  unfold fdb_keep_fdb_Unpin_1
  rw [own_eq (by omega)]
  simp only [Option.bind_some]
  rw [keep_loop (fun e => !decide (e.Mac = a)) (by omega) (fun k s v hv hs hl => by
   have hk := (List.getElem?_eq_some_iff.1 hs).1
   have h4 := buck4 h hv
   unfold fdb_keep_fdb_Unpin_1_c0
   rw [grd_true ⟨by omega, by omega⟩, Int.toNat_natCast, show gixN s.Buckets k = some v from hs]
   simp only [Option.bind_some]
   rw [clone_eq (by omega)]
   simp only [Option.bind_some]
   rw [del_body hq h4]
   simp only [Option.bind_some]
   rw [grd_true ⟨by omega, by omega⟩]), aft_some_nxt]
 have hl := h.len4 a
 have hbk : gix t.Buckets ((bkt a.toNat t.Buckets.length : Nat) : Int) = some (bk t a) := by rw [gix_nat]; exact h.bucket a
 have hnd := (h.bok a).1.1
 unfold fdb_Unpin fdb_pinned
 rw [h1, isMac_eq, hk, place_eq h ha]
 simp only [Option.bind_some, gd_some, decide_eq_true ha, Bool.not_true, Bool.not_false, cond_true, cond_false, hbk]
 by_cases hp : 0 ≤ plc (bk t a) a
 ·obtain ⟨e, h4, h5⟩ := plc_get hp
  have hg : gix (bk t a) (plc (bk t a) a) = some e := gix_of hp h4
  simp only [decide_eq_true hp, cond_true, gd_true, hg, Option.bind_some]
  have huniq : ∀ x ∈ bk t a, x.Mac = a → x = e := fun x hx hm => by
   obtain ⟨j, hj⟩ := List.getElem?_of_mem hx
   have hj1 := (List.getElem?_eq_some_iff.1 hj).1
   have hi1 := (List.getElem?_eq_some_iff.1 h4).1
   have hpw := List.pairwise_iff_getElem.1 hnd
   have ej : ((bk t a).map (·.Mac))[j]'(by simpa using hj1) = a := by
    rw [List.getElem_map, (List.getElem?_eq_some_iff.1 hj).2, hm]
   have ei : ((bk t a).map (·.Mac))[(plc (bk t a) a).toNat]'(by simpa using hi1) = a := by
    rw [List.getElem_map, (List.getElem?_eq_some_iff.1 h4).2, h5]
   rcases Nat.lt_trichotomy j (plc (bk t a) a).toNat with hlt | heq | hlt
   ·exact absurd (ej.trans ei.symm) (hpw _ _ _ _ hlt)
   ·rw [heq, h4] at hj
    exact (Option.some.inj hj).symm
   ·exact absurd (ei.trans ej.symm) (hpw _ _ _ _ hlt)
  cases hs : e.Static
  ·rw [if_neg (fun ⟨x, hx, hm, hst⟩ => by rw [huniq x hx hm, hs] at hst; cases hst)]
   rfl
  ·rw [if_pos ⟨e, List.mem_of_getElem? h4, h5, hs⟩]
   rfl
 ·simp only [decide_eq_false hp, cond_false, gd_false, Option.bind_some]
  rw [if_neg (fun ⟨x, hx, hm, _⟩ => hp (plc_mem.2 (List.mem_map.2 ⟨x, hx, hm⟩)))]
  rfl

def tm (A : Int) : Nat → List En → List Tm
 | _, [] => []
 | i, e :: l => ⟨(i : Int), e.Seen + A + 1⟩ :: tm A (i + 1) l
theorem tm_app (A : Int) : ∀ (l : List En) (i : Nat) (x : En), tm A i (l ++ [x]) = tm A i l ++ [⟨((i + l.length : Nat) : Int), x.Seen + A + 1⟩]
 | [], i, x => by simp [tm]
 | e :: l, i, x => by
  simp only [List.cons_append, tm, tm_app A l (i + 1) x, List.length_cons]
  rw [show i + 1 + l.length = i + (l.length + 1) by omega]
theorem tm_mem {A : Int} {x : Tm} : ∀ {l : List En} {i : Nat}, x ∈ tm A i l ↔ ∃ (j : Nat) (e : En), l[j]? = some e ∧ x = ⟨((i + j : Nat) : Int), e.Seen + A + 1⟩
 | [], i => by simp [tm]
 | e :: l, i => by
  rw [tm, List.mem_cons, tm_mem]
  constructor
  ·rintro (h | ⟨j, y, h1, h2⟩)
   ·exact ⟨0, e, rfl, h⟩
   ·exact ⟨j + 1, y, by simpa using h1, by rw [h2, show i + 1 + j = i + (j + 1) by omega]⟩
  ·rintro ⟨j, y, h1, h2⟩
   cases j with
   | zero => simp at h1; subst h1; exact .inl h2
   | succ j => exact .inr ⟨j, y, by simpa using h1, by rw [h2, show i + 1 + j = i + (j + 1) by omega]⟩
theorem tm_len (A : Int) : ∀ (l : List En) (i : Nat), (tm A i l).length = l.length
 | [], _ => rfl
 | e :: l, i => by simp [tm, tm_len A l]
def ages (A : Int) (e : En) : Bool := !e.Static && decide (e.Seen + A + 1 ≤ 1099511627776)
theorem flat_len {t : Tb} (h : TbOk t) : ∀ k, (t.Buckets.take k).flatten.length ≤ 4 * k := by
 intro k
 induction k with
 | zero => simp
 | succ k ih =>
  by_cases hk : k < t.Buckets.length
  ·have hv : t.Buckets[k]? = some t.Buckets[k] := List.getElem?_eq_getElem hk
   have := buck4 h hv
   rw [List.take_succ_eq_append_getElem hk, List.flatten_append, List.length_append, List.flatten_cons, List.flatten_nil, List.append_nil]
   omega
  ·rw [List.take_of_length_le (by omega)]
   rw [List.take_of_length_le (by omega)] at ih
   omega
theorem arm_next {A : Int} {T : List Tm} {all : List En} {x : En} (hT : TLOk T) (hp : T.Perm (tm A 0 all)) (hlen : all.length + 1 ≤ 64) (hx : 0 ≤ x.Seen + A + 1) (hx2 : x.Seen + A + 1 ≤ 1099511627776) :
  ∃ L, wheel_Arm T ⟨((all.length : Nat) : Int), x.Seen + A + 1⟩ = some (L, 0) ∧ TLOk L ∧ L.Perm (tm A 0 (all ++ [x])) := by
 have ht : TmOk ⟨((all.length : Nat) : Int), x.Seen + A + 1⟩ := ⟨by show (0 : Int) ≤ ((all.length : Nat) : Int); omega, hx, hx2⟩
 have hU : armU T ⟨((all.length : Nat) : Int), x.Seen + A + 1⟩ = T ++ [⟨((all.length : Nat) : Int), x.Seen + A + 1⟩] := by
  unfold armU
  rw [List.filter_eq_self.2 fun y hy => by
   obtain ⟨j, e, h1, h2⟩ := tm_mem.1 (hp.mem_iff.1 hy)
   have hj := (List.getElem?_eq_some_iff.1 h1).1
   have : ¬ y.ID = ((all.length : Nat) : Int) := by
    rw [h2]; show ¬ ((0 + j : Nat) : Int) = _; omega
   simp [this]]
 have hTl : T.length = all.length := by rw [hp.length_eq, tm_len]
 rcases Arm_eq hT ht with ⟨g, _⟩ | ⟨_, L, l1, l2, l3⟩
 ·rw [hU, List.length_append, hTl] at g; simp at g; omega
 ·refine ⟨L, l1, l3, l2.trans ?_⟩
  rw [hU, tm_app, Nat.zero_add]
  exact hp.append_right _
theorem sweep_in {t : Tb} (h : TbOk t) {k : Nat} {l : List En} (hl : t.Buckets[k]? = some l) {T0 : List Tm} {all0 : List En} (hT : TLOk T0) (hp : T0.Perm (tm t.Age 0 all0)) (ha : all0.length ≤ 4 * k) :
  ∃ T, rangeL (fdb_Sweep_c1 t) l (T0, all0) = some (.nxt (T, all0 ++ l.filter (ages t.Age))) ∧ TLOk T ∧ T.Perm (tm t.Age 0 (all0 ++ l.filter (ages t.Age))) := by
 have h4 := buck4 h hl
 have hk := (List.getElem?_eq_some_iff.1 hl).1
 have hn := n16 h
 have hage := h.1.2.2
 obtain ⟨s, h1, h2, h3, h5⟩ := rangeL_inv (ρ := Step (Tb × Int) (List Tm × List En)) (body := fdb_Sweep_c1 t) (xs := l) (s0 := (T0, all0)) (by omega) (fun j s => s.2 = all0 ++ (l.take j).filter (ages t.Age) ∧ TLOk s.1 ∧ s.1.Perm (tm t.Age 0 s.2)) ⟨by simp, hT, hp⟩ (fun j x s hx ⟨i1, i2, i3⟩ => by
  have hj := (List.getElem?_eq_some_iff.1 hx).1
  have he := (h.2 k l hl).1.2 x (List.mem_of_getElem? hx)
  have hseen := he.2.2.1
  have ht : l.take (j + 1) = l.take j ++ [x] := by rw [List.take_add_one, hx]; rfl
  have hfl := List.length_filter_le (ages t.Age) (l.take j)
  rw [List.length_take] at hfl
  have hs2 : s.2.length + 1 ≤ 64 := by rw [i1, List.length_append]; omega
  unfold fdb_Sweep_c1
  rw [w64t (x := x.Seen + t.Age) (by omega) (by omega), w64t (x := x.Seen + t.Age + 1) (by omega) (by omega)]
  rw [ht, List.filter_append]
  by_cases hc : ages t.Age x = true
  ·have hc' := hc
   unfold ages at hc'
   rw [Bool.and_eq_true] at hc'
   have e1 : (bif !x.Static then decide (x.Seen + t.Age + 1 ≤ 1099511627776) else false) = true := by rw [hc'.1, hc'.2]; rfl
   obtain ⟨L, l1, l2, l3⟩ := arm_next (A := t.Age) (x := x) i2 i3 hs2 (by omega) (by simpa using hc'.2)
   rw [e1]
   simp only [cond_true]
   rw [l1]
   simp only [Option.bind_some]
   rw [grd_true (fitsT (by rw [List.length_append]; simp; omega) (by omega))]
   refine ⟨_, rfl, ?_, l2, l3⟩
   show s.2 ++ [x] = _
   rw [i1, List.filter_cons, if_pos hc, List.filter_nil, List.append_assoc]
  ·have e1 : (bif !x.Static then decide (x.Seen + t.Age + 1 ≤ 1099511627776) else false) = false := by
    unfold ages at hc
    cases hs : x.Static
    ·rw [hs] at hc; simpa using hc
    ·rfl
   rw [e1]
   simp only [cond_false]
   refine ⟨_, rfl, ?_, i2, i3⟩
   rw [List.filter_cons, if_neg hc, List.filter_nil, List.append_nil]
   exact i1)
 rw [List.take_length] at h2
 obtain ⟨s1, s2⟩ := s
 simp only at h2 h3 h5
 subst h2
 exact ⟨s1, h1, h3, h5⟩
theorem tl_nil : TLOk [] := ⟨⟨by simp, by simp, by simp⟩, by simp⟩
theorem sweep_out {t : Tb} (h : TbOk t) : ∃ T all, rangeL (fdb_Sweep_c0 t) t.Buckets (([] : List Tm), ([] : List En)) = some (.nxt (T, all)) ∧ TLOk T ∧ T.Perm (tm t.Age 0 all) ∧ (∀ e, e ∈ all ↔ (∃ l ∈ t.Buckets, e ∈ l) ∧ ages t.Age e = true) ∧ all.length ≤ 64 := by
 have hn := n16 h
 obtain ⟨s, h1, h2, h3, h5⟩ := rangeL_inv (ρ := Tb × Int) (body := fdb_Sweep_c0 t) (xs := t.Buckets) (s0 := (([] : List Tm), ([] : List En))) (by omega) (fun k s => s.2 = (t.Buckets.take k).flatten.filter (ages t.Age) ∧ TLOk s.1 ∧ s.1.Perm (tm t.Age 0 s.2)) ⟨by simp, tl_nil, List.Perm.refl _⟩ (fun k l s hl ⟨i1, i2, i3⟩ => by
  have hk := (List.getElem?_eq_some_iff.1 hl).1
  have hfl := List.length_filter_le (ages t.Age) (t.Buckets.take k).flatten
  have hf4 := flat_len h k
  obtain ⟨T, t1, t2, t3⟩ := sweep_in h hl i2 i3 (by rw [i1]; omega)
  unfold fdb_Sweep_c0
  rw [t1, aft_some_nxt]
  refine ⟨_, rfl, ?_, t2, t3⟩
  show s.2 ++ l.filter (ages t.Age) = _
  have ht : t.Buckets.take (k + 1) = t.Buckets.take k ++ [l] := by rw [List.take_add_one, hl]; rfl
  rw [ht, List.flatten_append, List.filter_append, i1]
  simp)
 rw [List.take_length] at h2
 refine ⟨s.1, s.2, h1, h3, h5, fun e => ?_, ?_⟩
 ·rw [h2, List.mem_filter, List.mem_flatten]
 ·rw [h2]
  have hfl := List.length_filter_le (ages t.Age) t.Buckets.flatten
  have hf4 := flat_len h t.Buckets.length
  rw [List.take_length] at hf4
  omega
theorem idxX_eq {l : List En} (hl : l.length ≤ 1000) (m : List (En × Bool)) : slices_IndexFunc_Entry_x l m = idxG (fun e => fdb_keep_1_x e m) l := by
 have hq : ∀ e, fdb_keep_1_x e m = some (mget m e false) := fun e => by
  unfold fdb_keep_1_x fdb_Sweep_1_x
  simp
 have hb : ∀ (k : Nat) (x : En), l[k]? = some x → slices_IndexFunc_Entry_x_c0 l m k () = some (bif mget m x false then .ret ((k : Nat) : Int) else .nxt ()) := fun k x hx => by
  have hk := (List.getElem?_eq_some_iff.1 hx).1
  unfold slices_IndexFunc_Entry_x_c0
  rw [grd_true ⟨by omega, by omega⟩, Int.toNat_natCast, show gixN l k = some x from hx]
  simp only [Option.bind_some, hq]
  cases mget m x false <;> rfl
 obtain ⟨o, h1, h2⟩ := rangeN_rec (s0 := ()) (body := slices_IndexFunc_Entry_x_c0 l m) (n := ((l.length : Nat) : Int)) (by omega) (fun k _ => ∀ j y, j < k → l[j]? = some y → mget m y false = false) (fun r => ∃ k x, l[k]? = some x ∧ mget m x false = true ∧ (∀ j y, j < k → l[j]? = some y → mget m y false = false) ∧ r = ((k : Nat) : Int)) (fun _ => False) (fun j y h => by omega) (fun k s hk hi => by
  have hk' : k < l.length := by omega
  have hx : l[k]? = some l[k] := List.getElem?_eq_getElem hk'
  refine ⟨_, hb k _ hx, ?_⟩
  cases hm : mget m l[k] false with
  | true => exact ⟨k, _, hx, hm, hi, rfl⟩
  | false =>
   intro j y hj hy
   by_cases hjk : j = k
   ·subst hjk
    rw [hx] at hy
    rw [← Option.some.inj hy]; exact hm
   ·exact hi j y (by omega) hy)
 unfold slices_IndexFunc_Entry_x
 rw [h1]
 rcases idxG_eq (q := fun e => fdb_keep_1_x e m) (p := fun e => mget m e false) (l := l) (by omega) (fun x _ => hq x) with ⟨k, x, hx, hp, hj, h3⟩ | ⟨hp, h3⟩
 ·rw [h3]
  cases o with
  | ret r =>
   obtain ⟨k', x', hx', hp', hj', rfl⟩ := h2
   rw [aft_some_ret]
   rcases Nat.lt_trichotomy k k' with h | h | h
   ·have := hj' k x h hx; rw [hp] at this; cases this
   ·rw [h]
   ·have := hj k' x' h hx'; rw [hp'] at this; cases this
  | brk s => exact h2.elim
  | nxt s =>
   have h4 := h2.resolve_right id
   have hk := (List.getElem?_eq_some_iff.1 hx).1
   have := h4 k x (by omega) hx
   rw [hp] at this; cases this
 ·rw [h3]
  cases o with
  | ret r =>
   obtain ⟨k', x', hx', hp', hj', rfl⟩ := h2
   have := hp x' (List.mem_of_getElem? hx')
   rw [hp'] at this; cases this
  | brk s => exact h2.elim
  | nxt s => rw [aft_some_nxt]
theorem delX_eq {l : List En} (hl : l.length ≤ 1000) (m : List (En × Bool)) : slices_DeleteFunc_Entry_x l m = some (l.filter fun e => !mget m e false) := by
 have hq : ∀ e, fdb_keep_1_x e m = some (mget m e false) := fun e => by
  unfold fdb_keep_1_x fdb_Sweep_1_x
  simp
 have h1 : slices_DeleteFunc_Entry_x l m = delG (fun e => fdb_keep_1_x e m) l := by
  unfold slices_DeleteFunc_Entry_x
  rw [idxX_eq hl]
  rfl
 rw [h1, delG_eq (p := fun e => mget m e false) (by omega) (fun x _ => hq x)]
theorem Sweep_eq {t : Tb} (h : TbOk t) {now : Int} (h0 : 0 ≤ now) (h1 : now ≤ 1099511627776) : fdb_Sweep t now = some (tf t (fun e => e.Static || decide (now - e.Seen ≤ t.Age)), 0) := by
 have hn := n16 h
 obtain ⟨b, r1, r2⟩ := Right_prog (small_of h)
 have hb : b = true := r2.2 h
 subst hb
 obtain ⟨T, all, s1, s2, s3, s4, s5⟩ := sweep_out h
 obtain ⟨k, k1, k2, k3, k4⟩ := Advance_eq s2 h0 h1
 have hT64 := s2.2
 -- what is due
 have hdue : ∀ x, x ∈ T.take k ↔ x ∈ T ∧ x.At ≤ now := fun x => by
  constructor
  ·intro hx
   exact ⟨(List.take_sublist k T).mem hx, k3 x hx⟩
  ·intro ⟨hx, hle⟩
   rw [← List.take_append_drop k T] at hx
   rcases List.mem_append.1 hx with hx | hx
   ·exact hx
   ·have := k4 x hx; omega
 have hid : ∀ x ∈ T, ∃ e, all[x.ID.toNat]? = some e ∧ 0 ≤ x.ID ∧ x.At = e.Seen + t.Age + 1 := fun x hx => by
  obtain ⟨j, e, e1, e2⟩ := tm_mem.1 (s3.mem_iff.1 hx)
  rw [Nat.zero_add] at e2
  rw [e2]
  exact ⟨e, by simpa using e1, by show (0 : Int) ≤ ((j : Nat) : Int); omega, rfl⟩
 obtain ⟨m, m1, m2⟩ := rangeL_inv (ρ := Tb × Int) (body := fdb_Sweep_c2 (T, all)) (xs := T.take k) (s0 := ([] : List (En × Bool))) (by rw [List.length_take]; omega) (fun j m => ∀ e, mget m e false = true ↔ ∃ x ∈ (T.take k).take j, all[x.ID.toNat]? = some e) (fun e => by simp [mget_nil]) (fun j x m hx hi => by
  have hxT : x ∈ T := (List.take_sublist k T).mem (List.mem_of_getElem? hx)
  obtain ⟨e, e1, e2, e3⟩ := hid x hxT
  have he := (List.getElem?_eq_some_iff.1 e1).1
  have ht : (T.take k).take (j + 1) = (T.take k).take j ++ [x] := by rw [List.take_add_one, hx]; rfl
  unfold fdb_Sweep_c2
  simp only
  rw [grd_true ⟨by omega, by omega⟩, show gixN all x.ID.toNat = some e from e1]
  refine ⟨_, rfl, fun z => ?_⟩
  rw [ht]
  by_cases hz : e = z
  ·subst hz
   rw [mget_mput]
   exact ⟨fun _ => ⟨x, by simp, e1⟩, fun _ => rfl⟩
  ·rw [mget_mput_ne hz, hi]
   constructor
   ·rintro ⟨y, hy, hy2⟩; exact ⟨y, List.mem_append_left _ hy, hy2⟩
   ·rintro ⟨y, hy, hy2⟩
    rcases List.mem_append.1 hy with hy | hy
    ·exact ⟨y, hy, hy2⟩
    ·simp at hy; subst hy
     rw [e1] at hy2
     exact absurd (Option.some.inj hy2) hz)
 rw [List.take_length] at m2
 -- who is old
 have hold : ∀ l ∈ t.Buckets, ∀ e ∈ l, (!mget m e false) = (e.Static || decide (now - e.Seen ≤ t.Age)) := fun l hl e he => by
  have key : mget m e false = true ↔ (e.Static = false ∧ ¬ now - e.Seen ≤ t.Age) := by
   rw [m2]
   constructor
   ·rintro ⟨x, hx, hx2⟩
    obtain ⟨hxT, hxn⟩ := (hdue x).1 hx
    obtain ⟨e', e1, e2, e3⟩ := hid x hxT
    rw [e1] at hx2
    have := Option.some.inj hx2
    subst this
    have hag := ((s4 e').1 (List.mem_of_getElem? e1)).2
    unfold ages at hag
    rw [Bool.and_eq_true] at hag
    exact ⟨by simpa using hag.1, by omega⟩
   ·intro ⟨g1, g2⟩
    have hag : ages t.Age e = true := by
     unfold ages
     rw [g1]
     simp; omega
    obtain ⟨j, hj⟩ := List.getElem?_of_mem ((s4 e).2 ⟨⟨l, hl, he⟩, hag⟩)
    have hx : (⟨((j : Nat) : Int), e.Seen + t.Age + 1⟩ : Tm) ∈ T := s3.mem_iff.2 (tm_mem.2 ⟨j, e, hj, by rw [Nat.zero_add]⟩)
    exact ⟨_, (hdue _).2 ⟨hx, by show e.Seen + t.Age + 1 ≤ now; omega⟩, by simpa using hj⟩
  cases hs : e.Static
  ·by_cases hd : now - e.Seen ≤ t.Age
   ·have : ¬ mget m e false = true := fun g => (key.1 g).2 hd
    simp [hd, this]
   ·have : mget m e false = true := key.2 ⟨hs, hd⟩
    simp [hd, this]
  ·have : ¬ mget m e false = true := fun g => by have := (key.1 g).1; rw [hs] at this; cases this
   simp [this]
 have hk : fdb_keep_x t m = some (tf t (fun e => e.Static || decide (now - e.Seen ≤ t.Age))) := by
  unfold fdb_keep_x
  rw [own_eq (by omega)]
  simp only [Option.bind_some]
  rw [keep_loop (fun e => e.Static || decide (now - e.Seen ≤ t.Age)) (by omega) (fun k s v hv hs hl => by
   have hk := (List.getElem?_eq_some_iff.1 hs).1
   have h4 := buck4 h hv
   unfold fdb_keep_x_c0
   rw [grd_true ⟨by omega, by omega⟩, Int.toNat_natCast, show gixN s.Buckets k = some v from hs]
   simp only [Option.bind_some]
   rw [clone_eq (by omega)]
   simp only [Option.bind_some]
   rw [delX_eq (by omega)]
   simp only [Option.bind_some]
   rw [grd_true ⟨by omega, by omega⟩, List.filter_congr fun e he => hold v (List.mem_of_getElem? hv) e he]), aft_some_nxt]
 unfold fdb_Sweep
 rw [r1, isTime_eq]
 simp only [Option.bind_some, gd_some, Bool.not_true, Bool.not_false, cond_true, cond_false, decide_eq_true (show 0 ≤ now ∧ now ≤ 1099511627776 from ⟨h0, h1⟩)]
 rw [s1, aft_some_nxt]
 simp only
 rw [k2]
 simp only [Option.bind_some]
 rw [m1, aft_some_nxt, hk]
 rfl

theorem tf_ok {t : Tb} (h : TbOk t) (p : En → Bool) : TbOk (tf t p) := by
 refine ⟨by show Szs (((t.Buckets.map _).length : Nat) : Int) _ _; rw [List.length_map]; exact h.1, fun b l hl => ?_⟩
 have hl' : (t.Buckets.map (·.filter p))[b]? = some l := hl
 rw [List.getElem?_map, Option.map_eq_some_iff] at hl'
 obtain ⟨v, hv, rfl⟩ := hl'
 obtain ⟨⟨g1, g2⟩, g3⟩ := h.2 b v hv
 have hs : (v.filter p).Sublist v := List.filter_sublist
 have hlen : (tf t p).Buckets.length = t.Buckets.length := by simp [tf]
 refine ⟨⟨(hs.map (·.Mac)).nodup g1, fun e he => ?_⟩, ?_⟩
 ·rw [hlen]; exact g2 e (hs.mem he)
 ·have := hs.length_le
  show (((v.filter p).length : Nat) : Int) ≤ t.Slots
  omega
theorem tf_bk {t : Tb} (h : TbOk t) (p : En → Bool) (a : Int) : bk (tf t p) a = (bk t a).filter p := by
 have h1 := h.bucket a
 have hlen : (tf t p).Buckets.length = t.Buckets.length := by simp [tf]
 unfold bk
 rw [hlen]
 show (t.Buckets.map (·.filter p)).getD _ [] = _
 rw [List.getD_eq_getElem?_getD, List.getElem?_map, h1, List.getD_eq_getElem?_getD, h1]
 rfl
noncomputable def ent (t : Tb) (a : Int) : Option En := (bk t a).find? fun e => decide (e.Mac = a)
theorem plc_find {a : Int} : ∀ {l : List En}, l.find? (fun e => decide (e.Mac = a)) = if plc l a < 0 then none else l[(plc l a).toNat]?
 | [] => rfl
 | e :: l => by
  rw [List.find?_cons]
  unfold plc
  by_cases h : e.Mac = a
  ·rw [if_pos h]; simp [h]
  ·rw [if_neg h]
   simp only [decide_eq_false h]
   rw [plc_find]
   by_cases h2 : plc l a < 0
   ·rw [if_pos h2, if_pos h2]; rfl
   ·rw [if_neg h2, if_neg h2, if_neg (by omega), show (plc l a + 1).toNat = (plc l a).toNat + 1 by omega]
    rfl
theorem fnd_ent (t : Tb) (a now : Int) : fnd t a now = match ent t a with
  | some e => if e.Static = true ∨ now - e.Seen ≤ t.Age then e.Port else -1
  | none => -1 := by
 unfold fnd ent
 rw [plc_find]
 by_cases h : plc (bk t a) a < 0
 ·rw [if_pos h]
  split
  ·rw [if_pos h]
  ·rfl
 ·rw [if_neg h]
  split
  ·rename_i e he
   rw [if_neg h, he]
  ·rename_i he
   rw [he]
theorem find_filter {a : Int} {p : En → Bool} : ∀ {l : List En}, (l.map (·.Mac)).Nodup → (l.filter p).find? (fun e => decide (e.Mac = a)) = (l.find? fun e => decide (e.Mac = a)).filter p
 | [], _ => rfl
 | e :: l, hn => by
  rw [List.map_cons, List.nodup_cons] at hn
  by_cases h : e.Mac = a
  ·have hno : l.find? (fun e => decide (e.Mac = a)) = none := by
    rw [List.find?_eq_none]
    intro x hx
    have : x.Mac ≠ a := fun g => hn.1 (List.mem_map.2 ⟨x, hx, g.trans h.symm⟩)
    simp [this]
   have ih := find_filter (a := a) (p := p) hn.2
   rw [hno] at ih
   rw [List.find?_cons]
   simp only [decide_eq_true h]
   rw [List.filter_cons]
   by_cases hp : p e = true
   ·rw [if_pos hp, List.find?_cons]
    simp only [decide_eq_true h]
    simp [Option.filter, hp]
   ·rw [if_neg hp, ih]
    simp [Option.filter, hp]
  ·have ih := find_filter (a := a) (p := p) hn.2
   rw [List.find?_cons]
   simp only [decide_eq_false h]
   rw [List.filter_cons]
   by_cases hp : p e = true
   ·rw [if_pos hp, List.find?_cons]
    simp only [decide_eq_false h]
    exact ih
   ·rw [if_neg hp]; exact ih
theorem tf_ent {t : Tb} (h : TbOk t) (p : En → Bool) (a : Int) : ent (tf t p) a = (ent t a).filter p := by
 unfold ent
 rw [tf_bk h, find_filter (h.bok a).1.1]
theorem ent_mem {t : Tb} {a : Int} {e : En} (h : ent t a = some e) : e ∈ bk t a ∧ e.Mac = a := by
 unfold ent at h
 exact ⟨List.mem_of_find?_eq_some h, by simpa using List.find?_some h⟩
theorem ent_of {t : Tb} (ht : TbOk t) {a : Int} {e : En} (h : e ∈ bk t a) (hm : e.Mac = a) : ent t a = some e := by
 have hn := (ht.bok a).1.1
 unfold ent
 generalize bk t a = l at h hn
 induction l with
 | nil => cases h
 | cons x l ih =>
  rw [List.map_cons, List.nodup_cons] at hn
  rw [List.find?_cons]
  rcases List.mem_cons.1 h with rfl | h
  ·simp [hm]
  ·have : x.Mac ≠ a := fun g => hn.1 (List.mem_map.2 ⟨e, h, hm.trans g.symm⟩)
   simp only [decide_eq_false this]
   exact ih h hn.2
end
section
set_option maxHeartbeats 2000000
theorem kfew_eq (t : Tb) : law08_few t = some (fewT t) := by
 unfold law08_few
 have e20 : t.Buckets.take (mn ((t.Buckets.length : Nat) : Int) 20).toNat = t.Buckets.take 20 := take_mn t.Buckets 20
 rw [grd_true (mn_ok t.Buckets 20 (by omega)), e20]
 have := rangeL_map (body := law08_few_c0) (xs := t.Buckets.take 20) (by rw [List.length_take]; omega) (fun l => l.take 8) (fun k x s hk hs => by
  have hkl := (List.getElem?_eq_some_iff.1 hk).1
  rw [List.length_take] at hkl
  unfold law08_few_c0
  have e8 : x.take (mn ((x.length : Nat) : Int) 8).toNat = x.take 8 := take_mn x 8
  rw [grd_true (mn_ok x 8 (by omega)), e8, grd_true (fitsS (by rw [List.length_append]; simp; omega) (by omega))])
 rw [this]; rfl
theorem kalive : law08_alive = some true := by kernel_rfl
def noT : Tb := ⟨[], 0, 0⟩
theorem small_no : Small noT := ⟨by decide, fun l hl => by cases hl⟩
theorem filt_rows {ρ : Type} {body : Nat → List En → List (List En) → Option (Step ρ (List (List En)))} {t : Tb} (h : TbOk t) (p : En → Bool)
  (hb : ∀ k l s, t.Buckets[k]? = some l → l.length ≤ 4 → body k l s = grd (fits ((s ++ ([l.filter p] : (List (List En)))) : List (List En)).length 24) (some (.nxt (s ++ [l.filter p])))) : rangeL body t.Buckets [] = some (.nxt (t.Buckets.map (·.filter p))) := by
 have hn := n16 h
 refine rangeL_map (by omega) (fun l : List En => l.filter p) (fun k l s hl hs => ?_)
 have hk := (List.getElem?_eq_some_iff.1 hl).1
 rw [hb k l s hl (buck4 h hl), grd_true (fitsS (by rw [List.length_append]; simp; omega) (by omega))]
theorem filt_row {ρ : Type} {body : Nat → En → List En → Option (Step ρ (List En))} {l : List En} (hl : l.length ≤ 4) (p : En → Bool)
  (hb : ∀ k x s, l[k]? = some x → body k x s = (bif p x then grd (fits ((s ++ ([x] : (List En))) : List En).length 32) (some (.nxt (s ++ [x]))) else some (.nxt s))) : rangeL body l [] = some (.nxt (l.filter p)) := by
 obtain ⟨s, h1, h2⟩ := rangeL_inv (s0 := ([] : List En)) (body := body) (xs := l) (by omega) (fun k s => s = (l.take k).filter p) (by simp) (fun k x s hx hs => by
  have hk := (List.getElem?_eq_some_iff.1 hx).1
  have hlen : s.length ≤ k := by
   rw [hs]
   have := List.length_filter_le p (l.take k)
   rw [List.length_take] at this
   omega
  have ht : l.take (k + 1) = l.take k ++ [x] := by rw [List.take_add_one, hx]; rfl
  rw [hb k x s hx, ht, List.filter_append, ← hs]
  cases hp : p x with
  | false => exact ⟨s, rfl, by simp [hp]⟩
  | true =>
   rw [cond_true, grd_true (fitsS (by rw [List.length_append]; simp; omega) (by omega))]
   exact ⟨_, rfl, by simp [hp]⟩)
 rw [h1, h2, List.take_length]
theorem small_tf {t : Tb} (hs : Small t) (p : En → Bool) : Small (tf t p) := ⟨by simp only [tf, List.length_map]; exact hs.1, fun l hl => by
 obtain ⟨x, hx, rfl⟩ := List.mem_map.1 hl
 exact Nat.le_trans (List.length_filter_le _ _) (hs.2 x hx)⟩
theorem refSweep_eq {t : Tb} (h : TbOk t) {now : Int} (h0 : 0 ≤ now) (h1 : now ≤ 1099511627776) : ref08_Sweep t now = some (tf t (fun e => e.Static || decide (now - e.Seen ≤ t.Age))) := by
 unfold ref08_Sweep
 rw [filt_rows h (fun e => e.Static || decide (now - e.Seen ≤ t.Age)) (fun k l s hl h4 => by
  unfold ref08_Sweep_c0
  rw [filt_row h4 (fun e => e.Static || decide (now - e.Seen ≤ t.Age)) (fun j x u hx => by
   have he := ((h.2 k l hl).1.2 x (List.mem_of_getElem? hx)).2.2.1
   unfold ref08_Sweep_c1 ref08_Old
   rw [w64i (by omega) (by omega), Option.bind_some]
   have : (!(bif (!x.Static) then (decide (t.Age < now - x.Seen)) else false)) = (x.Static || decide (now - x.Seen ≤ t.Age)) := by
    cases x.Static with
    | true => rfl
    | false =>
     simp only [Bool.not_false, cond_true, Bool.false_or]
     rw [← decide_not]
     exact decide_eq_decide.2 (by omega)
   rw [this]), aft_some_nxt])]
 rfl
theorem refFlush_eq {t : Tb} (h : TbOk t) {port : Int} (hp : port = -1 ∨ (0 ≤ port ∧ port ≤ 7)) : ref08_Flush t port = some (tf t (fun e => e.Static || (!decide (port = -1) && !decide (e.Port = port)))) := by
 unfold ref08_Flush
 rw [filt_rows h (fun e => e.Static || (!decide (port = -1) && !decide (e.Port = port))) (fun k l s hl h4 => by
  unfold ref08_Flush_c0
  rw [filt_row h4 (fun e => e.Static || (!decide (port = -1) && !decide (e.Port = port))) (fun j x u hx => by
   unfold ref08_Flush_c1
   have : (bif x.Static then true else (bif (decide (0 ≤ port)) then (!decide (x.Port = port)) else false)) = (x.Static || (!decide (port = -1) && !decide (x.Port = port))) := by
    cases x.Static with
    | true => rfl
    | false =>
     simp only [cond_false, Bool.false_or]
     rcases hp with rfl | hp
     ·rfl
     ·rw [decide_eq_true hp.1, decide_eq_false (show ¬ port = -1 by omega)]; rfl
   rw [this]), aft_some_nxt])]
 rfl
theorem refPinned_eq {t : Tb} (h : TbOk t) {a : Int} (ha : Uni a) : ref08_Pinned t a = some (decide (∃ e ∈ bk t a, e.Mac = a ∧ e.Static = true)) := by
 have hl := h.len4 a
 unfold ref08_Pinned
 rw [refbucket_eq h ha, Option.bind_some, Place_eq (by omega), Option.bind_some]
 by_cases hq : 0 ≤ plc (bk t a) a
 ·obtain ⟨e, h4, h5⟩ := plc_get hq
  rw [decide_eq_true hq, gix_of hq h4, gd_true, Option.bind_some, cond_true]
  congr 1
  have hem := List.mem_of_getElem? h4
  cases hs : e.Static with
  | true => exact (decide_eq_true ⟨e, hem, h5, hs⟩).symm
  | false =>
   refine (decide_eq_false ?_).symm
   rintro ⟨y, hy, hm, hst⟩
   have : y = e := by
    obtain ⟨i, hi⟩ := List.mem_iff_getElem?.1 hy
    have hnd := (h.bok a).1.1
    have hi' := (List.getElem?_eq_some_iff.1 hi).1
    have hj' := (List.getElem?_eq_some_iff.1 h4).1
    have : i = (plc (bk t a) a).toNat := (List.getElem_inj (h₀ := by rw [List.length_map]; exact hi') (h₁ := by rw [List.length_map]; exact hj') hnd).1 (by
     rw [List.getElem_map, List.getElem_map, (List.getElem?_eq_some_iff.1 hi).2, (List.getElem?_eq_some_iff.1 h4).2, hm, h5])
    subst this
    rw [hi] at h4; exact Option.some.inj h4
   rw [this, hs] at hst; cases hst
 ·rw [decide_eq_false hq, gd_false, Option.bind_some, cond_false]
  congr 1
  refine (decide_eq_false ?_).symm
  rintro ⟨y, hy, hm, _⟩
  exact hq (plc_mem.2 (List.mem_map.2 ⟨y, hy, hm⟩))
theorem refUnpin_eq {t : Tb} (h : TbOk t) {a : Int} (ha : Uni a) : ref08_Unpin t a = some (tf t (fun e => !decide (e.Mac = a))) := by
 have hl := h.len4 a
 unfold ref08_Unpin
 rw [refbucket_eq h ha, Option.bind_some, refwithout_eq (by omega), Option.bind_some, refwith_eq h ha, Option.bind_some]
 congr 1
 unfold tf
 congr 1
 refine List.ext_getElem? fun k => ?_
 rw [List.getElem?_map, List.getElem?_set]
 by_cases hk : bkt a.toNat t.Buckets.length = k
 ·subst hk
  rw [if_pos rfl, if_pos (bucket_len h a), h.bucket a]; rfl
 ·rw [if_neg hk]
  cases hb : t.Buckets[k]? with
  | none => rfl
  | some l =>
   rw [Option.map_some]
   congr 1
   refine (List.filter_eq_self.2 fun e he => ?_).symm
   have hE := (h.2 k l hb).1.2 e he
   rw [decide_eq_false fun hm => hk (by rw [← hm]; exact hE.2.2.2.2)]; rfl
theorem Right_t {t : Tb} (h : TbOk t) : fdb_Right t = some true := by
 obtain ⟨b, h1, _, h3⟩ := Right_both (small_of h)
 rw [h1, h3.2 h]
theorem Pin_k {t : Tb} (h : TbOk t) (a p : Int) : ∃ pr : Tb × Bool, (Uni a → ref08_Pin t a p = some pr ∧ Small pr.1) ∧ fdb_Pin t a p = some (if Uni a ∧ (0 ≤ p ∧ p ≤ 7) then (if pr.2 = true then (pr.1, 0) else (noT, 5)) else (noT, 1)) := by
 by_cases ha : Uni a
 ·obtain ⟨r, p1, p2, p3⟩ := Put_both h (e := ⟨a, p, 0, true⟩) ha
  refine ⟨r, fun _ => ⟨by unfold ref08_Pin; rw [p2]; rfl, p3⟩, ?_⟩
  unfold fdb_Pin
  rw [Right_t h, isMac_eq, isPort_eq, decide_eq_true ha]
  simp only [Option.bind_some, Bool.not_true, Bool.not_false, gd_true, cond_false]
  by_cases hp : 0 ≤ p ∧ p ≤ 7
  ·rw [decide_eq_true hp, if_pos ⟨ha, hp⟩, p1]
   cases hr : r.2 <;> simp [hr, noT]
  ·rw [decide_eq_false hp, if_neg fun k => hp k.2]; rfl
 ·refine ⟨(noT, false), fun k => absurd k ha, ?_⟩
  unfold fdb_Pin
  rw [Right_t h, isMac_eq, decide_eq_false ha, if_neg fun k => ha k.1]
  rfl
theorem Unpin_k {t : Tb} (h : TbOk t) (a : Int) : fdb_Unpin t a = some (if Uni a then (if (∃ e ∈ bk t a, e.Mac = a ∧ e.Static = true) then (tf t (fun e => !decide (e.Mac = a)), 0) else (noT, 4)) else (noT, 1)) := by
 by_cases ha : Uni a
 ·rw [if_pos ha]; exact Unpin_eq h ha
 ·rw [if_neg ha]
  unfold fdb_Unpin
  rw [Right_t h, isMac_eq, decide_eq_false ha]; rfl
theorem Sweep_k {t : Tb} (h : TbOk t) (now : Int) : fdb_Sweep t now = some (if 0 ≤ now ∧ now ≤ 1099511627776 then (tf t (fun e => e.Static || decide (now - e.Seen ≤ t.Age)), 0) else (noT, 1)) := by
 by_cases hn : 0 ≤ now ∧ now ≤ 1099511627776
 ·rw [if_pos hn]; exact Sweep_eq h hn.1 hn.2
 ·rw [if_neg hn]
  unfold fdb_Sweep
  rw [Right_t h, isTime_eq, decide_eq_false hn]; rfl
theorem Flush_k {t : Tb} (h : TbOk t) (p : Int) : fdb_Flush t p = some (if p = -1 ∨ (0 ≤ p ∧ p ≤ 7) then (tf t (fun e => e.Static || (!decide (p = -1) && !decide (e.Port = p))), 0) else (noT, 1)) := by
 by_cases hp : p = -1 ∨ (0 ≤ p ∧ p ≤ 7)
 ·rw [if_pos hp]; exact Flush_eq h hp
 ·rw [if_neg hp]
  unfold fdb_Flush
  rw [Right_t h, isPort_eq, decide_eq_false (fun k => hp (.inr k)), decide_eq_false (fun k => hp (.inl k))]; rfl
theorem FdbKeeps_true (a0 : Tb) (a1 a2 a3 : Int) : law08_FdbKeeps a0 a1 a2 a3 = some true := by
 unfold law08_FdbKeeps
 rw [kfew_eq, Option.bind_some]
 have hs := few_small a0
 generalize fewT a0 = t at hs
 have hno := Same_self small_no
 unfold noT at hno
 obtain ⟨b, r1, r2, r3⟩ := Right_both hs
 by_cases hT : TbOk t
 ·have hb : b = true := r3.2 hT
  subst hb
  obtain ⟨pr, q1, q2⟩ := Pin_k hT a1 a2
  rw [q2, Unpin_k hT, Sweep_k hT, Flush_k hT, r2]
  simp only [Option.bind_some, Bool.not_true, Bool.cond_false, refTime_eq, refPort_eq, refMac_eq]
  have s1 := Same_self (small_tf hs (fun e => e.Static || decide (a3 - e.Seen ≤ t.Age)))
  have s2 := Same_self (small_tf hs (fun e => e.Static || (!decide (a2 = -1) && !decide (e.Port = a2))))
  have s3 := Same_self (small_tf hs (fun e => !decide (e.Mac = a1)))
  have E3 : (0 ≤ a3 ∧ a3 ≤ 1099511627776) → _ := fun k => refSweep_eq hT k.1 k.2
  have E4 : (a2 = -1 ∨ (0 ≤ a2 ∧ a2 ≤ 7)) → _ := fun k => refFlush_eq hT k
  have E1 : Uni a1 → _ := fun k => refUnpin_eq hT k
  generalize tf t (fun e => e.Static || decide (a3 - e.Seen ≤ t.Age)) = W1 at s1 E3 ⊢
  generalize tf t (fun e => e.Static || (!decide (a2 = -1) && !decide (e.Port = a2))) = W2 at s2 E4 ⊢
  generalize tf t (fun e => !decide (e.Mac = a1)) = W3 at s3 E1 ⊢
  by_cases hM : Uni a1
  ·obtain ⟨q3, q4⟩ := q1 hM
   have s4 := Same_self q4
   have e1 := E1 hM
   have e2 := refPinned_eq hT hM
   by_cases hN : 0 ≤ a3 ∧ a3 ≤ 1099511627776
   ·have e3 := E3 hN
    by_cases hP : 0 ≤ a2 ∧ a2 ≤ 7
    ·have e4 := E4 (.inr hP)
     have hP1 : ¬ a2 = -1 := by omega
     by_cases hS : ∃ e ∈ bk t a1, e.Mac = a1 ∧ e.Static = true
     ·cases hR : pr.2 <;> simp [hM, hN, hP, hP1, hS, hR, noT, hno, kalive, e1, e2, e3, e4, q3, s1, s2, s3, s4, gd]
     ·cases hR : pr.2 <;> simp [hM, hN, hP, hP1, hS, hR, noT, hno, kalive, e1, e2, e3, e4, q3, s1, s2, s3, s4, gd]
    ·by_cases hP1 : a2 = -1
     ·have e4 := E4 (.inl hP1)
      subst hP1
      by_cases hS : ∃ e ∈ bk t a1, e.Mac = a1 ∧ e.Static = true <;> simp [hM, hN, hP, hS, noT, hno, kalive, e1, e2, e3, e4, q3, s1, s2, s3, s4, gd]
     ·by_cases hS : ∃ e ∈ bk t a1, e.Mac = a1 ∧ e.Static = true <;> simp [hM, hN, hP, hP1, hS, noT, hno, kalive, e1, e2, e3, q3, s1, s2, s3, s4, gd]
   ·by_cases hP : 0 ≤ a2 ∧ a2 ≤ 7
    ·have e4 := E4 (.inr hP)
     have hP1 : ¬ a2 = -1 := by omega
     by_cases hS : ∃ e ∈ bk t a1, e.Mac = a1 ∧ e.Static = true
     ·cases hR : pr.2 <;> simp [hM, hN, hP, hP1, hS, hR, noT, hno, kalive, e1, e2, e4, q3, s1, s2, s3, s4, gd]
     ·cases hR : pr.2 <;> simp [hM, hN, hP, hP1, hS, hR, noT, hno, kalive, e1, e2, e4, q3, s1, s2, s3, s4, gd]
    ·by_cases hP1 : a2 = -1
     ·have e4 := E4 (.inl hP1)
      subst hP1
      by_cases hS : ∃ e ∈ bk t a1, e.Mac = a1 ∧ e.Static = true <;> simp [hM, hN, hP, hS, noT, hno, kalive, e1, e2, e4, q3, s1, s2, s3, s4, gd]
     ·by_cases hS : ∃ e ∈ bk t a1, e.Mac = a1 ∧ e.Static = true <;> simp [hM, hN, hP, hP1, hS, noT, hno, kalive, e1, e2, q3, s1, s2, s3, s4, gd]
  ·by_cases hN : 0 ≤ a3 ∧ a3 ≤ 1099511627776
   ·have e3 := E3 hN
    by_cases hP : 0 ≤ a2 ∧ a2 ≤ 7
    ·have e4 := E4 (.inr hP)
     have hP1 : ¬ a2 = -1 := by omega
     simp [hM, hN, hP, hP1, noT, hno, kalive, e3, e4, s1, s2, gd]
    ·by_cases hP1 : a2 = -1
     ·have e4 := E4 (.inl hP1)
      subst hP1
      simp [hM, hN, hP, noT, hno, kalive, e3, e4, s1, s2, gd]
     ·simp [hM, hN, hP, hP1, noT, hno, kalive, e3, s1, s2, gd]
   ·by_cases hP : 0 ≤ a2 ∧ a2 ≤ 7
    ·have e4 := E4 (.inr hP)
     have hP1 : ¬ a2 = -1 := by omega
     simp [hM, hN, hP, hP1, noT, hno, kalive, e4, s1, s2, gd]
    ·by_cases hP1 : a2 = -1
     ·have e4 := E4 (.inl hP1)
      subst hP1
      simp [hM, hN, hP, noT, hno, kalive, e4, s1, s2, gd]
     ·simp [hM, hN, hP, hP1, noT, hno, kalive, s1, s2, gd]
 ·have hb : b = false := by cases b with
   | false => rfl
   | true => exact absurd (r3.1 rfl) hT
  subst hb
  have f1 : fdb_Pin t a1 a2 = some (⟨[], 0, 0⟩, 1) := by unfold fdb_Pin; rw [r1]; rfl
  have f2 : fdb_Unpin t a1 = some (⟨[], 0, 0⟩, 1) := by unfold fdb_Unpin; rw [r1]; rfl
  have f3 : fdb_Sweep t a3 = some (⟨[], 0, 0⟩, 1) := by unfold fdb_Sweep; rw [r1]; rfl
  have f4 : fdb_Flush t a2 = some (⟨[], 0, 0⟩, 1) := by unfold fdb_Flush; rw [r1]; rfl
  rw [f1, f2, f3, f4, r2]
  simp [kalive, hno, gd]
end
end Go.RX
