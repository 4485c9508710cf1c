/- What copies tell, plainly: where, twice, strays, who hears; the law. -/
import Derived.Test.YtknjenjjhdhemaaJe
import Derived.Test.YtknjenjjhdhemaaPX
import Derived.KernelRfl
set_option linter.unusedVariables false
set_option linter.unusedSimpArgs false
open Go Go.RX
namespace Go.RX
section
set_option maxHeartbeats 1000000

theorem fitsJ {n b : Nat} (h : n ≤ 1000000) (hb : b ≤ 100) : fits n b := ⟨by omega, by
  have : n * b ≤ 1000000 * 100 := Nat.mul_le_mul h hb
  omega⟩
theorem w64j {x : Int} (h : -9223372036854775808 ≤ x) (h' : x ≤ 9223372036854775807) : IntKind.i64.wrap x = x := w64_in h h'
def keyJ (c : CopyT) : judge_keyT := ⟨c.Seg, c.Raw⟩
theorem keyOf_eq (c : CopyT) : judge_keyOf c = some (keyJ c) := rfl
/-! Twice. -/
def dupAt (l : List CopyT) (k : Nat) (x : CopyT) : Prop := keyJ x ∈ (l.take k).map keyJ
theorem twice_find {l : List CopyT} {r : Int} (hl : l.length ≤ 1000)
    (h : (∃ k x, l[k]? = some x ∧ dupAt l k x ∧ (∀ j y, j < k → l[j]? = some y → ¬ dupAt l j y) ∧ r = ((k : Nat) : Int)) ∨ ((∀ k x, l[k]? = some x → ¬ dupAt l k x) ∧ r = -1))
    {q : Int} (g : (∃ k x, l[k]? = some x ∧ dupAt l k x ∧ (∀ j y, j < k → l[j]? = some y → ¬ dupAt l j y) ∧ q = ((k : Nat) : Int)) ∨ ((∀ k x, l[k]? = some x → ¬ dupAt l k x) ∧ q = -1)) : r = q := by
  rcases h with ⟨k, x, hx, hd, hj, rfl⟩ | ⟨hn, rfl⟩
  · rcases g with ⟨k', x', hx', hd', hj', rfl⟩ | ⟨hn', rfl⟩
    · rcases Nat.lt_trichotomy k k' with h | h | h
      · exact absurd hd (hj' k x h hx)
      · rw [h]
      · exact absurd hd' (hj k' x' h hx')
    · exact absurd hd (hn' k x hx)
  · rcases g with ⟨k', x', hx', hd', hj', rfl⟩ | ⟨hn', rfl⟩
    · exact absurd hd' (hn k' x' hx')
    · rfl
theorem progTwice {l : List CopyT} (hl : l.length ≤ 1000) : ∃ r, judge_Twice l = some r ∧ ((∃ k x, l[k]? = some x ∧ dupAt l k x ∧ (∀ j y, j < k → l[j]? = some y → ¬ dupAt l j y) ∧ r = ((k : Nat) : Int)) ∨ ((∀ k x, l[k]? = some x → ¬ dupAt l k x) ∧ r = -1)) := by
  obtain ⟨o, h1, h2⟩ := rangeL_rec (s0 := ([] : List (judge_keyT × Bool))) (body := judge_Twice_c0) (xs := l) (by omega)
    (fun k m => (∀ z, mget m z false = true ↔ z ∈ (l.take k).map keyJ) ∧ ∀ j y, j < k → l[j]? = some y → ¬ dupAt l j y)
    (fun r => ∃ k x, l[k]? = some x ∧ dupAt l k x ∧ (∀ j y, j < k → l[j]? = some y → ¬ dupAt l j y) ∧ r = ((k : Nat) : Int)) (fun _ => False) ⟨fun z => by simp [mget_nil], fun j y h => by omega⟩ (fun k x m hx ⟨i1, i2⟩ => by
      have ht : l.take (k + 1) = l.take k ++ [x] := by rw [List.take_add_one, hx]; rfl
      unfold judge_Twice_c0
      simp only [keyOf_eq, Option.bind_some]
      cases hm : mget m (keyJ x) false with
      | true => exact ⟨_, rfl, k, x, hx, (i1 _).1 hm, i2, rfl⟩
      | false =>
        have hnd : ¬ dupAt l k x := fun h => by rw [(i1 _).2 h] at hm; cases hm
        refine ⟨_, rfl, fun z => ?_, fun j y hj hy => ?_⟩
        · rw [ht, List.map_append]
          by_cases hz : keyJ x = z
          · subst hz; rw [mget_mput]; simp
          · rw [mget_mput_ne hz, i1]
            have : z ∈ List.map keyJ (l.take k) ++ List.map keyJ [x] ↔ z ∈ List.map keyJ (l.take k) := by simp [Ne.symm hz]
            rw [this]
        · by_cases hjk : j = k
          · subst hjk
            rw [hx] at hy
            rw [← Option.some.inj hy]; exact hnd
          · exact i2 j y (by omega) hy)
  unfold judge_Twice
  rw [h1]
  cases o with
  | ret r => rw [aft_some_ret]; exact ⟨_, rfl, .inl h2⟩
  | brk s => exact h2.elim
  | nxt s =>
    rw [aft_some_nxt]
    have := h2.resolve_right id
    exact ⟨_, rfl, .inr ⟨fun k x hx => this.2 k x (List.getElem?_eq_some_iff.1 hx).1 hx, rfl⟩⟩
theorem baEq (a b : ByteArray) : (a == b) = decide (a = b) := by
  rw [Bool.eq_iff_iff, ba_beq, decide_eq_true_iff]
theorem refTwice {l : List CopyT} (hl : l.length ≤ 1000) : ∃ r, ref20_Twice l = some r ∧ ((∃ k x, l[k]? = some x ∧ dupAt l k x ∧ (∀ j y, j < k → l[j]? = some y → ¬ dupAt l j y) ∧ r = ((k : Nat) : Int)) ∨ ((∀ k x, l[k]? = some x → ¬ dupAt l k x) ∧ r = -1)) := by
  have inner : ∀ k x, l[k]? = some x → ∃ b : Bool, ref20_Twice_c0 l k x () = some (bif b then .ret ((k : Nat) : Int) else .nxt ()) ∧ (b = true ↔ dupAt l k x) := by
    intro k x hx
    have hk := (List.getElem?_eq_some_iff.1 hx).1
    unfold ref20_Twice_c0
    rw [grd_true ⟨by omega, by omega⟩, Int.toNat_natCast]
    rcases rangeL_find (ρ := Step Int Unit) (s0 := ()) (body := ref20_Twice_c1 k x) (xs := l.take k) (by rw [List.length_take]; omega) (fun _ y => decide (keyJ x = keyJ y)) (fun _ _ => Step.ret ((k : Nat) : Int)) (fun j y hy => by
      unfold ref20_Twice_c1
      have : (bif decide (x.Seg = y.Seg) then x.Raw == y.Raw else false) = decide (keyJ x = keyJ y) := by
        rw [baEq]
        unfold keyJ
        by_cases h1 : x.Seg = y.Seg <;> by_cases h2 : x.Raw = y.Raw <;> simp [h1, h2]
      rw [this]
      cases decide (keyJ x = keyJ y) <;> rfl) with ⟨j, y, hy, hp, _, h⟩ | ⟨hp, h⟩
    · rw [h, aft_some_ret]
      refine ⟨true, rfl, fun _ => ?_, fun _ => rfl⟩
      have : keyJ x = keyJ y := by simpa using hp
      unfold dupAt
      rw [this]
      exact List.mem_map.2 ⟨y, List.mem_of_getElem? hy, rfl⟩
    · rw [h, aft_some_nxt]
      refine ⟨false, rfl, fun h => (by cases h), fun hd => ?_⟩
      obtain ⟨y, hy, he⟩ := List.mem_map.1 hd
      obtain ⟨j, hj⟩ := List.getElem?_of_mem hy
      have := hp j y hj
      simp [he] at this
  obtain ⟨o, h1, h2⟩ := rangeL_rec (s0 := ()) (body := ref20_Twice_c0 l) (xs := l) (by omega) (fun k _ => ∀ j y, j < k → l[j]? = some y → ¬ dupAt l j y)
    (fun r => ∃ k x, l[k]? = some x ∧ dupAt l k x ∧ (∀ j y, j < k → l[j]? = some y → ¬ dupAt l j y) ∧ r = ((k : Nat) : Int)) (fun _ => False) (fun j y h => by omega) (fun k x s hx hi => by
      obtain ⟨b, b1, b2⟩ := inner k x hx
      refine ⟨_, b1, ?_⟩
      cases b with
      | true => exact ⟨k, x, hx, b2.1 rfl, hi, rfl⟩
      | false =>
        intro j y hj hy
        by_cases hjk : j = k
        · subst hjk
          rw [hx] at hy
          rw [← Option.some.inj hy]
          exact fun h => absurd (b2.2 h) (by simp)
        · exact hi j y (by omega) hy)
  unfold ref20_Twice
  rw [h1]
  cases o with
  | ret r => rw [aft_some_ret]; exact ⟨_, rfl, .inl h2⟩
  | brk s => exact h2.elim
  | nxt s =>
    rw [aft_some_nxt]
    have := h2.resolve_right id
    exact ⟨_, rfl, .inr ⟨fun k x hx => this k x (List.getElem?_eq_some_iff.1 hx).1 hx, rfl⟩⟩
theorem twice_same {l : List CopyT} (hl : l.length ≤ 1000) : ∃ r, judge_Twice l = some r ∧ ref20_Twice l = some r := by
  obtain ⟨r, h1, h2⟩ := progTwice hl
  obtain ⟨q, g1, g2⟩ := refTwice hl
  have := twice_find hl h2 g2
  subst this
  exact ⟨r, h1, g1⟩

/-! Segments; where. -/
def SegOk (n : Int) (l : List CopyT) : Prop := ∀ c ∈ l, 0 ≤ c.Seg ∧ c.Seg < n
instance (n : Int) (l : List CopyT) : Decidable (SegOk n l) := by unfold SegOk; infer_instance
theorem refSegs_eq {l : List CopyT} (hl : l.length ≤ 1000) (n : Int) : ref20_Segs l n = some (decide (SegOk n l)) := by
  unfold ref20_Segs
  rcases rangeL_find (s0 := ()) (body := ref20_Segs_c0 n) (xs := l) (by omega) (fun _ c => !decide (0 ≤ c.Seg ∧ c.Seg < n)) (fun _ _ => false) (fun k c hc => by
    unfold ref20_Segs_c0
    by_cases h1 : c.Seg < 0
    · have : ¬ (0 ≤ c.Seg ∧ c.Seg < n) := by omega
      simp [h1, this]
    · by_cases h2 : n ≤ c.Seg
      · have : ¬ (0 ≤ c.Seg ∧ c.Seg < n) := by omega
        simp [h2, this]
      · have : 0 ≤ c.Seg ∧ c.Seg < n := by omega
        simp [h1, h2, this]) with ⟨k, c, hc, hp, _, h⟩ | ⟨hp, h⟩
  · have hs : ¬ SegOk n l := fun g => by have := g c (List.mem_of_getElem? hc); simp [this] at hp
    rw [h, aft_some_ret, decide_eq_false hs]
  · have hs : SegOk n l := fun c hc => by
      obtain ⟨k, hk⟩ := List.getElem?_of_mem hc
      have := hp k c hk
      simpa using this
    rw [h, aft_some_nxt, decide_eq_true hs]
theorem odd_eq {l : List CopyT} (hl : l.length ≤ 1000) (n : Int) : ∃ y, judge_odd n = some y ∧ slices_ContainsFunc_Copy l (fun x0_ => judge_odd_1 x0_ y) = some (!decide (SegOk n l)) := by
  refine ⟨n, rfl, ?_⟩
  have h1 : slices_ContainsFunc_Copy l (fun x0_ => judge_odd_1 x0_ n) = conG (fun x0_ => judge_odd_1 x0_ n) l := rfl
  rw [h1, conG_eq (p := fun c => !decide (0 ≤ c.Seg ∧ c.Seg < n)) (by omega) (fun c _ => by
    unfold judge_odd_1
    by_cases h1 : c.Seg < 0
    · have : ¬ (0 ≤ c.Seg ∧ c.Seg < n) := by omega
      simp [h1, this]
    · by_cases h2 : n ≤ c.Seg
      · have : ¬ (0 ≤ c.Seg ∧ c.Seg < n) := by omega
        simp [h2, this]
      · have : 0 ≤ c.Seg ∧ c.Seg < n := by omega
        simp [h1, h2, this])]
  congr 1
  rw [Bool.eq_iff_iff, List.any_eq_true]
  constructor
  · rintro ⟨c, hc, h⟩
    have : ¬ SegOk n l := fun g => by have := g c hc; simp [this] at h
    simp [this]
  · intro h
    have : ¬ SegOk n l := by simpa using h
    unfold SegOk at this
    apply Classical.byContradiction
    intro g
    refine this fun c hc => ?_
    apply Classical.byContradiction
    intro q
    exact g ⟨c, hc, by simp [q]⟩
def cntJ (l : List CopyT) (k : judge_keyT) : Nat := l.countP fun c => decide (keyJ c = k)
theorem cntJ_le (l : List CopyT) (k : judge_keyT) : cntJ l k ≤ l.length := List.countP_le_length
def whereL (l : List CopyT) (raw : ByteArray) (n : Nat) : List Int := (List.range n).map fun s => ((cntJ l ⟨((s : Nat) : Int), raw⟩ : Nat) : Int)
theorem Where_eq {l : List CopyT} (hl : l.length ≤ 1000) (raw : ByteArray) (n : Int) : judge_Where l raw n = some (if n < 1 ∨ 8 < n then ([], 2) else if SegOk n l then (whereL l raw n.toNat, 0) else ([], 1)) := by
  unfold judge_Where
  by_cases hn : n < 1 ∨ 8 < n
  · rw [if_pos hn]
    have : (bif decide (n < 1) then true else decide (8 < n)) = true := by
      by_cases h : n < 1
      · simp [h]
      · have : 8 < n := hn.resolve_left h
        simp [h, this]
    rw [this]; rfl
  · rw [if_neg hn, decide_eq_false (show ¬ n < 1 by omega), decide_eq_false (show ¬ 8 < n by omega)]
    obtain ⟨y, y1, y2⟩ := odd_eq hl n
    rw [y1]
    simp only [cond_false, Option.bind_some]
    rw [y2]
    by_cases hs : SegOk n l
    rotate_left
    · rw [if_neg hs, decide_eq_false hs]; rfl
    rw [if_pos hs, decide_eq_true hs]
    simp only [Option.bind_some, Bool.not_true, cond_false]
    obtain ⟨m, m1, m2⟩ := rangeL_inv (ρ := List Int × Int) (s0 := ([] : List (judge_keyT × Int))) (body := judge_Where_c0) (xs := l) (by omega) (fun k m => ∀ z, mget m z 0 = ((cntJ (l.take k) z : Nat) : Int)) (fun z => by simp [mget_nil, cntJ]) (fun k x m hx hi => by
      have ht : l.take (k + 1) = l.take k ++ [x] := by rw [List.take_add_one, hx]; rfl
      have hc := cntJ_le (l.take k) (keyJ x)
      rw [List.length_take] at hc
      unfold judge_Where_c0
      simp only [keyOf_eq, Option.bind_some]
      refine ⟨_, rfl, fun z => ?_⟩
      rw [ht]
      unfold cntJ at hi ⊢
      rw [List.countP_append]
      by_cases hz : keyJ x = z
      · subst hz
        have := hi (keyJ x)
        unfold cntJ at hc
        rw [mget_mput, this, w64j (by omega) (by omega)]
        simp
      · rw [mget_mput_ne hz, hi]
        simp [hz])
    rw [m1, aft_some_nxt]
    rw [List.take_length] at m2
    have e := rangeN_up (ρ := List Int × Int) (body := judge_Where_c1 raw m) (n := n) (s0 := ([] : List Int)) (by omega) (fun k => whereL l raw k) rfl (fun k hk => by
      unfold judge_Where_c1
      rw [grd_true (fitsJ (by rw [List.length_append]; simp [whereL]; omega) (by omega)), m2]
      unfold whereL
      rw [List.range_succ, List.map_append]
      rfl)
    rw [e, aft_some_nxt]
theorem refWhere_eq {l : List CopyT} (hl : l.length ≤ 1000) (raw : ByteArray) {n : Int} (h0 : 1 ≤ n) (h8 : n ≤ 8) : ref20_Where l raw n = some (whereL l raw n.toNat) := by
  have inner : ∀ (s : List Int × Int) (z : Nat), s.2 = ((z : Nat) : Int) → rangeL (ref20_Where_c1 raw s) l 0 = some (.nxt ((cntJ l ⟨((z : Nat) : Int), raw⟩ : Nat) : Int)) := fun s z hz =>
    rangeL_foldI (ρ := Step (List Int) (List Int × Int)) (body := ref20_Where_c1 raw s) (xs := l) (s0 := (0 : Int)) (by omega) (fun q => ((cntJ q ⟨((z : Nat) : Int), raw⟩ : Nat) : Int)) rfl (fun k x hx => by
      have hc := cntJ_le (l.take k) ⟨((z : Nat) : Int), raw⟩
      rw [List.length_take] at hc
      unfold ref20_Where_c1
      have e : (bif decide (x.Seg = s.2) then x.Raw == raw else false) = decide (keyJ x = ⟨((z : Nat) : Int), raw⟩) := by
        rw [baEq, hz]
        unfold keyJ
        by_cases h1 : x.Seg = ((z : Nat) : Int) <;> by_cases h2 : x.Raw = raw <;> simp [h1, h2]
      rw [e]
      unfold cntJ at hc ⊢
      rw [List.countP_append]
      by_cases hk : keyJ x = ⟨((z : Nat) : Int), raw⟩
      · rw [decide_eq_true hk, cond_true, w64j (by omega) (by omega)]
        simp [hk]
      · rw [decide_eq_false hk, cond_false]
        simp [hk])
  have e := loopF_count (ρ := List Int) (body := ref20_Where_c0 l raw n) (fun k => (whereL l raw k, ((k : Nat) : Int))) n.toNat (whereL l raw n.toNat, ((n.toNat : Nat) : Int)) (s0 := (([] : List Int), 0)) rfl (by omega) (fun k hk => by
    unfold ref20_Where_c0
    simp only [decide_eq_true (show ((k : Nat) : Int) < n by omega), cond_true]
    rw [inner (whereL l raw k, ((k : Nat) : Int)) k rfl, aft_some_nxt, grd_true (fitsJ (by rw [List.length_append]; simp [whereL]; omega) (by omega)), w64j (by omega) (by omega)]
    unfold whereL
    rw [List.range_succ, List.map_append]
    rfl) (by
    unfold ref20_Where_c0
    simp only [decide_eq_false (show ¬ ((n.toNat : Nat) : Int) < n by omega), cond_false])
  unfold ref20_Where
  rw [e, aft_some_nxt]
end
section
set_option maxHeartbeats 1000000

/-! Bytes. -/
def bAt (b : ByteArray) (k : Nat) : Int := (((b.data.toList[k]?.getD 0).toNat : Nat) : Int)
theorem bAt_bnd (b : ByteArray) (k : Nat) : 0 ≤ bAt b k ∧ bAt b k < 256 := by
  unfold bAt
  have := (b.data.toList[k]?.getD 0).toNat_lt
  omega
def vb (b : ByteArray) : Nat → Int
  | 0 => 0
  | k + 1 => 256 * vb b k + bAt b k
theorem vb_bnd (b : ByteArray) : ∀ k, 0 ≤ vb b k ∧ vb b k < ((256 ^ k : Nat) : Int)
  | 0 => by simp [vb]
  | k + 1 => by
    have h := vb_bnd b k
    have g := bAt_bnd b k
    unfold vb
    rw [Nat.pow_succ]
    generalize (256 : Nat) ^ k = q at h ⊢
    omega
theorem vb_lt (b : ByteArray) {k : Nat} (hk : k < 6) : 0 ≤ vb b k ∧ vb b k < 1099511627776 := by
  have h := vb_bnd b k
  have h4 : 256 ^ k ≤ 256 ^ 5 := Nat.pow_le_pow_right (by decide) (show k ≤ 5 by omega)
  rw [show 256 ^ 5 = 1099511627776 by decide] at h4
  generalize (256 : Nat) ^ k = q at h h4
  omega
theorem baData (b : ByteArray) (k : Nat) : b[k]? = b.data.toList[k]? := by
  rw [Array.getElem?_toList]
  rfl
theorem gixS_at {b : ByteArray} {k : Nat} (h : k < b.size) : ∃ x, gixS b ((k : Nat) : Int) = some x ∧ ((x.toNat : Nat) : Int) = bAt b k := by
  have hl : k < b.data.toList.length := by simpa using h
  refine ⟨b.data.toList[k], ?_, ?_⟩
  · unfold gixS
    rw [if_pos (by omega), Int.toNat_natCast, baData, List.getElem?_eq_getElem hl]
  · unfold bAt
    rw [List.getElem?_eq_getElem hl]; rfl
theorem gixP_at {b : ByteArray} {k : Nat} (h : k < b.size) : gix (byP b) ((k : Nat) : Int) = some (bAt b k) := by
  have hl : k < b.data.toList.length := by simpa using h
  rw [gix_nat]
  unfold byP bAt
  rw [List.getElem?_map, List.getElem?_eq_getElem hl]; rfl
theorem bit_or8 {s v : Int} (h0 : 0 ≤ s) (h1 : s < 1099511627776) (g0 : 0 ≤ v) (g1 : v < 256) : bitI .or IntKind.i64 (IntKind.i64.wrap (s * 2 ^ (min (8 : Int).toNat 64))) (IntKind.i64.wrap v) = 256 * s + v := by
  rw [show (2 : Int) ^ (min (8 : Int).toNat 64) = 256 by decide, w64_in (by omega) (by omega), w64_in (by omega) (by omega)]
  show IntKind.i64.wrap (((BitVec.ofInt 64 (s * 256) ||| BitVec.ofInt 64 v).toNat : Nat) : Int) = _
  rw [BitVec.toNat_or, bv_nat (by omega) (by omega), bv_nat (by omega) (by omega)]
  have e : (s * 256).toNat ||| v.toNat = (s * 256).toNat + v.toNat := by
    have := Nat.two_pow_add_eq_or_of_lt (i := 8) (b := v.toNat) (by omega) s.toNat
    rw [show (s * 256).toNat = 2 ^ 8 * s.toNat by omega, this]
  rw [e, w64_in (by omega) (by omega)]
  omega
theorem macOf_eq {b : ByteArray} (hb : b.size = 6) : mac_Of b = some (vb b 6, 0) := by
  unfold mac_Of
  rw [hb, decide_eq_false (show ¬ (((6 : Nat) : Int) < 6) by decide), decide_eq_false (show ¬ ((6 : Int) < ((6 : Nat) : Int)) by decide)]
  simp only [cond_false]
  have e := rangeN_up (ρ := Int × Int) (body := mac_Of_c0 b) (n := 6) (s0 := (0 : Int)) (by omega) (fun k => vb b k) rfl (fun k hk => by
    unfold mac_Of_c0
    obtain ⟨x, h1, h2⟩ := gixS_at (b := b) (k := k) (by omega)
    rw [h1, Option.bind_some, h2]
    have h3 := vb_lt b (k := k) (by omega)
    rw [bit_or8 h3.1 (by omega) (bAt_bnd b k).1 (bAt_bnd b k).2]
    rfl)
  rw [e, aft_some_nxt]
  rfl
theorem refOf_eq {b : ByteArray} (hb : b.size = 6) : ref01_Of b = some (vb b 6) := by
  have e := loopF_count (ρ := Int) (body := ref01_Of_c0 b) (fun k => (vb b k, ((k : Nat) : Int))) 6 (vb b 6, 6) (s0 := (0, 0)) rfl (by omega) (fun k hk => by
    unfold ref01_Of_c0
    simp only [hb, decide_eq_true (show ((k : Nat) : Int) < ((6 : Nat) : Int) by omega), cond_true]
    obtain ⟨x, h1, h2⟩ := gixS_at (b := b) (k := k) (by omega)
    rw [h1, Option.bind_some, h2]
    have h3 := vb_lt b (k := k) (by omega)
    have h5 := bAt_bnd b k
    rw [w64_in (x := 256 * vb b k) (by omega) (by omega), w64_in (x := bAt b k) (by omega) (by omega), w64_in (by omega) (by omega), w64_in (by omega) (by omega)]
    rfl) (by
    unfold ref01_Of_c0
    simp only [hb]
    rfl)
  unfold ref01_Of
  rw [e, aft_some_nxt]
theorem strP_byP (b : ByteArray) : strP (byP b) = some b := by
  unfold strP
  have h : (byP b).all (fun x => decide (0 ≤ x) && decide (x < 256)) = true := by
    rw [List.all_eq_true]
    intro x hx
    obtain ⟨u, _, rfl⟩ := List.mem_map.1 hx
    have := u.toNat_lt
    simp; omega
  rw [if_pos h]
  have : (byP b).map (fun x => UInt8.ofNat x.toNat) = b.data.toList := by
    unfold byP
    rw [List.map_map]
    conv => rhs; rw [← List.map_id b.data.toList]
    exact List.map_congr_left fun u _ => by simp
  rw [this]
theorem byP_ext (b : ByteArray) (i j : Nat) : byP (b.extract i j) = ((byP b).take j).drop i := by
  unfold byP
  rw [ByteArray.data_extract, Array.toList_extract, List.extract_eq_take_drop, ← List.map_take, ← List.map_drop, List.drop_take]
theorem ext_size (b : ByteArray) {i j : Nat} (h : j ≤ b.size) : (b.extract i j).size = j - i := by
  rw [ByteArray.size_extract]; omega

/-! Frames. -/
theorem macR (a : Int) : ref01_Right a = some (decide (0 ≤ a ∧ a < 281474976710656)) := by
  unfold ref01_Right
  by_cases h1 : 0 ≤ a <;> by_cases h2 : a < 281474976710656 <;> simp [h1, h2]
theorem refClass_eq {a : Int} (h : 0 ≤ a ∧ a < 281474976710656) : ref01_Class a = some (classN a) := by
  unfold ref01_Class classN
  rw [Int.tdiv_eq_ediv_of_nonneg h.1, Int.tdiv_eq_ediv_of_nonneg h.1, w64_in (by omega) (by omega), w64_in (by omega) (by omega), Int.tmod_eq_emod_of_nonneg (by omega)]
  by_cases h1 : a / 16 = 103282638848
  · simp [h1]
  · rw [decide_eq_false h1, if_neg h1, cond_false]
    by_cases h2 : a / 1099511627776 % 2 = 1
    · rw [decide_eq_true h2, h2]; rfl
    · rw [decide_eq_false h2]
      have : a / 1099511627776 % 2 = 0 := by omega
      rw [this]; rfl
def FrOk (f : FrameT) : Prop := (0 ≤ f.Dst ∧ f.Dst < 281474976710656) ∧ (0 ≤ f.Src ∧ f.Src < 281474976710656) ∧ classN f.Src = 0 ∧ (0 ≤ f.Type_ ∧ f.Type_ < 65536) ∧ f.Data.size ≤ 100
instance (f : FrameT) : Decidable (FrOk f) := by unfold FrOk; infer_instance
theorem frameRight_eq (f : FrameT) : frame_Right f = some (decide (FrOk f)) := by
  unfold frame_Right FrOk
  rw [macClass_eq, macRight_eq, Option.bind_some]
  by_cases h1 : 0 ≤ f.Src ∧ f.Src < 281474976710656
  · rw [if_pos h1]
    by_cases h2 : classN f.Src = 0
    · simp only [h2, decide_true, cond_true, gd_true, Option.bind_some]
      congr 1
      have e1 : decide (f.Type_ ≤ 65535) = decide (f.Type_ < 65536) := decide_eq_decide.2 (by omega)
      have e2 : decide (((f.Data.size : Nat) : Int) ≤ 100) = decide (f.Data.size ≤ 100) := decide_eq_decide.2 (by omega)
      rw [e1, e2]
      by_cases h3 : 0 ≤ f.Dst ∧ f.Dst < 281474976710656 <;> by_cases h4 : 0 ≤ f.Type_ <;> by_cases h5 : f.Type_ < 65536 <;> by_cases h6 : f.Data.size ≤ 100 <;> simp [h1, h3, h4, h5, h6]
    · simp only [h2, decide_true, decide_false, cond_true, gd_false, Option.bind_some, cond_false]
      simp
  · rw [if_neg h1]
    simp [h1, gd_false]
theorem refFrame_eq (f : FrameT) : ref02_Right f = some (decide (FrOk f)) := by
  unfold ref02_Right FrOk
  rw [macR, macR, Option.bind_some]
  by_cases h3 : 0 ≤ f.Dst ∧ f.Dst < 281474976710656
  · simp only [h3, and_self, decide_true, gd_true, Option.bind_some, cond_true]
    by_cases h1 : 0 ≤ f.Src ∧ f.Src < 281474976710656
    · simp only [h1, and_self, decide_true, gd_true, Option.bind_some, cond_true]
      rw [refClass_eq h1, Option.bind_some]
      congr 1
      have e2 : decide (((f.Data.size : Nat) : Int) ≤ 100) = decide (f.Data.size ≤ 100) := decide_eq_decide.2 (by omega)
      rw [e2]
      by_cases h2 : classN f.Src = 0 <;> by_cases h4 : 0 ≤ f.Type_ <;> by_cases h5 : f.Type_ < 65536 <;> by_cases h6 : f.Data.size ≤ 100 <;> simp [h2, h4, h5, h6]
    · simp only [decide_eq_false h1, gd_false, Option.bind_some, cond_false]
      simp [h1]
  · simp only [decide_eq_false h3, gd_false, Option.bind_some, cond_false]
    simp [h3]
theorem parse_end (m1 m2 ty : Int) (da : ByteArray) : ∃ (f : FrameT) (e : Int), ((frame_Right (⟨m1, m2, ty, da⟩ : FrameT)).bind fun y => (bif (!y) then some ((⟨0, 0, 0, (⟨#[]⟩ : ByteArray)⟩ : FrameT), (10 : Int)) else some ((⟨m1, m2, ty, da⟩ : FrameT), 0))) = some (f, e) ∧ ((ref02_Right (⟨m1, m2, ty, da⟩ : FrameT)).bind fun y => (bif (!y) then some ((⟨0, 0, 0, (⟨#[]⟩ : ByteArray)⟩ : FrameT), (10 : Int)) else some ((⟨m1, m2, ty, da⟩ : FrameT), 0))) = some (f, e) ∧ (e = 0 → FrOk f) := by
  rw [frameRight_eq, refFrame_eq]
  by_cases hf : FrOk (⟨m1, m2, ty, da⟩ : FrameT)
  · rw [decide_eq_true hf]
    exact ⟨_, _, rfl, rfl, fun _ => hf⟩
  · rw [decide_eq_false hf]
    exact ⟨_, _, rfl, rfl, fun h => absurd h (by decide)⟩
theorem parse_both (b : ByteArray) : ∃ f e, frame_Parse b = some (f, e) ∧ ref02_Parse b = some (f, e) ∧ (e = 0 → FrOk f) := by
  unfold frame_Parse ref02_Parse
  by_cases h1 : b.size < 14
  · rw [decide_eq_true (show ((b.size : Nat) : Int) < 14 by omega)]
    simp only [cond_true]
    exact ⟨_, _, rfl, rfl, fun h => absurd h (by decide)⟩
  rw [decide_eq_false (show ¬ ((b.size : Nat) : Int) < 14 by omega)]
  by_cases h2 : 114 < b.size
  · rw [decide_eq_true (show 114 < ((b.size : Nat) : Int) by omega)]
    simp only [cond_true, cond_false]
    exact ⟨_, _, rfl, rfl, fun h => absurd h (by decide)⟩
  rw [decide_eq_false (show ¬ 114 < ((b.size : Nat) : Int) by omega)]
  simp only [cond_false, byP_len]
  have t6 : (6 : Int).toNat = 6 := rfl
  have t12 : (12 : Int).toNat = 12 := rfl
  have t14 : (14 : Int).toNat = 14 := rfl
  have e1 : (byP b).take 6 = byP (b.extract 0 6) := by rw [byP_ext]; rfl
  have e2 : ((byP b).take 12).drop 6 = byP (b.extract 6 12) := (byP_ext b 6 12).symm
  have e3 : (byP b).drop 14 = byP (b.extract 14 b.size) := by rw [byP_ext, List.take_of_length_le (by rw [byP_len]; omega)]
  obtain ⟨x, x1, x2⟩ := gixS_at (b := b) (k := 12) (by omega)
  obtain ⟨y, y1, y2⟩ := gixS_at (b := b) (k := 13) (by omega)
  have g1 := gixP_at (b := b) (k := 12) (by omega)
  have g2 := gixP_at (b := b) (k := 13) (by omega)
  rw [show (((12 : Nat) : Int)) = 12 from rfl] at x1 g1
  rw [show (((13 : Nat) : Int)) = 13 from rfl] at y1 g2
  have b1 := bAt_bnd b 12
  have b2 := bAt_bnd b 13
  have s1 : (b.extract 0 6).size = 6 := by rw [ext_size b (by omega)]
  have s2 : (b.extract 6 12).size = 6 := by rw [ext_size b (by omega)]
  rw [grd_true ⟨by omega, by omega, by omega⟩, t6, e1, strP_byP, Option.bind_some, macOf_eq s1, Option.bind_some, grd_true ⟨by omega, by omega, by omega, by omega⟩, t12, e2, strP_byP, Option.bind_some, macOf_eq s2, Option.bind_some,
    g1, Option.bind_some, g2, Option.bind_some, grd_true ⟨by omega, by omega⟩, t14, e3, strP_byP, Option.bind_some]
  rw [grd_true ⟨by omega, by omega⟩, refOf_eq s1, Option.bind_some, grd_true ⟨by omega, by omega, by omega⟩, refOf_eq s2, Option.bind_some, x1, Option.bind_some, y1, Option.bind_some, grd_true ⟨by omega, by omega⟩, x2, y2]
  have w1 : IntKind.i64.wrap (bAt b 12) = bAt b 12 := w64_in (by omega) (by omega)
  have w2 : IntKind.i64.wrap (bAt b 13) = bAt b 13 := w64_in (by omega) (by omega)
  have w3 : bitI .or IntKind.i64 (IntKind.i64.wrap ((IntKind.i64.wrap (bAt b 12)) * 2 ^ (min (8 : Int).toNat 64))) (IntKind.i64.wrap (bAt b 13)) = 256 * bAt b 12 + bAt b 13 := by
    rw [w1]; exact bit_or8 b1.1 (by omega) b2.1 b2.2
  have w4 : IntKind.i64.wrap ((IntKind.i64.wrap (256 * (IntKind.i64.wrap (bAt b 12)))) + (IntKind.i64.wrap (bAt b 13))) = 256 * bAt b 12 + bAt b 13 := by
    rw [w1, w2, w64_in (x := 256 * bAt b 12) (by omega) (by omega), w64_in (by omega) (by omega)]
  rw [w3, w4]
  generalize vb (b.extract 0 6) 6 = m1
  generalize vb (b.extract 6 12) 6 = m2
  generalize 256 * bAt b 12 + bAt b 13 = ty
  generalize b.extract 14 b.size = da
  exact parse_end m1 m2 ty da
theorem hears_both (h : HostT) (b : ByteArray) : ∃ r, judge_hears h b = some r ∧ ∀ c : CopyT, c.Raw = b → ref20_hears h c = some (decide (c.Seg = h.Seg) && r) := by
  obtain ⟨f, e, h1, h2, h3⟩ := parse_both b
  unfold judge_hears
  rw [h1, Option.bind_some]
  by_cases he : e = 0
  · have hf := h3 he
    by_cases hs : f.Src = h.Mac
    · refine ⟨false, by simp [he, hs], fun c hc => ?_⟩
      unfold ref20_hears
      rw [hc, h2, Option.bind_some]
      simp [he, hs]
    · refine ⟨decide (f.Dst = h.Mac) || decide (classN f.Dst = 1), ?_, fun c hc => ?_⟩
      · rw [macClass_eq, if_pos hf.1]
        simp only [decide_eq_true he, decide_eq_false hs, Bool.not_true, cond_false, Option.bind_some]
        cases decide (f.Dst = h.Mac) <;> rfl
      · unfold ref20_hears
        rw [hc, h2, Option.bind_some, refClass_eq hf.1]
        by_cases hc : c.Seg = h.Seg
        · by_cases hd : f.Dst = h.Mac
          · simp [he, hs, hc, hd, gd]
          · simp [he, hs, hc, hd, gd]
        · simp [he, hs, hc]
  · refine ⟨false, by simp [he], fun c hc => ?_⟩
    unfold ref20_hears
    rw [hc, h2, Option.bind_some]
    simp [he]
def hrs (h : HostT) (b : ByteArray) : Bool := (judge_hears h b).getD false
theorem hrs_eq (h : HostT) (b : ByteArray) : judge_hears h b = some (hrs h b) := by
  obtain ⟨r, h1, _⟩ := hears_both h b
  unfold hrs
  rw [h1]; rfl
theorem refHrs_eq (h : HostT) (c : CopyT) : ref20_hears h c = some (decide (c.Seg = h.Seg) && hrs h c.Raw) := by
  obtain ⟨r, h1, h2⟩ := hears_both h c.Raw
  unfold hrs
  rw [h2 c rfl, h1]; rfl
def hearsL (h : HostT) : List CopyT → List Int := fun l => ((List.range l.length).filterMap fun k => (l[k]?).bind fun c => if (decide (c.Seg = h.Seg) && hrs h c.Raw) = true then some ((k : Nat) : Int) else none)
end
section
set_option maxHeartbeats 1000000

/-! Who hears. -/
def hearL (h : HostT) (cs : List CopyT) : List Int := cs.zipIdx.filterMap fun p => (fun (k : Nat) (c : CopyT) => if (decide (c.Seg = h.Seg) && hrs h c.Raw) = true then some ((k : Nat) : Int) else none) p.2 p.1
theorem hearL_len (h : HostT) (cs : List CopyT) : (hearL h cs).length ≤ cs.length := by
  unfold hearL
  exact Nat.le_trans (List.length_filterMap_le _ _) (by simp)
theorem Hears_eq {l : LanT} (hf : FewL l) {cs : List CopyT} (hc : cs.length ≤ 1000) (a : Int) :
    judge_Hears l cs a = some (if LR l then (if h : 0 ≤ a ∧ a < ((l.Hosts.length : Nat) : Int) then (hearL (l.Hosts[a.toNat]'(by omega)) cs, 0) else ([], 3)) else ([], 1)) := by
  unfold judge_Hears
  rw [LanRight_eq l hf, Option.bind_some]
  by_cases hl : LR l
  rotate_left
  · rw [decide_eq_false hl, if_neg hl]; rfl
  rw [decide_eq_true hl, if_pos hl]
  simp only [Bool.not_true, cond_false]
  by_cases ha : 0 ≤ a ∧ a < ((l.Hosts.length : Nat) : Int)
  rotate_left
  · rw [dif_neg ha]
    have : (bif decide (a < 0) then true else decide (((l.Hosts.length : Nat) : Int) ≤ a)) = true := by
      by_cases h : a < 0
      · simp [h]
      · have : ((l.Hosts.length : Nat) : Int) ≤ a := by omega
        simp [h, this]
    rw [this]; rfl
  · rw [dif_pos ha, decide_eq_false (show ¬ a < 0 by omega), decide_eq_false (show ¬ ((l.Hosts.length : Nat) : Int) ≤ a by omega)]
    simp only [cond_false]
    rw [gix_of (x := l.Hosts[a.toNat]'(by omega)) ha.1 (List.getElem?_eq_getElem (by omega)), Option.bind_some,
      rangeL_filterMap (by omega) (fun (k : Nat) (c : CopyT) => if (decide (c.Seg = (l.Hosts[a.toNat]'(by omega)).Seg) && hrs (l.Hosts[a.toNat]'(by omega)) c.Raw) = true then some ((k : Nat) : Int) else none) [] (by simp) (fun k x s hx hs => by
        have hk := (List.getElem?_eq_some_iff.1 hx).1
        unfold judge_Hears_c0
        rw [hrs_eq]
        by_cases h1 : x.Seg = (l.Hosts[a.toNat]'(by omega)).Seg
        · rw [decide_eq_true h1, gd_true, Option.bind_some]
          by_cases h2 : hrs (l.Hosts[a.toNat]'(by omega)) x.Raw = true
          · rw [h2]
            simp only [cond_true, Bool.and_true, if_true]
            rw [grd_true ⟨by rw [List.length_append]; simp; omega, by rw [List.length_append]; simp; omega⟩]
            rfl
          · rw [Bool.not_eq_true] at h2
            rw [h2]; simp
        · rw [decide_eq_false h1, gd_false, Option.bind_some]
          simp)]
    rw [aft_some_nxt, List.nil_append]
    rfl
theorem refHears_eq {l : LanT} (hf : FewL l) {cs : List CopyT} (hc : cs.length ≤ 1000) {a : Int} (ha : 0 ≤ a ∧ a < ((l.Hosts.length : Nat) : Int)) :
    ref20_Hears l cs a = some (hearL (l.Hosts[a.toNat]'(by omega)) cs) := by
  unfold ref20_Hears
  rw [rangeL_filterMap (by omega) (fun (k : Nat) (c : CopyT) => if (decide (c.Seg = (l.Hosts[a.toNat]'(by omega)).Seg) && hrs (l.Hosts[a.toNat]'(by omega)) c.Raw) = true then some ((k : Nat) : Int) else none) [] (by simp) (fun k x s hx hs => by
        have hk := (List.getElem?_eq_some_iff.1 hx).1
        unfold ref20_Hears_c0
        rw [gix_of (x := l.Hosts[a.toNat]'(by omega)) ha.1 (List.getElem?_eq_getElem (by omega)), Option.bind_some, refHrs_eq, Option.bind_some]
        by_cases h1 : (decide (x.Seg = (l.Hosts[a.toNat]'(by omega)).Seg) && hrs (l.Hosts[a.toNat]'(by omega)) x.Raw) = true
        · rw [if_pos h1, h1, cond_true, grd_true ⟨by rw [List.length_append]; simp; omega, by rw [List.length_append]; simp; omega⟩]
          rfl
        · rw [if_neg h1]
          rw [Bool.not_eq_true] at h1
          rw [h1]; simp)]
  rw [aft_some_nxt, List.nil_append]
  rfl

/-! Strays. -/
theorem mhas_mput {α β : Type} [DecidableEq α] {m : List (α × β)} {k : α} (v : β) : mhas (mput m k v) k = true := by
  cases h : mfind m k with
  | none => rw [mput_none h, mhas_some (mfind_app h v)]
  | some p => obtain ⟨i, u⟩ := p; rw [mput_some h, mhas_some (mfind_set h v)]
theorem mhas_mput_ne {α β : Type} [DecidableEq α] {m : List (α × β)} {k k' : α} (hn : k ≠ k') (v : β) : mhas (mput m k v) k' = mhas m k' := by
  unfold mhas; rw [mfind_mput_ne hn]
def fs (cs : List CopyT) (z : ByteArray) : Int := (ref20_first cs z).getD 0
theorem first_ex {cs : List CopyT} (hc : cs.length ≤ 1000) {k : Nat} {x : CopyT} (hx : cs[k]? = some x) : ∃ (j : Nat) (y : CopyT), cs[j]? = some y ∧ y.Raw = x.Raw ∧ (∀ (i : Nat) (z : CopyT), i < j → cs[i]? = some z → z.Raw ≠ x.Raw) ∧ ref20_first cs x.Raw = some y.Seg := by
  unfold ref20_first
  rcases rangeL_find (s0 := ()) (body := ref20_first_c0 x.Raw) (xs := cs) (by omega) (fun _ c => decide (c.Raw = x.Raw)) (fun _ c => c.Seg) (fun k c hc => by
    unfold ref20_first_c0
    rw [baEq]
    cases decide (c.Raw = x.Raw) <;> rfl) with ⟨j, y, hy, hp, hj, h⟩ | ⟨hp, h⟩
  · exact ⟨j, y, hy, by simpa using hp, fun i z hi hz => by simpa using hj i z hi hz, by rw [h, aft_some_ret]⟩
  · have := hp k x hx
    simp at this
theorem fs_some {cs : List CopyT} (hc : cs.length ≤ 1000) {k : Nat} {x : CopyT} (hx : cs[k]? = some x) : ref20_first cs x.Raw = some (fs cs x.Raw) := by
  obtain ⟨j, y, _, _, _, h⟩ := first_ex hc hx
  unfold fs; rw [h]; rfl
theorem fs_mem {cs : List CopyT} (hc : cs.length ≤ 1000) {n : Int} (hs : SegOk n cs) {k : Nat} {x : CopyT} (hx : cs[k]? = some x) : 0 ≤ fs cs x.Raw ∧ fs cs x.Raw < n := by
  obtain ⟨j, y, hy, _, _, h⟩ := first_ex hc hx
  have : fs cs x.Raw = y.Seg := by unfold fs; rw [h]; rfl
  rw [this]
  exact hs y (List.mem_of_getElem? hy)
theorem fs_first {cs : List CopyT} (hc : cs.length ≤ 1000) {k : Nat} {x : CopyT} (hx : cs[k]? = some x) (hn : ∀ (i : Nat) (z : CopyT), i < k → cs[i]? = some z → z.Raw ≠ x.Raw) : fs cs x.Raw = x.Seg := by
  obtain ⟨j, y, hy, hr, hj, h⟩ := first_ex hc hx
  have e : fs cs x.Raw = y.Seg := by unfold fs; rw [h]; rfl
  rcases Nat.lt_trichotomy j k with g | g | g
  · exact absurd hr (hn j y g hy)
  · subst g
    rw [hx] at hy
    rw [e, ← Option.some.inj hy]
  · exact absurd rfl (hj k x g hx)
def Bad (l : LanT) (o : List (List Bool)) (cs : List CopyT) (x : CopyT) : Prop := x.Seg ∉ partI (edO l o) l.Segs (fs cs x.Raw)
theorem stray_both {l : LanT} {o : List (List Bool)} (hf : FewL l) (h : LR l) (hs : Shp l o) {cs : List CopyT} (hc : cs.length ≤ 1000) (hg : SegOk l.Segs cs) :
    ∃ r, judge_Stray l o cs = some (r, 0) ∧ ref20_Stray l o cs = some r := by
  have hseg := h.segs
  have plen : ∀ a, (partI (edO l o) l.Segs a).length ≤ 1000000 := fun a => by have := partI_len (edO l o) l.Segs a; omega
  have mine : ∀ (k : Nat) (x : CopyT) (s : List (ByteArray × List Int)), cs[k]? = some x → ((∀ (z : ByteArray), mhas s z = true ↔ ∃ (j : Nat) (y : CopyT), j < k ∧ cs[j]? = some y ∧ y.Raw = z) ∧ ∀ (z : ByteArray), mhas s z = true → mget s z [] = partI (edO l o) l.Segs (fs cs z)) →
      ∃ q, judge_Stray_c0 l o k x s = some q ∧ ((Bad l o cs x ∧ q = .ret (((k : Nat) : Int), 0)) ∨ (¬ Bad l o cs x ∧ ∃ s', q = .nxt s' ∧ ((∀ (z : ByteArray), mhas s' z = true ↔ ∃ (j : Nat) (y : CopyT), j < k + 1 ∧ cs[j]? = some y ∧ y.Raw = z) ∧ ∀ (z : ByteArray), mhas s' z = true → mget s' z [] = partI (edO l o) l.Segs (fs cs z)))) := by
    intro k x s hx ⟨i1, i2⟩
    have hxs := hg x (List.mem_of_getElem? hx)
    have step : (∃ (j : Nat) (y : CopyT), j < k + 1 ∧ cs[j]? = some y ∧ y.Raw = x.Raw) := ⟨k, x, by omega, hx, rfl⟩
    unfold judge_Stray_c0
    by_cases hm : mhas s x.Raw = true
    · rw [hm]
      simp only [Bool.not_true, cond_false]
      rw [i2 _ hm, containsInt_eq _ _ (plen _), Option.bind_some]
      by_cases hb : x.Seg ∈ partI (edO l o) l.Segs (fs cs x.Raw)
      · rw [decide_eq_true hb]
        refine ⟨_, rfl, .inr ⟨fun hh => hh hb, _, rfl, fun z => ?_, i2⟩⟩
        rw [i1]
        constructor
        · rintro ⟨j, y, hj, hy, hz⟩; exact ⟨j, y, by omega, hy, hz⟩
        · rintro ⟨j, y, hj, hy, hz⟩
          by_cases e : j = k
          · subst e
            rw [hx] at hy
            obtain rfl := Option.some.inj hy
            rw [← hz]
            exact (i1 _).1 hm
          · exact ⟨j, y, by omega, hy, hz⟩
      · rw [decide_eq_false hb]
        exact ⟨_, rfl, .inl ⟨hb, rfl⟩⟩
    · rw [Bool.not_eq_true] at hm
      rw [hm]
      simp only [Bool.not_false, cond_true]
      have hfirst : fs cs x.Raw = x.Seg := fs_first hc hx fun i z hi hz he => by
        have := (i1 x.Raw).2 ⟨i, z, hi, hz, he⟩
        rw [hm] at this; cases this
      rw [Reach_eq l o x.Seg hf, if_pos ⟨h, hs⟩, if_pos hxs, Option.bind_some, containsInt_eq _ _ (plen _), Option.bind_some]
      have hb : x.Seg ∈ partI (edO l o) l.Segs x.Seg := partI_mem.2 ⟨hxs, .refl⟩
      rw [decide_eq_true hb]
      refine ⟨_, rfl, .inr ⟨fun hh => hh (by rw [hfirst]; exact hb), _, rfl, fun z => ?_, fun z => ?_⟩⟩
      · by_cases hz : x.Raw = z
        · subst hz
          rw [mhas_mput]
          exact ⟨fun _ => step, fun _ => rfl⟩
        · rw [mhas_mput_ne hz, i1]
          constructor
          · rintro ⟨j, y, hj, hy, hz⟩; exact ⟨j, y, by omega, hy, hz⟩
          · rintro ⟨j, y, hj, hy, hw⟩
            by_cases e : j = k
            · subst e
              rw [hx] at hy
              obtain rfl := Option.some.inj hy
              exact absurd hw hz
            · exact ⟨j, y, by omega, hy, hw⟩
      · by_cases hz : x.Raw = z
        · subst hz
          intro _
          rw [mget_mput, hfirst]
        · rw [mhas_mput_ne hz, mget_mput_ne hz]
          exact i2 z
  obtain ⟨q, h1, h2⟩ := rangeL_rec (s0 := ([] : List (ByteArray × List Int))) (body := judge_Stray_c0 l o) (xs := cs) (by omega)
    (fun k s => ((∀ (z : ByteArray), mhas s z = true ↔ ∃ (j : Nat) (y : CopyT), j < k ∧ cs[j]? = some y ∧ y.Raw = z) ∧ ∀ (z : ByteArray), mhas s z = true → mget s z [] = partI (edO l o) l.Segs (fs cs z)) ∧ ∀ (j : Nat) (y : CopyT), j < k → cs[j]? = some y → ¬ Bad l o cs y)
    (fun r => ∃ (k : Nat) (x : CopyT), cs[k]? = some x ∧ Bad l o cs x ∧ (∀ (j : Nat) (y : CopyT), j < k → cs[j]? = some y → ¬ Bad l o cs y) ∧ r = (((k : Nat) : Int), 0)) (fun _ => False)
    ⟨⟨fun z => ⟨fun hh => (by cases hh), fun ⟨j, y, hj, _⟩ => (by omega)⟩, fun z hh => (by cases hh)⟩, fun j y hj => (by omega)⟩ (fun k x s hx ⟨hi, hj⟩ => by
      obtain ⟨q, q1, q2⟩ := mine k x s hx hi
      refine ⟨q, q1, ?_⟩
      rcases q2 with ⟨hb, rfl⟩ | ⟨hb, s', rfl, hi'⟩
      · exact ⟨k, x, hx, hb, hj, rfl⟩
      · refine ⟨hi', fun j y hjk hy => ?_⟩
        by_cases e : j = k
        · subst e
          rw [hx] at hy
          rw [← Option.some.inj hy]; exact hb
        · exact hj j y (by omega) hy)
  have hP : ∃ r : Int, judge_Stray l o cs = some (r, 0) ∧ ((∃ (k : Nat) (x : CopyT), cs[k]? = some x ∧ Bad l o cs x ∧ (∀ (j : Nat) (y : CopyT), j < k → cs[j]? = some y → ¬ Bad l o cs y) ∧ r = ((k : Nat) : Int)) ∨ ((∀ (k : Nat) (x : CopyT), cs[k]? = some x → ¬ Bad l o cs x) ∧ r = -1)) := by
    unfold judge_Stray
    rw [Reach_eq l o 0 hf, if_pos ⟨h, hs⟩, if_pos (show (0 : Int) ≤ 0 ∧ 0 < l.Segs by omega), Option.bind_some]
    simp only [decide_true, Bool.not_true, Bool.not_false, gd_true]
    obtain ⟨y, y1, y2⟩ := odd_eq hc l.Segs
    rw [y1, Option.bind_some, y2, Option.bind_some, decide_eq_true hg]
    simp only [Bool.not_true, cond_false]
    rw [h1]
    cases q with
    | ret r =>
      rw [aft_some_ret]
      obtain ⟨k, x, g1, g2, g3, rfl⟩ := h2
      exact ⟨_, rfl, .inl ⟨k, x, g1, g2, g3, rfl⟩⟩
    | brk s => exact h2.elim
    | nxt s =>
      rw [aft_some_nxt]
      have := (h2.resolve_right id).2
      exact ⟨_, rfl, .inr ⟨fun k x hx => this k x (List.getElem?_eq_some_iff.1 hx).1 hx, rfl⟩⟩
  obtain ⟨r, hr, hr2⟩ := hP
  refine ⟨r, hr, ?_⟩
  unfold ref20_Stray
  classical
  rcases rangeL_find (s0 := ()) (body := ref20_Stray_c0 l o cs) (xs := cs) (by omega) (fun _ x => !decide (x.Seg ∈ partI (edO l o) l.Segs (fs cs x.Raw))) (fun k _ => ((k : Nat) : Int)) (fun k x hx => by
    unfold ref20_Stray_c0
    rw [fs_some hc hx, Option.bind_some, refReach_eq hf h hs (fs_mem hc hg hx), Option.bind_some, has_eq _ _ (plen _), Option.bind_some]
    cases decide (x.Seg ∈ partI (edO l o) l.Segs (fs cs x.Raw)) <;> rfl) with ⟨j, y, hy, hp, hj, h3⟩ | ⟨hp, h3⟩
  · rw [h3, aft_some_ret]
    have hb : Bad l o cs y := by simpa [Bad] using hp
    rcases hr2 with ⟨k, x, hx, hd, hk, rfl⟩ | ⟨hn, rfl⟩
    · rcases Nat.lt_trichotomy k j with g | g | g
      · have := hj k x g hx
        exact absurd hd (by simpa [Bad] using this)
      · rw [g]
      · exact absurd hb (hk j y g hy)
    · exact absurd hb (hn j y hy)
  · rw [h3, aft_some_nxt]
    rcases hr2 with ⟨k, x, hx, hd, hk, rfl⟩ | ⟨hn, rfl⟩
    · have := hp k x hx
      exact absurd hd (by simpa [Bad] using this)
    · rfl
theorem stray_no {l : LanT} {o : List (List Bool)} (hf : FewL l) {cs : List CopyT} (hc : cs.length ≤ 1000) (hn : ¬ ((LR l ∧ Shp l o) ∧ SegOk l.Segs cs)) : judge_Stray l o cs = some (0, 1) := by
  unfold judge_Stray
  rw [Reach_eq l o 0 hf]
  by_cases h : LR l ∧ Shp l o
  · have hseg := h.1.segs
    have hg : ¬ SegOk l.Segs cs := fun hg => hn ⟨h, hg⟩
    rw [if_pos h, if_pos (show (0 : Int) ≤ 0 ∧ 0 < l.Segs by omega), Option.bind_some]
    simp only [decide_true, Bool.not_true, Bool.not_false, gd_true]
    obtain ⟨y, y1, y2⟩ := odd_eq hc l.Segs
    rw [y1, Option.bind_some, y2, Option.bind_some, decide_eq_false hg]
    rfl
  · rw [if_neg h]
    rfl

/-! The law. -/
theorem few20_eq (l : LanT) : law20_cut l = some (fewL l) := by
  unfold law20_cut
  rw [grd_true (mn_ok _ _ (by decide)), show (8 : Int) = ((8 : Nat) : Int) from rfl, take_mn,
    rangeL_map (f := fun p : PlanT => (⟨p.ID, p.Ports.take 10⟩ : PlanT)) (by rw [List.length_take]; omega) (fun k x s hx hk => by
      have hk8 : k < 8 := by have := (List.getElem?_eq_some_iff.1 hx).1; rw [List.length_take] at this; omega
      unfold law20_cut_c0
      rw [grd_true (mn_ok _ _ (by decide)), grd_true (fits_of (by simp; omega) (by decide)), show (10 : Int) = ((10 : Nat) : Int) from rfl, take_mn]),
    aft_some_nxt, grd_true (mn_ok _ _ (by decide)), show (12 : Int) = ((12 : Nat) : Int) from rfl, take_mn]
  rfl
theorem rows20_eq (o : List (List Bool)) : law20_rows o = some (rowsL o) := by
  unfold law20_rows
  rw [grd_true (mn_ok _ _ (by decide)), show (8 : Int) = ((8 : Nat) : Int) from rfl, take_mn,
    rangeL_map (f := fun x : List Bool => x.take 10) (by rw [List.length_take]; omega) (fun k x s hx hk => by
      have hk8 : k < 8 := by have := (List.getElem?_eq_some_iff.1 hx).1; rw [List.length_take] at this; omega
      unfold law20_rows_c0
      rw [grd_true (mn_ok _ _ (by decide)), grd_true (fits_of (by rw [List.length_append]; simp; omega) (by decide)), show (10 : Int) = ((10 : Nat) : Int) from rfl, take_mn]), aft_some_nxt]
  rfl
theorem mn20 (n : Nat) (b : Int) (hb : 0 ≤ b) : (0 : Int) ≤ mn ((n : Nat) : Int) b ∧ mn ((n : Nat) : Int) b ≤ ((n : Nat) : Int) := by
  unfold mn; split <;> omega
theorem cut20_ex (cs : List CopyT) : ∃ l : List CopyT, law20_few cs = some l ∧ l.length ≤ 60 := by
  unfold law20_few
  rw [grd_true (mn_ok _ _ (by decide)), show (60 : Int) = ((60 : Nat) : Int) from rfl, take_mn,
    rangeL_map (f := fun x : CopyT => (⟨x.At, x.Seg, x.Bridge, x.Port, (x.Raw.extract 0 ((mn ((x.Raw.size : Nat) : Int) 130) : Int).toNat)⟩ : CopyT)) (by rw [List.length_take]; omega) (fun k x s hx hk => by
      have hk8 : k < 60 := by have := (List.getElem?_eq_some_iff.1 hx).1; rw [List.length_take] at this; omega
      unfold law20_few_c0
      rw [grd_true (mn20 _ _ (by decide)), grd_true (fits_of (by rw [List.length_append]; simp; omega) (by decide))]), aft_some_nxt]
  exact ⟨_, rfl, by rw [List.length_map, List.length_take]; omega⟩
theorem alive20 : law20_alive = some true := by kernel_rfl
def tailJ (y1 : LanT) (y3 : List (List Bool)) (y5 : List CopyT) (a5 : Int) (y10 : Int × Int) (y12 : List Int × Int) : Option Bool :=
  (ref17_May y1 y3).bind fun y20 =>
  (gd (!(!y20)) (ref20_Segs y5 y1.Segs)).bind fun y22 =>
  (bif (bif (!y20) then true else (!y22)) then
    (bif (bif (!decide (y10.2 = 1)) then true else (!decide (y10.1 = 0))) then
      some false
    else
      (ref15_Right y1).bind fun y24 =>
      (bif (!y24) then
        some (bif (decide (y12.2 = 1)) then (decide (((y12.1.length : Nat) : Int) = 0)) else false)
      else
        (bif (bif (decide (a5 < 0)) then true else (decide (((y1.Hosts.length : Nat) : Int) ≤ a5))) then
          some (bif (decide (y12.2 = 3)) then (decide (((y12.1.length : Nat) : Int) = 0)) else false)
        else
          (gd (decide (y12.2 = 0)) (ref20_Hears y1 y5 a5)).bind fun y26 =>
          (gd (decide (y12.2 = 0)) (ref06_Same y12.1 y26)).bind fun y28 =>
          some (bif (decide (y12.2 = 0)) then y28 else false))))
  else
    (gd (!(!decide (y10.2 = 0))) (ref20_Stray y1 y3 y5)).bind fun y30 =>
    (bif (bif (!decide (y10.2 = 0)) then true else (!decide (y10.1 = y30))) then
      some false
    else
      (ref15_Right y1).bind fun y32 =>
      (bif (!y32) then
        some (bif (decide (y12.2 = 1)) then (decide (((y12.1.length : Nat) : Int) = 0)) else false)
      else
        (bif (bif (decide (a5 < 0)) then true else (decide (((y1.Hosts.length : Nat) : Int) ≤ a5))) then
          some (bif (decide (y12.2 = 3)) then (decide (((y12.1.length : Nat) : Int) = 0)) else false)
        else
          (gd (decide (y12.2 = 0)) (ref20_Hears y1 y5 a5)).bind fun y34 =>
          (gd (decide (y12.2 = 0)) (ref06_Same y12.1 y34)).bind fun y36 =>
          some (bif (decide (y12.2 = 0)) then y36 else false)))))
def hearJ (y1 : LanT) (y5 : List CopyT) (a5 : Int) (y12 : List Int × Int) : Option Bool :=
  (ref15_Right y1).bind fun y32 =>
      (bif (!y32) then
        some (bif (decide (y12.2 = 1)) then (decide (((y12.1.length : Nat) : Int) = 0)) else false)
      else
        (bif (bif (decide (a5 < 0)) then true else (decide (((y1.Hosts.length : Nat) : Int) ≤ a5))) then
          some (bif (decide (y12.2 = 3)) then (decide (((y12.1.length : Nat) : Int) = 0)) else false)
        else
          (gd (decide (y12.2 = 0)) (ref20_Hears y1 y5 a5)).bind fun y34 =>
          (gd (decide (y12.2 = 0)) (ref06_Same y12.1 y34)).bind fun y36 =>
          some (bif (decide (y12.2 = 0)) then y36 else false)))
theorem hearJ_true {l : LanT} (hf : FewL l) {cs : List CopyT} (hc : cs.length ≤ 1000) (a : Int) {y : List Int × Int} (hy : judge_Hears l cs a = some y) : hearJ l cs a y = some true := by
  rw [Hears_eq hf hc] at hy
  obtain rfl := Option.some.inj hy
  unfold hearJ
  rw [refRight_eq l hf, Option.bind_some]
  by_cases hl : LR l
  rotate_left
  · rw [decide_eq_false hl, if_neg hl]; rfl
  rw [decide_eq_true hl, if_pos hl]
  simp only [Bool.not_true, cond_false]
  by_cases ha : 0 ≤ a ∧ a < ((l.Hosts.length : Nat) : Int)
  · have hlen := hearL_len (l.Hosts[a.toNat]'(by omega)) cs
    rw [dif_pos ha, decide_eq_false (show ¬ a < 0 by omega), decide_eq_false (show ¬ ((l.Hosts.length : Nat) : Int) ≤ a by omega), refHears_eq hf hc ha]
    simp only [cond_false, decide_true, gd_true, Option.bind_some, cond_true]
    rw [same_eq _ _ (by omega), Option.bind_some, decide_eq_true rfl]
  · have : (bif decide (a < 0) then true else decide (((l.Hosts.length : Nat) : Int) ≤ a)) = true := by
      by_cases h : a < 0
      · simp [h]
      · have : ((l.Hosts.length : Nat) : Int) ≤ a := by omega
        simp [h, this]
    rw [dif_neg ha, this]; rfl
open Classical in
theorem tailJ_true {l : LanT} {o : List (List Bool)} (hf : FewL l) {cs : List CopyT} (hc : cs.length ≤ 1000) (a : Int) {y : List Int × Int} (hy : judge_Hears l cs a = some y) {z : Int × Int} (hz : judge_Stray l o cs = some z) : tailJ l o cs a z y = some true := by
  have hh := hearJ_true hf hc a hy
  unfold tailJ
  rw [refMay_eq l o hf, Option.bind_some]
  by_cases h : LR l ∧ Shp l o
  · rw [decide_eq_true h]
    simp only [Bool.not_true, Bool.not_false, gd_true, cond_false]
    rw [refSegs_eq hc, Option.bind_some]
    by_cases hg : SegOk l.Segs cs
    · obtain ⟨r, r1, r2⟩ := stray_both hf h.1 h.2 hc hg
      rw [hz] at r1
      obtain rfl := Option.some.inj r1
      rw [decide_eq_true hg, r2]
      simp only [Bool.not_true, Bool.not_false, gd_true, cond_false, decide_true, Option.bind_some]
      exact hh
    · rw [stray_no hf hc (fun q => hg q.2)] at hz
      obtain rfl := Option.some.inj hz
      rw [decide_eq_false hg]
      exact hh
  · rw [stray_no hf hc (fun q => h q.1)] at hz
    obtain rfl := Option.some.inj hz
    rw [decide_eq_false h]
    exact hh
theorem JudgeTells_true (a0 : LanT) (a1 : List (List Bool)) (a2 : List CopyT) (a3 : ByteArray) (a4 a5 : Int) : law20_JudgeTells a0 a1 a2 a3 a4 a5 = some true := by
  unfold law20_JudgeTells
  obtain ⟨cs, c1, c2⟩ := cut20_ex a2
  have hf := fewL_few a0
  rw [few20_eq, Option.bind_some, rows20_eq, Option.bind_some, c1, Option.bind_some, grd_true (mn20 _ _ (by decide))]
  have hc : cs.length ≤ 1000 := by omega
  generalize fewL a0 = l at hf ⊢
  generalize rowsL a1 = o
  generalize a3.extract 0 ((mn ((a3.size : Nat) : Int) 130) : Int).toNat = raw
  obtain ⟨z, hz⟩ : ∃ z, judge_Stray l o cs = some z := by
    by_cases h : (LR l ∧ Shp l o) ∧ SegOk l.Segs cs
    · obtain ⟨r, r1, _⟩ := stray_both hf h.1.1 h.1.2 hc h.2
      exact ⟨_, r1⟩
    · exact ⟨_, stray_no hf hc h⟩
  obtain ⟨y, hy⟩ : ∃ y, judge_Hears l cs a5 = some y := ⟨_, Hears_eq hf hc a5⟩
  obtain ⟨t, t1, t2⟩ := twice_same hc
  have ht := tailJ_true hf hc a5 hy hz
  rw [Where_eq hc, Option.bind_some, hz, Option.bind_some, hy, Option.bind_some, t1, Option.bind_some, t2, Option.bind_some, alive20]
  simp only [decide_true, Bool.not_true, Bool.not_false, gd_true, Option.bind_some, cond_false]
  by_cases h4 : a4 < 1 ∨ 8 < a4
  · have : (bif decide (a4 < 1) then true else decide (8 < a4)) = true := by
      by_cases h : a4 < 1
      · simp [h]
      · have : 8 < a4 := h4.resolve_left h
        simp [h, this]
    rw [this, if_pos h4]
    exact ht
  · rw [if_neg h4, decide_eq_false (show ¬ a4 < 1 by omega), decide_eq_false (show ¬ 8 < a4 by omega), refSegs_eq hc a4]
    simp only [cond_false, Option.bind_some]
    by_cases hs : SegOk a4 cs
    · rw [decide_eq_true hs, if_pos hs, refWhere_eq hc raw (by omega) (by omega)]
      simp only [decide_true, Bool.not_true, Bool.not_false, gd_true, Option.bind_some, cond_false]
      rw [same_eq _ _ (by simp [whereL]; omega), Option.bind_some, decide_eq_true rfl]
      exact ht
    · rw [decide_eq_false hs, if_neg hs]
      exact ht
end
end Go.RX
