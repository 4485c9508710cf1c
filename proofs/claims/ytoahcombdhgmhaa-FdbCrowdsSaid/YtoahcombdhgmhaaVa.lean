/- Addresses, their bytes and sums, plainly. -/
import Derived.Test.YtoahcombdhgmhaaUc
import Derived.Test.YtoahcombdhgmhaaMp
set_option linter.unusedVariables false
set_option linter.unusedSimpArgs false
namespace Go.RX
set_option maxHeartbeats 1000000

theorem w64i {x : Int} (h : -9223372036854775808 ≤ x) (h' : x ≤ 9223372036854775807) : IntKind.i64.wrap x = x := w64_in h h'
theorem u8_wrap (x : Int) : IntKind.u8.wrap x = x % 256 := rfl
theorem u32_wrap (x : Int) : IntKind.u32.wrap x = x % 4294967296 := rfl
theorem bit_xor32 {a b : Nat} (h0 : a < 4294967296) (h1 : b < 4294967296) : bitI .xor .u32 ((a : Nat) : Int) ((b : Nat) : Int) = (((a ^^^ b : Nat)) : Int) := by
  show IntKind.u32.wrap (((BitVec.ofInt 32 (a : Int) ^^^ BitVec.ofInt 32 (b : Int)).toNat : Nat) : Int) = _
  have e : ∀ x : Nat, x < 4294967296 → (BitVec.ofInt 32 (x : Int)).toNat = x := fun x hx => by
    rw [BitVec.toNat_ofInt]
    have : (x : Int) % ((2 ^ 32 : Nat) : Int) = x := Int.emod_eq_of_lt (by omega) (by simpa using (by omega : (x : Int) < 4294967296))
    rw [this]; rfl
  rw [BitVec.toNat_xor, e a h0, e b h1, u32_wrap]
  have : a ^^^ b < 2 ^ 32 := Nat.xor_lt_two_pow (by simpa using h0) (by simpa using h1)
  exact Int.emod_eq_of_lt (by omega) (by omega)

/-- One byte of an address: the k-th from below. -/
def byt (a k : Nat) : Nat := a / 256 ^ k % 256
/-- The lowest k bytes, the highest first. -/
def bys (a : Nat) : Nat → List Nat
  | 0 => []
  | k + 1 => byt a k :: bys a k
def btA (l : List Nat) : ByteArray := ⟨(l.map UInt8.ofNat).toArray⟩
theorem bys_lt (a : Nat) : ∀ k, ∀ x ∈ bys a k, x < 256
  | 0, x, h => by cases h
  | k + 1, x, h => by
    rcases List.mem_cons.1 h with rfl | h
    · exact Nat.mod_lt _ (by decide)
    · exact bys_lt a k x h
theorem strP_nat {l : List Nat} (h : ∀ x ∈ l, x < 256) : strP (l.map fun x => ((x : Nat) : Int)) = some (btA l) := by
  unfold strP
  have : ((l.map fun x => ((x : Nat) : Int)).all fun x => decide (0 ≤ x) && decide (x < 256)) = true := by
    rw [List.all_eq_true]
    intro x hx
    obtain ⟨y, hy, rfl⟩ := List.mem_map.1 hx
    have := h y hy
    simp; omega
  rw [if_pos this]
  unfold btA
  rw [List.map_map]
  rfl
theorem btA_size (l : List Nat) : (btA l).size = l.length := by
  show ((l.map UInt8.ofNat).toArray).size = _
  simp
theorem btA_get {l : List Nat} (h : ∀ x ∈ l, x < 256) {i x : Nat} (hx : l[i]? = some x) : ∃ v : UInt8, gixS (btA l) ((i : Nat) : Int) = some v ∧ v.toNat = x := by
  have hi := (List.getElem?_eq_some_iff.1 hx).1
  have hs : i < (btA l).size := by rw [btA_size]; exact hi
  refine ⟨(btA l)[i], ?_, ?_⟩
  · unfold gixS
    rw [if_pos (by omega), Int.toNat_natCast]
    exact getElem?_pos (btA l) i hs
  · have e : (btA l)[i] = UInt8.ofNat x := by
      obtain ⟨_, h2⟩ := List.getElem?_eq_some_iff.1 hx
      exact (by simp [h2] : (l.map UInt8.ofNat)[i]'(by simpa using hi) = UInt8.ofNat x)
    rw [e]
    have := h x (List.mem_of_getElem? hx)
    simp; omega
theorem mac_Bytes_eq {a : Nat} (h : a < 281474976710656) : mac_Bytes ((a : Nat) : Int) = some (btA (bys a 6), 0) := by
  have hr : mac_Right ((a : Nat) : Int) = some true := by
    unfold mac_Right
    rw [decide_eq_true (show (0 : Int) ≤ (a : Int) by omega), decide_eq_true (show (a : Int) ≤ 281474976710655 by omega)]; rfl
  have fd : ∀ n : Nat, (((a : Nat) : Int)).fdiv (2 ^ n) % 256 = (((a / 2 ^ n % 256 : Nat)) : Int) := fun n => by
    rw [Int.fdiv_eq_ediv_of_nonneg _ (Int.pow_nonneg (by decide)), Int.natCast_emod, Int.natCast_ediv, Int.natCast_pow]; rfl
  have e := rangeN_up (body := mac_Bytes_b1 ((a : Nat) : Int)) (n := 6) (s0 := [0, 0, 0, 0, 0, 0]) (by omega)
    (fun k => match k with
      | 0 => [0, 0, 0, 0, 0, 0]
      | 1 => [((byt a 5 : Nat) : Int), 0, 0, 0, 0, 0]
      | 2 => [((byt a 5 : Nat) : Int), ((byt a 4 : Nat) : Int), 0, 0, 0, 0]
      | 3 => [((byt a 5 : Nat) : Int), ((byt a 4 : Nat) : Int), ((byt a 3 : Nat) : Int), 0, 0, 0]
      | 4 => [((byt a 5 : Nat) : Int), ((byt a 4 : Nat) : Int), ((byt a 3 : Nat) : Int), ((byt a 2 : Nat) : Int), 0, 0]
      | 5 => [((byt a 5 : Nat) : Int), ((byt a 4 : Nat) : Int), ((byt a 3 : Nat) : Int), ((byt a 2 : Nat) : Int), ((byt a 1 : Nat) : Int), 0]
      | _ => [((byt a 5 : Nat) : Int), ((byt a 4 : Nat) : Int), ((byt a 3 : Nat) : Int), ((byt a 2 : Nat) : Int), ((byt a 1 : Nat) : Int), ((byt a 0 : Nat) : Int)]) rfl (fun k hk => by
      have : k = 0 ∨ k = 1 ∨ k = 2 ∨ k = 3 ∨ k = 4 ∨ k = 5 := by omega
      rcases this with rfl | rfl | rfl | rfl | rfl | rfl <;> unfold mac_Bytes_b1
      · rw [grd_true (by decide), grd_true (by decide), u8_wrap, show min (IntKind.i64.wrap (8 * IntKind.i64.wrap (5 - ((0 : Nat) : Int)))).toNat 64 = 40 by decide, fd]; rfl
      · rw [grd_true (by decide), grd_true (by decide), u8_wrap, show min (IntKind.i64.wrap (8 * IntKind.i64.wrap (5 - ((1 : Nat) : Int)))).toNat 64 = 32 by decide, fd]; rfl
      · rw [grd_true (by decide), grd_true (by decide), u8_wrap, show min (IntKind.i64.wrap (8 * IntKind.i64.wrap (5 - ((2 : Nat) : Int)))).toNat 64 = 24 by decide, fd]; rfl
      · rw [grd_true (by decide), grd_true (by decide), u8_wrap, show min (IntKind.i64.wrap (8 * IntKind.i64.wrap (5 - ((3 : Nat) : Int)))).toNat 64 = 16 by decide, fd]; rfl
      · rw [grd_true (by decide), grd_true (by decide), u8_wrap, show min (IntKind.i64.wrap (8 * IntKind.i64.wrap (5 - ((4 : Nat) : Int)))).toNat 64 = 8 by decide, fd]; rfl
      · rw [grd_true (by decide), grd_true (by decide), u8_wrap, show min (IntKind.i64.wrap (8 * IntKind.i64.wrap (5 - ((5 : Nat) : Int)))).toNat 64 = 0 by decide, fd]; rfl)
  unfold mac_Bytes
  rw [hr]
  simp only [Option.bind_some, Bool.not_true, cond_false]
  rw [show rangeN (mac_Bytes_b1 ((a : Nat) : Int)) 6 [0, 0, 0, 0, 0, 0] = some (.nxt [((byt a 5 : Nat) : Int), ((byt a 4 : Nat) : Int), ((byt a 3 : Nat) : Int), ((byt a 2 : Nat) : Int), ((byt a 1 : Nat) : Int), ((byt a 0 : Nat) : Int)]) from e, aft_some_nxt, grd_true (by rfl)]
  have := strP_nat (bys_lt a 6)
  rw [show strP [((byt a 5 : Nat) : Int), ((byt a 4 : Nat) : Int), ((byt a 3 : Nat) : Int), ((byt a 2 : Nat) : Int), ((byt a 1 : Nat) : Int), ((byt a 0 : Nat) : Int)] = _ from this]
  rfl
/-- A step of a sum. -/
def stepH (h b : Nat) : Nat := (h ^^^ b) * 16777619 % 4294967296
theorem stepH_cast (h b : Nat) : ((h ^^^ b : Nat) : Int) * 16777619 % 4294967296 = ((stepH h b : Nat) : Int) := by
  unfold stepH
  generalize h ^^^ b = y
  omega
theorem tdiv256 {q : Nat} (h : q < 9223372036854775808) : IntKind.i64.wrap (((q : Nat) : Int).tdiv 256) = ((q / 256 : Nat) : Int) := by
  rw [Int.tdiv_eq_ediv_of_nonneg (by omega), w64i (by omega) (by omega)]; omega
theorem tdiv2 {q : Nat} (h : q < 9223372036854775808) : IntKind.i64.wrap (((q : Nat) : Int).tdiv 2) = ((q / 2 : Nat) : Int) := by
  rw [Int.tdiv_eq_ediv_of_nonneg (by omega), w64i (by omega) (by omega)]; omega
theorem tmod256 (q : Nat) : IntKind.u8.wrap (((q : Nat) : Int).tmod 256) = ((q % 256 : Nat) : Int) := by
  rw [u8_wrap, Int.tmod_eq_emod_of_nonneg (by omega)]; omega
theorem tmod2 (q : Nat) : ((q : Nat) : Int).tmod 2 = ((q % 2 : Nat) : Int) := by
  rw [Int.tmod_eq_emod_of_nonneg (by omega)]; omega
def sumH (a : Nat) : Nat := (bys a 6).foldl stepH 2166136261
theorem stepH_lt (h b : Nat) : stepH h b < 4294967296 := Nat.mod_lt _ (by decide)
theorem foldH_lt : ∀ (l : List Nat) (h : Nat), h < 4294967296 → l.foldl stepH h < 4294967296
  | [], h, hh => hh
  | b :: l, h, hh => foldH_lt l _ (stepH_lt h b)
theorem sumH_lt (a : Nat) : sumH a < 4294967296 := foldH_lt _ _ (by decide)
theorem foldF_lt {f : Nat → Nat → Nat} (hf : ∀ h b, f h b < 4294967296) : ∀ (l : List Nat) (h : Nat), h < 4294967296 → l.foldl f h < 4294967296
  | [], h, hh => hh
  | b :: l, h, hh => foldF_lt hf l _ (hf h b)
theorem hash_loop {f : Nat → Nat → Nat} (hf : ∀ h b, ((h ^^^ b : Nat) : Int) * 16777619 % 4294967296 = ((f h b : Nat) : Int)) (hf2 : ∀ h b, f h b < 4294967296) {z : Nat} (hz : z < 4294967296) {l : List Nat} (hl : l.length = 6) (hb : ∀ x ∈ l, x < 256) :
    rangeN (hash_Sum_b2 (btA l, 0)) ((6 : Nat) : Int) ((z : Nat) : Int) = some (.nxt ((l.foldl f z : Nat) : Int)) := by
  have e := rangeN_up (body := hash_Sum_b2 (btA l, 0)) (n := ((6 : Nat) : Int)) (s0 := ((z : Nat) : Int)) (by omega) (fun k => (((l.take k).foldl f z : Nat) : Int)) rfl (fun k hk => by
    have hk' : k < l.length := by rw [hl]; omega
    obtain ⟨v, h1, h2⟩ := btA_get hb (List.getElem?_eq_getElem hk')
    have hbk := hb _ (List.getElem_mem hk')
    have hp := foldF_lt hf2 (l.take k) z hz
    unfold hash_Sum_b2
    simp only [h1, Option.bind_some, h2]
    rw [u32_wrap ((l[k] : Nat) : Int), Int.emod_eq_of_lt (by omega) (by omega), bit_xor32 hp (by omega), u32_wrap, List.take_succ_eq_append_getElem hk', List.foldl_append]
    simp only [List.foldl_cons, List.foldl_nil]
    rw [hf])
  rw [e, Int.toNat_natCast, List.take_of_length_le (by omega)]
theorem ref_loop {f : Nat → Nat → Nat} (hf : ∀ h b, ((h ^^^ b : Nat) : Int) * 16777619 % 4294967296 = ((f h b : Nat) : Int)) (hf2 : ∀ h b, f h b < 4294967296) (ht : ∀ a b : Nat, a < 4294967296 → b < 4294967296 → ref07_turned ((a : Nat) : Int) ((b : Nat) : Int) = some (((a ^^^ b : Nat)) : Int)) {z : Nat} (hz : z < 4294967296) {l : List Nat} (hl : l.length = 6) (hb : ∀ x ∈ l, x < 256) :
    loopF 1000000 (ref07_Sum_b19 (btA l)) (((z : Nat) : Int), 0) = some (.nxt (((l.foldl f z : Nat) : Int), ((6 : Nat) : Int))) := by
  have e := loopF_count (body := ref07_Sum_b19 (btA l)) (fun k => ((((l.take k).foldl f z : Nat) : Int), ((k : Nat) : Int))) 6 ((((l.take 6).foldl f z : Nat) : Int), ((6 : Nat) : Int)) (s0 := (((z : Nat) : Int), 0)) rfl (by omega) (fun k hk => by
    have hk' : k < l.length := by rw [hl]; omega
    obtain ⟨v, h1, h2⟩ := btA_get hb (List.getElem?_eq_getElem hk')
    have hbk := hb _ (List.getElem_mem hk')
    have hp := foldF_lt hf2 (l.take k) z hz
    have hx : ((l.take k).foldl f z) ^^^ l[k] < 2 ^ 32 := Nat.xor_lt_two_pow (by omega) (by omega)
    unfold ref07_Sum_b19
    simp only [decide_eq_true (show ((k : Nat) : Int) < 6 by omega), cond_true, h1, Option.bind_some, h2]
    rw [w64i (x := ((l[k] : Nat) : Int)) (by omega) (by omega), ht _ _ hp (by omega), Option.bind_some, w64i (x := _ * 16777619) (by omega) (by omega), w64i (x := ((k : Nat) : Int) + 1) (by omega) (by omega), Int.tmod_eq_emod_of_nonneg (by omega), List.take_succ_eq_append_getElem hk', List.foldl_append]
    simp only [List.foldl_cons, List.foldl_nil]
    rw [hf]
    rfl) (by
    unfold ref07_Sum_b19
    simp only [show decide (((6 : Nat) : Int) < 6) = false from rfl, cond_false])
  rw [e, List.take_of_length_le (by omega)]
theorem hash_Sum_eq {a : Nat} (h : a < 281474976710656) : hash_Sum ((a : Nat) : Int) = some (((sumH a : Nat) : Int), 0) := by
  unfold hash_Sum
  rw [mac_Bytes_eq h]
  simp only [Option.bind_some, decide_true, Bool.not_true, cond_false, btA_size]
  have hl : (bys a 6).length = 6 := rfl
  have hb := bys_lt a 6
  have hs := sumH_lt a
  unfold sumH at hs ⊢
  generalize bys a 6 = l at hl hb hs
  have e := hash_loop stepH_cast stepH_lt (z := 2166136261) (by decide) hl hb
  rw [hl]
  rw [show ((2166136261 : Nat) : Int) = (2166136261 : Int) from rfl] at e
  rw [e, aft_some_nxt, w64i (by omega) (by omega)]

/-! The document's. -/
theorem ref01_Bytes_eq {a : Nat} (h : a < 281474976710656) : ref01_Bytes ((a : Nat) : Int) = some (btA (bys a 6)) := by
  have app : ∀ k, (btA [byt a k] ++ btA (bys a k)) = btA (bys a (k + 1)) := fun k => by
    apply ByteArray.ext
    simp [btA, bys]
  have hlen : ∀ k, (bys a k).length = k := fun k => by
    induction k with
    | zero => rfl
    | succ k ih => simp [bys, ih]
  have e := loopF_count (body := ref01_Bytes_b18) (fun k => (((a / 256 ^ k : Nat) : Int), btA (bys a k), ((k : Nat) : Int))) 6 (((a / 256 ^ 6 : Nat) : Int), btA (bys a 6), ((6 : Nat) : Int)) (s0 := (((a : Nat) : Int), (⟨#[]⟩ : ByteArray), 0)) (by simp [btA, bys]) (by omega) (fun k hk => by
    have hle : a / 256 ^ k ≤ a := Nat.div_le_self _ _
    unfold ref01_Bytes_b18
    simp only [decide_eq_true (show ((k : Nat) : Int) < 6 by omega), cond_true]
    have hb : IntKind.u8.wrap ((((a / 256 ^ k : Nat)) : Int).tmod 256) = ((byt a k : Nat) : Int) := tmod256 _
    have hs := strP_nat (l := [byt a k]) (by
      intro x hx
      rw [List.mem_singleton] at hx; subst hx
      exact Nat.mod_lt _ (by decide))
    rw [hb, show strP [((byt a k : Nat) : Int)] = _ from hs]
    simp only [Option.bind_some]
    rw [grd_true (by rw [btA_size, btA_size, hlen]; simp; omega), app, w64i (x := ((k : Nat) : Int) + 1) (by omega) (by omega)]
    have hd : IntKind.i64.wrap ((((a / 256 ^ k : Nat)) : Int).tdiv 256) = ((a / 256 ^ (k + 1) : Nat) : Int) := by
      rw [tdiv256 (Nat.lt_of_le_of_lt hle (by omega)), Nat.pow_succ, ← Nat.div_div_eq_div_mul]
    rw [hd]; rfl) (by
    unfold ref01_Bytes_b18
    simp only [show decide (((6 : Nat) : Int) < 6) = false from rfl, cond_false])
  unfold ref01_Bytes
  rw [e, aft_some_nxt]
theorem xor_bit (a b k : Nat) : (a ^^^ b) / 2 ^ k % 2 = if a / 2 ^ k % 2 = b / 2 ^ k % 2 then 0 else 1 := by
  have h := Nat.testBit_xor a b k
  simp only [Nat.testBit_eq_decide_div_mod_eq] at h
  have h1 : (a ^^^ b) / 2 ^ k % 2 < 2 := Nat.mod_lt _ (by decide)
  have h2 : a / 2 ^ k % 2 < 2 := Nat.mod_lt _ (by decide)
  have h3 : b / 2 ^ k % 2 < 2 := Nat.mod_lt _ (by decide)
  generalize (a ^^^ b) / 2 ^ k % 2 = x at h h1
  generalize a / 2 ^ k % 2 = y at h h2
  generalize b / 2 ^ k % 2 = z at h h3
  have e1 : y = 0 ∨ y = 1 := by omega
  have e2 : z = 0 ∨ z = 1 := by omega
  have e3 : x = 0 ∨ x = 1 := by omega
  rcases e1 with rfl | rfl <;> rcases e2 with rfl | rfl <;> rcases e3 with rfl | rfl <;> simp at h ⊢
theorem turned_eq {a b : Nat} (h0 : a < 4294967296) (h1 : b < 4294967296) : ref07_turned ((a : Nat) : Int) ((b : Nat) : Int) = some (((a ^^^ b : Nat)) : Int) := by
  have e := loopF_count (body := ref07_turned_b20) (fun k => (((a / 2 ^ k : Nat) : Int), ((b / 2 ^ k : Nat) : Int), ((((a ^^^ b) % 2 ^ k : Nat)) : Int), ((2 ^ k : Nat) : Int), ((k : Nat) : Int))) 32 (((a / 2 ^ 32 : Nat) : Int), ((b / 2 ^ 32 : Nat) : Int), ((((a ^^^ b) % 2 ^ 32 : Nat)) : Int), ((2 ^ 32 : Nat) : Int), ((32 : Nat) : Int)) (s0 := (((a : Nat) : Int), ((b : Nat) : Int), 0, 1, 0)) (by simp [Nat.mod_one]) (by omega) (fun k hk => by
    have ha : a / 2 ^ k ≤ a := Nat.div_le_self _ _
    have hb : b / 2 ^ k ≤ b := Nat.div_le_self _ _
    have hp : 2 ^ k ≤ 2 ^ 31 := Nat.pow_le_pow_right (by decide) (by omega)
    have hm : (a ^^^ b) % 2 ^ k < 2 ^ k := Nat.mod_lt _ (Nat.pow_pos (by decide))
    have hx : (a ^^^ b) % 2 ^ (k + 1) = (a ^^^ b) % 2 ^ k + 2 ^ k * ((a ^^^ b) / 2 ^ k % 2) := by rw [Nat.pow_succ, Nat.mod_mul]
    have hda : IntKind.i64.wrap ((((a / 2 ^ k : Nat)) : Int).tdiv 2) = ((a / 2 ^ (k + 1) : Nat) : Int) := by
      rw [tdiv2 (Nat.lt_of_le_of_lt (Nat.div_le_self _ _) (by omega)), Nat.pow_succ, ← Nat.div_div_eq_div_mul]
    have hdb : IntKind.i64.wrap ((((b / 2 ^ k : Nat)) : Int).tdiv 2) = ((b / 2 ^ (k + 1) : Nat) : Int) := by
      rw [tdiv2 (Nat.lt_of_le_of_lt (Nat.div_le_self _ _) (by omega)), Nat.pow_succ, ← Nat.div_div_eq_div_mul]
    have hma : (((a / 2 ^ k : Nat)) : Int).tmod 2 = ((a / 2 ^ k % 2 : Nat) : Int) := tmod2 _
    have hmb : (((b / 2 ^ k : Nat)) : Int).tmod 2 = ((b / 2 ^ k % 2 : Nat) : Int) := tmod2 _
    have h2 : IntKind.i64.wrap (2 * ((2 ^ k : Nat) : Int)) = ((2 ^ (k + 1) : Nat) : Int) := by
      rw [w64i (by omega) (by omega), Nat.pow_succ]; omega
    have hk1 : IntKind.i64.wrap (((k : Nat) : Int) + 1) = (((k + 1 : Nat)) : Int) := by rw [w64i (by omega) (by omega)]; omega
    unfold ref07_turned_b20
    simp only [decide_eq_true (show ((k : Nat) : Int) < 32 by omega), cond_true, hda, hdb, hma, hmb, h2, hk1]
    have hbit := xor_bit a b k
    by_cases hc : a / 2 ^ k % 2 = b / 2 ^ k % 2
    · rw [if_pos hc] at hbit
      rw [hbit, Nat.mul_zero, Nat.add_zero] at hx
      rw [decide_eq_true (show ((a / 2 ^ k % 2 : Nat) : Int) = ((b / 2 ^ k % 2 : Nat) : Int) by omega), hx]
      rfl
    · rw [if_neg hc] at hbit
      rw [hbit, Nat.mul_one] at hx
      rw [decide_eq_false (show ¬ ((a / 2 ^ k % 2 : Nat) : Int) = ((b / 2 ^ k % 2 : Nat) : Int) by omega), hx]
      simp only [Bool.not_false, cond_true]
      rw [w64i (x := _ + _) (by omega) (by omega)]
      rw [← Int.natCast_add]) (by
    unfold ref07_turned_b20
    simp only [show decide (((32 : Nat) : Int) < 32) = false from rfl, cond_false])
  unfold ref07_turned
  rw [e, aft_some_nxt]
  have : a ^^^ b < 2 ^ 32 := Nat.xor_lt_two_pow (by simpa using h0) (by simpa using h1)
  rw [Nat.mod_eq_of_lt this]
theorem ref07_Sum_eq {a : Nat} (h : a < 281474976710656) : ref07_Sum ((a : Nat) : Int) = some ((sumH a : Nat) : Int) := by
  unfold ref07_Sum
  rw [ref01_Bytes_eq h, Option.bind_some]
  have hl : (bys a 6).length = 6 := rfl
  have hb := bys_lt a 6
  unfold sumH
  generalize bys a 6 = l at hl hb
  have e := ref_loop stepH_cast stepH_lt (fun a b => turned_eq) (z := 2166136261) (by decide) hl hb
  rw [show ((2166136261 : Nat) : Int) = (2166136261 : Int) from rfl] at e
  rw [e, aft_some_nxt]

/-! Buckets. -/
def Num (n : Int) : Prop := n = 1 ∨ n = 2 ∨ n = 4 ∨ n = 8 ∨ n = 16
instance (n : Int) : Decidable (Num n) := by unfold Num; infer_instance
theorem isNumber_eq (n : Int) : hash_isNumber n = some (decide (Num n)) := by
  unfold hash_isNumber
  by_cases h1 : 1 ≤ n
  · by_cases h2 : n ≤ 16
    · have : n = 1 ∨ n = 2 ∨ n = 3 ∨ n = 4 ∨ n = 5 ∨ n = 6 ∨ n = 7 ∨ n = 8 ∨ n = 9 ∨ n = 10 ∨ n = 11 ∨ n = 12 ∨ n = 13 ∨ n = 14 ∨ n = 15 ∨ n = 16 := by omega
      rcases this with h | h | h | h | h | h | h | h | h | h | h | h | h | h | h | h <;> subst h <;> decide
    · have : ¬ Num n := by unfold Num; omega
      simp [h1, h2, this]
  · have : ¬ Num n := by unfold Num; omega
    simp [h1, this]
theorem refNumber_eq (n : Int) : ref07_Number n = some (decide (Num n)) := by
  unfold ref07_Number Num
  by_cases h1 : n = 1 <;> by_cases h2 : n = 2 <;> by_cases h3 : n = 4 <;> by_cases h4 : n = 8 <;> by_cases h5 : n = 16 <;> simp [h1, h2, h3, h4, h5]
/-- The bucket of an address (told so that nobody counts it out). -/
noncomputable def bkt (a n : Nat) : Nat := Classical.choose (⟨sumH a % n, rfl⟩ : ∃ r, r = sumH a % n)
theorem bkt_eq (a n : Nat) : bkt a n = sumH a % n := Classical.choose_spec (⟨sumH a % n, rfl⟩ : ∃ r, r = sumH a % n)
theorem bit_and_lo {s n : Nat} (hs : s < 4294967296) (hn : Num (n : Int)) : bitI .and .i64 ((s : Nat) : Int) (IntKind.i64.wrap ((n : Int) - 1)) = ((s % n : Nat) : Int) := by
  have hpos : 1 ≤ n ∧ n ≤ 16 := by unfold Num at hn; omega
  rw [w64i (by omega) (by omega), show ((n : Int) - 1) = ((n - 1 : Nat) : Int) by omega]
  show IntKind.i64.wrap (((BitVec.ofInt 64 (s : Int) &&& BitVec.ofInt 64 (((n - 1 : Nat)) : Int)).toNat : Nat) : Int) = _
  rw [BitVec.toNat_and, bv_nat (by omega) (by omega), bv_nat (by omega) (by omega), Int.toNat_natCast, Int.toNat_natCast]
  have e : s &&& (n - 1) = s % n := by
    unfold Num at hn
    have : n = 1 ∨ n = 2 ∨ n = 4 ∨ n = 8 ∨ n = 16 := by omega
    rcases this with h | h | h | h | h <;> subst h
    · exact Nat.and_two_pow_sub_one_eq_mod s 0
    · exact Nat.and_two_pow_sub_one_eq_mod s 1
    · exact Nat.and_two_pow_sub_one_eq_mod s 2
    · exact Nat.and_two_pow_sub_one_eq_mod s 3
    · exact Nat.and_two_pow_sub_one_eq_mod s 4
  have hm : s % n < n := Nat.mod_lt _ (by omega)
  rw [e, w64i (by omega) (by omega)]
theorem hash_Bucket_eq {a n : Nat} (h : a < 281474976710656) (hn : Num (n : Int)) : hash_Bucket ((a : Nat) : Int) ((n : Nat) : Int) = some (((bkt a n : Nat) : Int), 0) := by
  unfold hash_Bucket
  rw [isNumber_eq, decide_eq_true hn, hash_Sum_eq h]
  simp only [Option.bind_some, Bool.not_true, cond_false]
  rw [bit_and_lo (sumH_lt a) hn, bkt_eq]
theorem hash_Bucket_bad (a : Int) {n : Int} (hn : ¬ Num n) : hash_Bucket a n = some (0, 2) := by
  unfold hash_Bucket
  rw [isNumber_eq, decide_eq_false hn]; rfl
theorem ref07_Bucket_eq {a n : Nat} (h : a < 281474976710656) (hn : Num (n : Int)) : ref07_Bucket ((a : Nat) : Int) ((n : Nat) : Int) = some ((bkt a n : Nat) : Int) := by
  have hpos : 1 ≤ n ∧ n ≤ 16 := by unfold Num at hn; omega
  unfold ref07_Bucket
  rw [ref07_Sum_eq h, Option.bind_some, grd_true (show ((n : Nat) : Int) ≠ 0 by omega), Int.tmod_eq_emod_of_nonneg (by omega)]
  rw [bkt_eq, Int.natCast_emod]
theorem bkt_lt (a : Nat) {n : Nat} (hn : Num (n : Int)) : bkt a n < n := by
  rw [bkt_eq]; exact Nat.mod_lt _ (by unfold Num at hn; omega)

/-! Classes. -/
theorem fin_eq (n a b : Int) : fdb_in n a b = some (decide (a ≤ n ∧ n ≤ b)) := by
  unfold fdb_in
  by_cases h : a ≤ n <;> simp [h]
/-- A station's address. -/
def Uni (a : Int) : Prop := 0 ≤ a ∧ a < 281474976710656 ∧ a / 16 ≠ 103282638848 ∧ a / 1099511627776 % 2 = 0
instance (a : Int) : Decidable (Uni a) := by unfold Uni; infer_instance
theorem macRight_eq (a : Int) : mac_Right a = some (decide (0 ≤ a ∧ a < 281474976710656)) := by
  unfold mac_Right
  by_cases h : 0 ≤ a
  · by_cases h2 : a < 281474976710656
    · have : a ≤ 281474976710655 := by omega
      simp [h, h2, this]
    · have : ¬ a ≤ 281474976710655 := by omega
      simp [h, h2, this]
  · simp [h]
theorem isMac_eq (a : Int) : fdb_isMac a = some (decide (Uni a)) := by
  unfold fdb_isMac mac_Class
  rw [macRight_eq, Option.bind_some]
  by_cases h : 0 ≤ a ∧ a < 281474976710656
  · rw [decide_eq_true h, bit_andNot15 h.1 h.2, bit_and1 h.1 h.2]
    by_cases h2 : a / 16 = 103282638848
    · have : ¬ Uni a := fun hu => hu.2.2.1 h2
      simp [h2, this]
    · have h3 : ¬ a / 16 * 16 = 1652522221568 := by omega
      have : Uni a ↔ a / 1099511627776 % 2 = 0 := ⟨fun hu => hu.2.2.2, fun h4 => ⟨h.1, h.2, h2, h4⟩⟩
      by_cases h4 : a / 1099511627776 % 2 = 0
      · simp [h3, this, h4]
      · simp [h3, this, h4]
  · have : ¬ Uni a := fun hu => h ⟨hu.1, hu.2.1⟩
    rw [decide_eq_false h, decide_eq_false this]; rfl
theorem refMac_eq (a : Int) : ref08_Mac a = some (decide (Uni a)) := by
  unfold ref08_Mac ref01_Right ref01_Class
  by_cases hr : 0 ≤ a ∧ a < 281474976710656
  · rw [decide_eq_true hr.1, decide_eq_true hr.2, Int.tdiv_eq_ediv_of_nonneg hr.1, Int.tdiv_eq_ediv_of_nonneg hr.1, w64_in (by omega) (by omega), w64_in (by omega) (by omega), Int.tmod_eq_emod_of_nonneg (by omega)]
    simp only [cond_true, Option.bind_some]
    by_cases h1 : a / 16 = 103282638848
    · have : ¬ Uni a := fun hu => hu.2.2.1 h1
      simp [h1, this, gd]
    · by_cases h2 : a / 1099511627776 % 2 = 1
      · have : ¬ Uni a := fun hu => by have := hu.2.2.2; omega
        simp [h1, h2, this, gd]
      · have : Uni a := ⟨hr.1, hr.2, h1, by omega⟩
        simp [h1, h2, this, gd]
  · have : ¬ Uni a := fun hu => hr ⟨hu.1, hu.2.1⟩
    by_cases h1 : 0 ≤ a
    · have h2 : ¬ a < 281474976710656 := fun h => hr ⟨h1, h⟩
      simp [h1, h2, this, gd]
    · simp [h1, this, gd]
theorem isPort_eq (a : Int) : fdb_isPort a = some (decide (0 ≤ a ∧ a ≤ 7)) := by unfold fdb_isPort; rw [fin_eq]; rfl
theorem isTime_eq (a : Int) : fdb_isTime a = some (decide (0 ≤ a ∧ a ≤ 1099511627776)) := by unfold fdb_isTime; rw [fin_eq]; rfl
theorem refPort_eq (a : Int) : ref08_Port a = some (decide (0 ≤ a ∧ a ≤ 7)) := by
  unfold ref08_Port
  by_cases h : 0 ≤ a <;> simp [h]
theorem refTime_eq (a : Int) : ref08_Time a = some (decide (0 ≤ a ∧ a ≤ 1099511627776)) := by
  unfold ref08_Time
  by_cases h : 0 ≤ a <;> simp [h]
def Szs (n slots age : Int) : Prop := Num n ∧ (1 ≤ slots ∧ slots ≤ 4) ∧ (1 ≤ age ∧ age ≤ 1048576)
instance (n slots age : Int) : Decidable (Szs n slots age) := by unfold Szs; infer_instance
theorem sizes_eq (n slots age : Int) : fdb_sizes n slots age = some (decide (Szs n slots age)) := by
  unfold fdb_sizes
  by_cases hn : Num n
  · obtain ⟨m, rfl⟩ : ∃ m : Nat, n = (m : Int) := ⟨n.toNat, by unfold Num at hn; omega⟩
    rw [show (0 : Int) = ((0 : Nat) : Int) from rfl, hash_Bucket_eq (a := 0) (by omega) hn]
    simp only [Option.bind_some, fin_eq, gd_some]
    have : Szs (m : Int) slots age ↔ (1 ≤ slots ∧ slots ≤ 4) ∧ (1 ≤ age ∧ age ≤ 1048576) := ⟨fun h => h.2, fun h => ⟨hn, h⟩⟩
    by_cases h1 : 1 ≤ slots ∧ slots ≤ 4 <;> by_cases h2 : 1 ≤ age ∧ age ≤ 1048576 <;> simp [this, h1, h2]
  · have : ¬ Szs n slots age := fun h => hn h.1
    rw [hash_Bucket_bad _ hn, decide_eq_false this]
    rfl
theorem refSizes_eq (n slots age : Int) : ref08_Sizes n slots age = some (decide (Szs n slots age)) := by
  unfold ref08_Sizes
  rw [refNumber_eq, Option.bind_some]
  unfold Szs
  by_cases hn : Num n <;> by_cases h1 : 1 ≤ slots <;> by_cases h2 : slots ≤ 4 <;> by_cases h3 : 1 ≤ age <;> by_cases h4 : age ≤ 1048576 <;> simp [hn, h1, h2, h3, h4]
end Go.RX
