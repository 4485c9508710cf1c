/- (without the document) Addresses, their bytes and sums, plainly. -/
import Derived.Test.YtknjenjjhdhemaaUb
import Derived.Test.YtknjenjjhdhemaaMG

import Derived.KernelRfl
set_option linter.unusedVariables false
set_option linter.unusedSimpArgs false
namespace Go.RX
section
set_option maxHeartbeats 1000000

theorem w64i {x : Int} (h : -9223372036854775808 ≤ x) (h' : x ≤ 9223372036854775807) : IntKind.i64.wrap x = x := w64_in h h'
theorem u8_wrap (x : Int) : IntKind.u8.wrap x = x % 256 := rfl
theorem u32_wrap (x : Int) : IntKind.u32.wrap x = x % 4294967296 := rfl
theorem bit_xor32 {a b : Nat} (h0 : a < 4294967296) (h1 : b < 4294967296) : bitI .xor .u32 ((a : Nat) : Int) ((b : Nat) : Int) = (((a ^^^ b : Nat)) : Int) := by
  show IntKind.u32.wrap (((BitVec.ofInt 32 (a : Int) ^^^ BitVec.ofInt 32 (b : Int)).toNat : Nat) : Int) = _
  have e : ∀ x : Nat, x < 4294967296 → (BitVec.ofInt 32 (x : Int)).toNat = x := fun x hx => by
    rw [BitVec.toNat_ofInt]
    have : (x : Int) % ((2 ^ 32 : Nat) : Int) = x := Int.emod_eq_of_lt (by omega) (by simpa using (by omega : (x : Int) < 4294967296))
    rw [this]; rfl
  rw [BitVec.toNat_xor, e a h0, e b h1, u32_wrap]
  have : a ^^^ b < 2 ^ 32 := Nat.xor_lt_two_pow (by simpa using h0) (by simpa using h1)
  exact Int.emod_eq_of_lt (by omega) (by omega)

/-- One byte of an address: the k-th from below. -/
def byt (a k : Nat) : Nat := a / 256 ^ k % 256
/-- The lowest k bytes, the highest first. -/
def bys (a : Nat) : Nat → List Nat
  | 0 => []
  | k + 1 => byt a k :: bys a k
def btA (l : List Nat) : ByteArray := ⟨(l.map UInt8.ofNat).toArray⟩
theorem bys_lt (a : Nat) : ∀ k, ∀ x ∈ bys a k, x < 256
  | 0, x, h => by cases h
  | k + 1, x, h => by
    rcases List.mem_cons.1 h with rfl | h
    · exact Nat.mod_lt _ (by decide)
    · exact bys_lt a k x h
theorem strP_nat {l : List Nat} (h : ∀ x ∈ l, x < 256) : strP (l.map fun x => ((x : Nat) : Int)) = some (btA l) := by
  unfold strP
  have : ((l.map fun x => ((x : Nat) : Int)).all fun x => decide (0 ≤ x) && decide (x < 256)) = true := by
    rw [List.all_eq_true]
    intro x hx
    obtain ⟨y, hy, rfl⟩ := List.mem_map.1 hx
    have := h y hy
    simp; omega
  rw [if_pos this]
  unfold btA
  rw [List.map_map]
  rfl
theorem btA_size (l : List Nat) : (btA l).size = l.length := by
  show ((l.map UInt8.ofNat).toArray).size = _
  simp
theorem btA_get {l : List Nat} (h : ∀ x ∈ l, x < 256) {i x : Nat} (hx : l[i]? = some x) : ∃ v : UInt8, gixS (btA l) ((i : Nat) : Int) = some v ∧ v.toNat = x := by
  have hi := (List.getElem?_eq_some_iff.1 hx).1
  have hs : i < (btA l).size := by rw [btA_size]; exact hi
  refine ⟨(btA l)[i], ?_, ?_⟩
  · unfold gixS
    rw [if_pos (by omega), Int.toNat_natCast]
    exact getElem?_pos (btA l) i hs
  · have e : (btA l)[i] = UInt8.ofNat x := by
      obtain ⟨_, h2⟩ := List.getElem?_eq_some_iff.1 hx
      exact (by simp [h2] : (l.map UInt8.ofNat)[i]'(by simpa using hi) = UInt8.ofNat x)
    rw [e]
    have := h x (List.mem_of_getElem? hx)
    simp; omega
theorem mac_Bytes_eq {a : Nat} (h : a < 281474976710656) : mac_Bytes ((a : Nat) : Int) = some (btA (bys a 6), 0) := by
  have hr : mac_Right ((a : Nat) : Int) = some true := by
    unfold mac_Right
    rw [decide_eq_true (show (0 : Int) ≤ (a : Int) by omega), decide_eq_true (show (a : Int) ≤ 281474976710655 by omega)]; rfl
  have fd : ∀ n : Nat, (((a : Nat) : Int)).fdiv (2 ^ n) % 256 = (((a / 2 ^ n % 256 : Nat)) : Int) := fun n => by
    rw [Int.fdiv_eq_ediv_of_nonneg _ (Int.pow_nonneg (by decide)), Int.natCast_emod, Int.natCast_ediv, Int.natCast_pow]; rfl
  have e := rangeN_up (body := mac_Bytes_c0 ((a : Nat) : Int)) (n := 6) (s0 := [0, 0, 0, 0, 0, 0]) (by omega)
    (fun k => match k with
      | 0 => [0, 0, 0, 0, 0, 0]
      | 1 => [((byt a 5 : Nat) : Int), 0, 0, 0, 0, 0]
      | 2 => [((byt a 5 : Nat) : Int), ((byt a 4 : Nat) : Int), 0, 0, 0, 0]
      | 3 => [((byt a 5 : Nat) : Int), ((byt a 4 : Nat) : Int), ((byt a 3 : Nat) : Int), 0, 0, 0]
      | 4 => [((byt a 5 : Nat) : Int), ((byt a 4 : Nat) : Int), ((byt a 3 : Nat) : Int), ((byt a 2 : Nat) : Int), 0, 0]
      | 5 => [((byt a 5 : Nat) : Int), ((byt a 4 : Nat) : Int), ((byt a 3 : Nat) : Int), ((byt a 2 : Nat) : Int), ((byt a 1 : Nat) : Int), 0]
      | _ => [((byt a 5 : Nat) : Int), ((byt a 4 : Nat) : Int), ((byt a 3 : Nat) : Int), ((byt a 2 : Nat) : Int), ((byt a 1 : Nat) : Int), ((byt a 0 : Nat) : Int)]) rfl (fun k hk => by
      have : k = 0 ∨ k = 1 ∨ k = 2 ∨ k = 3 ∨ k = 4 ∨ k = 5 := by omega
      rcases this with rfl | rfl | rfl | rfl | rfl | rfl <;> unfold mac_Bytes_c0
      · rw [grd_true (by decide), grd_true (by decide), u8_wrap, show min (IntKind.i64.wrap (8 * IntKind.i64.wrap (5 - ((0 : Nat) : Int)))).toNat 64 = 40 by decide, fd]; rfl
      · rw [grd_true (by decide), grd_true (by decide), u8_wrap, show min (IntKind.i64.wrap (8 * IntKind.i64.wrap (5 - ((1 : Nat) : Int)))).toNat 64 = 32 by decide, fd]; rfl
      · rw [grd_true (by decide), grd_true (by decide), u8_wrap, show min (IntKind.i64.wrap (8 * IntKind.i64.wrap (5 - ((2 : Nat) : Int)))).toNat 64 = 24 by decide, fd]; rfl
      · rw [grd_true (by decide), grd_true (by decide), u8_wrap, show min (IntKind.i64.wrap (8 * IntKind.i64.wrap (5 - ((3 : Nat) : Int)))).toNat 64 = 16 by decide, fd]; rfl
      · rw [grd_true (by decide), grd_true (by decide), u8_wrap, show min (IntKind.i64.wrap (8 * IntKind.i64.wrap (5 - ((4 : Nat) : Int)))).toNat 64 = 8 by decide, fd]; rfl
      · rw [grd_true (by decide), grd_true (by decide), u8_wrap, show min (IntKind.i64.wrap (8 * IntKind.i64.wrap (5 - ((5 : Nat) : Int)))).toNat 64 = 0 by decide, fd]; rfl)
  unfold mac_Bytes
  rw [hr]
  simp only [Option.bind_some, Bool.not_true, cond_false]
  rw [show rangeN (mac_Bytes_c0 ((a : Nat) : Int)) 6 [0, 0, 0, 0, 0, 0] = some (.nxt [((byt a 5 : Nat) : Int), ((byt a 4 : Nat) : Int), ((byt a 3 : Nat) : Int), ((byt a 2 : Nat) : Int), ((byt a 1 : Nat) : Int), ((byt a 0 : Nat) : Int)]) from e, aft_some_nxt, grd_true (by rfl)]
  have := strP_nat (bys_lt a 6)
  rw [show strP [((byt a 5 : Nat) : Int), ((byt a 4 : Nat) : Int), ((byt a 3 : Nat) : Int), ((byt a 2 : Nat) : Int), ((byt a 1 : Nat) : Int), ((byt a 0 : Nat) : Int)] = _ from this]
  rfl
/-- A step of a sum. -/
def stepH (h b : Nat) : Nat := (h ^^^ b) * 16777619 % 4294967296
theorem stepH_cast (h b : Nat) : ((h ^^^ b : Nat) : Int) * 16777619 % 4294967296 = ((stepH h b : Nat) : Int) := by
  unfold stepH
  generalize h ^^^ b = y
  omega
theorem tdiv256 {q : Nat} (h : q < 9223372036854775808) : IntKind.i64.wrap (((q : Nat) : Int).tdiv 256) = ((q / 256 : Nat) : Int) := by
  rw [Int.tdiv_eq_ediv_of_nonneg (by omega), w64i (by omega) (by omega)]; omega
theorem tdiv2 {q : Nat} (h : q < 9223372036854775808) : IntKind.i64.wrap (((q : Nat) : Int).tdiv 2) = ((q / 2 : Nat) : Int) := by
  rw [Int.tdiv_eq_ediv_of_nonneg (by omega), w64i (by omega) (by omega)]; omega
theorem tmod256 (q : Nat) : IntKind.u8.wrap (((q : Nat) : Int).tmod 256) = ((q % 256 : Nat) : Int) := by
  rw [u8_wrap, Int.tmod_eq_emod_of_nonneg (by omega)]; omega
theorem tmod2 (q : Nat) : ((q : Nat) : Int).tmod 2 = ((q % 2 : Nat) : Int) := by
  rw [Int.tmod_eq_emod_of_nonneg (by omega)]; omega
def sumH (a : Nat) : Nat := (bys a 6).foldl stepH 2166136261
theorem stepH_lt (h b : Nat) : stepH h b < 4294967296 := Nat.mod_lt _ (by decide)
theorem foldH_lt : ∀ (l : List Nat) (h : Nat), h < 4294967296 → l.foldl stepH h < 4294967296
  | [], h, hh => hh
  | b :: l, h, hh => foldH_lt l _ (stepH_lt h b)
theorem sumH_lt (a : Nat) : sumH a < 4294967296 := foldH_lt _ _ (by decide)
theorem foldF_lt {f : Nat → Nat → Nat} (hf : ∀ h b, f h b < 4294967296) : ∀ (l : List Nat) (h : Nat), h < 4294967296 → l.foldl f h < 4294967296
  | [], h, hh => hh
  | b :: l, h, hh => foldF_lt hf l _ (hf h b)
theorem hash_loop {f : Nat → Nat → Nat} (hf : ∀ h b, ((h ^^^ b : Nat) : Int) * 16777619 % 4294967296 = ((f h b : Nat) : Int)) (hf2 : ∀ h b, f h b < 4294967296) {z : Nat} (hz : z < 4294967296) {l : List Nat} (hl : l.length = 6) (hb : ∀ x ∈ l, x < 256) :
    rangeN (hash_Sum_c0 (btA l, 0)) ((6 : Nat) : Int) ((z : Nat) : Int) = some (.nxt ((l.foldl f z : Nat) : Int)) := by
  have e := rangeN_up (body := hash_Sum_c0 (btA l, 0)) (n := ((6 : Nat) : Int)) (s0 := ((z : Nat) : Int)) (by omega) (fun k => (((l.take k).foldl f z : Nat) : Int)) rfl (fun k hk => by
    have hk' : k < l.length := by rw [hl]; omega
    obtain ⟨v, h1, h2⟩ := btA_get hb (List.getElem?_eq_getElem hk')
    have hbk := hb _ (List.getElem_mem hk')
    have hp := foldF_lt hf2 (l.take k) z hz
    unfold hash_Sum_c0
    simp only [h1, Option.bind_some, h2]
    rw [u32_wrap ((l[k] : Nat) : Int), Int.emod_eq_of_lt (by omega) (by omega), bit_xor32 hp (by omega), u32_wrap, List.take_succ_eq_append_getElem hk', List.foldl_append]
    simp only [List.foldl_cons, List.foldl_nil]
    rw [hf])
  rw [e, Int.toNat_natCast, List.take_of_length_le (by omega)]
theorem hash_Sum_eq {a : Nat} (h : a < 281474976710656) : hash_Sum ((a : Nat) : Int) = some (((sumH a : Nat) : Int), 0) := by
  unfold hash_Sum
  rw [mac_Bytes_eq h]
  simp only [Option.bind_some, decide_true, Bool.not_true, cond_false, btA_size]
  have hl : (bys a 6).length = 6 := rfl
  have hb := bys_lt a 6
  have hs := sumH_lt a
  unfold sumH at hs ⊢
  generalize bys a 6 = l at hl hb hs
  have e := hash_loop stepH_cast stepH_lt (z := 2166136261) (by decide) hl hb
  rw [hl]
  rw [show ((2166136261 : Nat) : Int) = (2166136261 : Int) from rfl] at e
  rw [e, aft_some_nxt, w64i (by omega) (by omega)]

theorem xor_bit (a b k : Nat) : (a ^^^ b) / 2 ^ k % 2 = if a / 2 ^ k % 2 = b / 2 ^ k % 2 then 0 else 1 := by
  have h := Nat.testBit_xor a b k
  simp only [Nat.testBit_eq_decide_div_mod_eq] at h
  have h1 : (a ^^^ b) / 2 ^ k % 2 < 2 := Nat.mod_lt _ (by decide)
  have h2 : a / 2 ^ k % 2 < 2 := Nat.mod_lt _ (by decide)
  have h3 : b / 2 ^ k % 2 < 2 := Nat.mod_lt _ (by decide)
  generalize (a ^^^ b) / 2 ^ k % 2 = x at h h1
  generalize a / 2 ^ k % 2 = y at h h2
  generalize b / 2 ^ k % 2 = z at h h3
  have e1 : y = 0 ∨ y = 1 := by omega
  have e2 : z = 0 ∨ z = 1 := by omega
  have e3 : x = 0 ∨ x = 1 := by omega
  rcases e1 with rfl | rfl <;> rcases e2 with rfl | rfl <;> rcases e3 with rfl | rfl <;> simp at h ⊢
/-! Buckets. -/
def Num (n : Int) : Prop := n = 1 ∨ n = 2 ∨ n = 4 ∨ n = 8 ∨ n = 16
instance (n : Int) : Decidable (Num n) := by unfold Num; infer_instance
theorem isNumber_eq (n : Int) : hash_isNumber n = some (decide (Num n)) := by
  unfold hash_isNumber
  by_cases h1 : 1 ≤ n
  · by_cases h2 : n ≤ 16
    · have : n = 1 ∨ n = 2 ∨ n = 3 ∨ n = 4 ∨ n = 5 ∨ n = 6 ∨ n = 7 ∨ n = 8 ∨ n = 9 ∨ n = 10 ∨ n = 11 ∨ n = 12 ∨ n = 13 ∨ n = 14 ∨ n = 15 ∨ n = 16 := by omega
      rcases this with h | h | h | h | h | h | h | h | h | h | h | h | h | h | h | h <;> subst h <;> decide
    · have : ¬ Num n := by unfold Num; omega
      simp [h1, h2, this]
  · have : ¬ Num n := by unfold Num; omega
    simp [h1, this]
/-- The bucket of an address (told so that nobody counts it out). -/
noncomputable def bkt (a n : Nat) : Nat := Classical.choose (⟨sumH a % n, rfl⟩ : ∃ r, r = sumH a % n)
theorem bkt_eq (a n : Nat) : bkt a n = sumH a % n := Classical.choose_spec (⟨sumH a % n, rfl⟩ : ∃ r, r = sumH a % n)
theorem bit_and_lo {s n : Nat} (hs : s < 4294967296) (hn : Num (n : Int)) : bitI .and .i64 ((s : Nat) : Int) (IntKind.i64.wrap ((n : Int) - 1)) = ((s % n : Nat) : Int) := by
  have hpos : 1 ≤ n ∧ n ≤ 16 := by unfold Num at hn; omega
  rw [w64i (by omega) (by omega), show ((n : Int) - 1) = ((n - 1 : Nat) : Int) by omega]
  show IntKind.i64.wrap (((BitVec.ofInt 64 (s : Int) &&& BitVec.ofInt 64 (((n - 1 : Nat)) : Int)).toNat : Nat) : Int) = _
  rw [BitVec.toNat_and, bv_nat (by omega) (by omega), bv_nat (by omega) (by omega), Int.toNat_natCast, Int.toNat_natCast]
  have e : s &&& (n - 1) = s % n := by
    unfold Num at hn
    have : n = 1 ∨ n = 2 ∨ n = 4 ∨ n = 8 ∨ n = 16 := by omega
    rcases this with h | h | h | h | h <;> subst h
    · exact Nat.and_two_pow_sub_one_eq_mod s 0
    · exact Nat.and_two_pow_sub_one_eq_mod s 1
    · exact Nat.and_two_pow_sub_one_eq_mod s 2
    · exact Nat.and_two_pow_sub_one_eq_mod s 3
    · exact Nat.and_two_pow_sub_one_eq_mod s 4
  have hm : s % n < n := Nat.mod_lt _ (by omega)
  rw [e, w64i (by omega) (by omega)]
theorem hash_Bucket_eq {a n : Nat} (h : a < 281474976710656) (hn : Num (n : Int)) : hash_Bucket ((a : Nat) : Int) ((n : Nat) : Int) = some (((bkt a n : Nat) : Int), 0) := by
  unfold hash_Bucket
  rw [isNumber_eq, decide_eq_true hn, hash_Sum_eq h]
  simp only [Option.bind_some, Bool.not_true, cond_false]
  rw [bit_and_lo (sumH_lt a) hn, bkt_eq]
theorem hash_Bucket_bad (a : Int) {n : Int} (hn : ¬ Num n) : hash_Bucket a n = some (0, 2) := by
  unfold hash_Bucket
  rw [isNumber_eq, decide_eq_false hn]; rfl
theorem bkt_lt (a : Nat) {n : Nat} (hn : Num (n : Int)) : bkt a n < n := by
  rw [bkt_eq]; exact Nat.mod_lt _ (by unfold Num at hn; omega)

/-! Classes. -/
theorem fin_eq (n a b : Int) : fdb_in n a b = some (decide (a ≤ n ∧ n ≤ b)) := by
  unfold fdb_in
  by_cases h : a ≤ n <;> simp [h]
/-- A station's address. -/
def Uni (a : Int) : Prop := 0 ≤ a ∧ a < 281474976710656 ∧ a / 16 ≠ 103282638848 ∧ a / 1099511627776 % 2 = 0
instance (a : Int) : Decidable (Uni a) := by unfold Uni; infer_instance
theorem macRight_eq (a : Int) : mac_Right a = some (decide (0 ≤ a ∧ a < 281474976710656)) := by
  unfold mac_Right
  by_cases h : 0 ≤ a
  · by_cases h2 : a < 281474976710656
    · have : a ≤ 281474976710655 := by omega
      simp [h, h2, this]
    · have : ¬ a ≤ 281474976710655 := by omega
      simp [h, h2, this]
  · simp [h]
theorem isMac_eq (a : Int) : fdb_isMac a = some (decide (Uni a)) := by
  unfold fdb_isMac mac_Class
  rw [macRight_eq, Option.bind_some]
  by_cases h : 0 ≤ a ∧ a < 281474976710656
  · rw [decide_eq_true h, bit_andNot15 h.1 h.2, bit_and1 h.1 h.2]
    by_cases h2 : a / 16 = 103282638848
    · have : ¬ Uni a := fun hu => hu.2.2.1 h2
      simp [h2, this]
    · have h3 : ¬ a / 16 * 16 = 1652522221568 := by omega
      have : Uni a ↔ a / 1099511627776 % 2 = 0 := ⟨fun hu => hu.2.2.2, fun h4 => ⟨h.1, h.2, h2, h4⟩⟩
      by_cases h4 : a / 1099511627776 % 2 = 0
      · simp [h3, this, h4]
      · simp [h3, this, h4]
  · have : ¬ Uni a := fun hu => h ⟨hu.1, hu.2.1⟩
    rw [decide_eq_false h, decide_eq_false this]; rfl
theorem isPort_eq (a : Int) : fdb_isPort a = some (decide (0 ≤ a ∧ a ≤ 7)) := by unfold fdb_isPort; rw [fin_eq]; rfl
theorem isTime_eq (a : Int) : fdb_isTime a = some (decide (0 ≤ a ∧ a ≤ 1099511627776)) := by unfold fdb_isTime; rw [fin_eq]; rfl
def Szs (n slots age : Int) : Prop := Num n ∧ (1 ≤ slots ∧ slots ≤ 4) ∧ (1 ≤ age ∧ age ≤ 1048576)
instance (n slots age : Int) : Decidable (Szs n slots age) := by unfold Szs; infer_instance
theorem sizes_eq (n slots age : Int) : fdb_sizes n slots age = some (decide (Szs n slots age)) := by
  unfold fdb_sizes
  by_cases hn : Num n
  · obtain ⟨m, rfl⟩ : ∃ m : Nat, n = (m : Int) := ⟨n.toNat, by unfold Num at hn; omega⟩
    rw [show (0 : Int) = ((0 : Nat) : Int) from rfl, hash_Bucket_eq (a := 0) (by omega) hn]
    simp only [Option.bind_some, fin_eq, gd_some]
    have : Szs (m : Int) slots age ↔ (1 ≤ slots ∧ slots ≤ 4) ∧ (1 ≤ age ∧ age ≤ 1048576) := ⟨fun h => h.2, fun h => ⟨hn, h⟩⟩
    by_cases h1 : 1 ≤ slots ∧ slots ≤ 4 <;> by_cases h2 : 1 ≤ age ∧ age ≤ 1048576 <;> simp [this, h1, h2]
  · have : ¬ Szs n slots age := fun h => hn h.1
    rw [hash_Bucket_bad _ hn, decide_eq_false this]
    rfl
end
section
set_option maxHeartbeats 1000000

/-- A map counts what was met. -/
theorem cnt_loopR {α ρ : Type} {r0 : ρ} {body : Nat → α → List (Int × Int) → Option (Step ρ (List (Int × Int)))} {xs : List α} (hl : xs.length ≤ 1000000) (key : α → Int) (ok : α → Prop) [DecidablePred ok]
    (hs : ∀ k x m, xs[k]? = some x → 0 ≤ mget m (key x) 0 → mget m (key x) 0 ≤ 1000000 → body k x m = some (bif decide (0 < mget m (key x) 0 ∨ ¬ ok x) then .ret r0 else .nxt (mput m (key x) (mget m (key x) 0 + 1)))) :
    (((xs.map key).Nodup ∧ ∀ x ∈ xs, ok x) ∧ ∃ s, rangeL body xs [] = some (.nxt s)) ∨ (¬ ((xs.map key).Nodup ∧ ∀ x ∈ xs, ok x) ∧ rangeL body xs [] = some (.ret r0)) := by
  obtain ⟨o, h1, h2⟩ := rangeL_rec (s0 := []) (body := body) hl
    (fun k m => (((xs.take k).map key).Nodup ∧ ∀ x ∈ xs.take k, ok x) ∧ ∀ z, mget m z 0 = if z ∈ (xs.take k).map key then 1 else 0)
    (fun r => r = r0 ∧ ¬ ((xs.map key).Nodup ∧ ∀ x ∈ xs, ok x)) (fun _ => False) (by simp [mget_nil]) (fun k x m hx ⟨⟨i1, i2⟩, i3⟩ => by
      have ht : xs.take (k + 1) = xs.take k ++ [x] := by rw [List.take_add_one, hx]; rfl
      have hr : mget m (key x) 0 = 0 ∨ mget m (key x) 0 = 1 := by rw [i3]; split <;> simp
      refine ⟨_, hs k x m hx (by omega) (by omega), ?_⟩
      by_cases hb : 0 < mget m (key x) 0 ∨ ¬ ok x
      · rw [decide_eq_true hb]
        refine ⟨rfl, fun ⟨n1, n2⟩ => ?_⟩
        rcases hb with hb | hb
        · have hmem : key x ∈ (xs.take k).map key := by
            rw [i3] at hb; split at hb
            · assumption
            · omega
          have : (xs.take (k + 1)).Sublist xs := List.take_sublist _ _
          have := (this.map key).nodup n1
          rw [ht, List.map_append, List.nodup_append] at this
          exact this.2.2 _ hmem _ (by simp) rfl
        · exact hb (n2 x (List.mem_of_getElem? hx))
      · rw [decide_eq_false hb]
        have hb1 : mget m (key x) 0 = 0 := by omega
        have hb2 : ok x := Classical.not_not.1 fun h => hb (.inr h)
        have hn : key x ∉ (xs.take k).map key := fun h => by rw [i3, if_pos h] at hb1; omega
        refine ⟨⟨?_, ?_⟩, fun z => ?_⟩
        · rw [ht, List.map_append, List.nodup_append]
          exact ⟨i1, by simp, fun a ha b hb => by simp at hb; subst hb; exact fun e => hn (e ▸ ha)⟩
        · rw [ht]; intro y hy
          rcases List.mem_append.1 hy with hy | hy
          · exact i2 y hy
          · simp at hy; subst hy; exact hb2
        · rw [ht, List.map_append]
          by_cases e : key x = z
          · subst e; rw [mget_mput, hb1, if_pos (by simp)]; rfl
          · rw [mget_mput_ne e, i3]
            have : z ∈ List.map key (List.take k xs) ++ List.map key [x] ↔ z ∈ List.map key (List.take k xs) := by simp [Ne.symm e]
            simp only [this])
  cases o with
  | ret r => obtain ⟨rfl, h3⟩ := h2; exact .inr ⟨h3, h1⟩
  | brk s => exact h2.elim
  | nxt s =>
    have := h2.resolve_right id
    rw [List.take_length] at this
    exact .inl ⟨this.1, s, h1⟩

/-- An entry, a bucket, a table that may be. -/
def EOk (n b : Nat) (e : EntryT) : Prop := Uni e.Mac ∧ (0 ≤ e.Port ∧ e.Port ≤ 7) ∧ (0 ≤ e.Seen ∧ e.Seen ≤ 1099511627776) ∧ (e.Static = true → e.Seen = 0) ∧ bkt e.Mac.toNat n = b
noncomputable instance (n b : Nat) (e : EntryT) : Decidable (EOk n b e) := by unfold EOk; infer_instance
def BOk (n : Nat) (slots : Int) (b : Nat) (l : List EntryT) : Prop := ((l.map (·.Mac)).Nodup ∧ ∀ e ∈ l, EOk n b e) ∧ ((l.length : Nat) : Int) ≤ slots
noncomputable instance (n : Nat) (slots : Int) (b : Nat) (l : List EntryT) : Decidable (BOk n slots b l) := by unfold BOk; infer_instance
def TbOk (t : TableT) : Prop := Szs ((t.Buckets.length : Nat) : Int) t.Slots t.Age ∧ ∀ b l, t.Buckets[b]? = some l → BOk t.Buckets.length t.Slots b l
theorem Uni.nat {a : Int} (h : Uni a) : a = ((a.toNat : Nat) : Int) ∧ a.toNat < 281474976710656 := by
  obtain ⟨h1, h2, _⟩ := h
  omega
theorem ent_cond {n b : Nat} {e : EntryT} (hn : Num (n : Int)) :
    (fdb_isMac e.Mac = some (decide (Uni e.Mac))) ∧ (Uni e.Mac → hash_Bucket e.Mac (n : Int) = some (((bkt e.Mac.toNat n : Nat) : Int), 0)) := by
  refine ⟨isMac_eq _, fun h => ?_⟩
  · obtain ⟨h1, h2⟩ := h.nat
    rw [h1]; simp only [Int.toNat_natCast]; exact hash_Bucket_eq h2 hn
theorem Right_row {t : TableT} (hn : Num ((t.Buckets.length : Nat) : Int)) {b : Nat} {l : List EntryT} (hl : l.length ≤ 1000) :
    fdb_Right_c0 t b l () = some (bif !decide (BOk t.Buckets.length t.Slots b l) then .ret false else .nxt ()) := by
  unfold fdb_Right_c0
  rcases cnt_loopR (r0 := Step.ret false) (body := fdb_Right_c1 t b) (xs := l) (by omega) (·.Mac) (EOk t.Buckets.length b) (fun k x m hx m1 m2 => by
    obtain ⟨e1, e2⟩ := ent_cond (n := t.Buckets.length) (b := b) (e := x) hn
    unfold fdb_Right_c1
    simp only [e1, isPort_eq, isTime_eq, gd_some, Option.bind_some, w64i (x := mget m x.Mac 0 + 1) (by omega) (by omega)]
    by_cases hu : Uni x.Mac
    rotate_left
    · have : ¬ EOk t.Buckets.length b x := fun h => hu h.1
      simp [hu, this]
    by_cases hp : 0 ≤ x.Port ∧ x.Port ≤ 7
    rotate_left
    · have : ¬ EOk t.Buckets.length b x := fun h => hp h.2.1
      simp [hu, hp, this]
    by_cases hs : 0 ≤ x.Seen ∧ x.Seen ≤ 1099511627776
    rotate_left
    · have : ¬ EOk t.Buckets.length b x := fun h => hs h.2.2.1
      simp [hu, hp, hs, this]
    by_cases hst : x.Static = true → x.Seen = 0
    rotate_left
    · have : ¬ EOk t.Buckets.length b x := fun h => hst h.2.2.2.1
      have h1 : x.Static = true := Classical.byContradiction fun h => hst fun h' => absurd h' h
      have h2 : ¬ x.Seen = 0 := fun h => hst fun _ => h
      simp [hu, hp, hs, this, h1, h2]
    rw [e2 hu]
    have hst' : (bif x.Static then (!((decide True) && ((decide True) && ((decide (x.Seen = 0)) && ((x.Static == true) && true))))) else false) = false := by
      cases hx : x.Static
      · rfl
      · simp [hst hx]
    rw [hst']
    simp only [decide_eq_true hu, decide_eq_true hp, decide_eq_true hs, Bool.not_true, cond_false, cond_true, Option.bind_some]
    by_cases hb : bkt x.Mac.toNat t.Buckets.length = b
    · have : EOk t.Buckets.length b x := ⟨hu, hp, hs, hst, hb⟩
      by_cases hm : 0 < mget m x.Mac 0
      · have h1 : 1 < mget m x.Mac 0 + 1 := by omega
        simp [hb, hm, h1]
      · have h1 : ¬ 1 < mget m x.Mac 0 + 1 := by omega
        simp [hb, hm, h1, this]
    · have : ¬ EOk t.Buckets.length b x := fun h => hb h.2.2.2.2
      have h1 : ¬ ((bkt x.Mac.toNat t.Buckets.length : Nat) : Int) = (b : Int) := by omega
      simp [h1, this]) with ⟨h1, s, h2⟩ | ⟨h1, h2⟩
  · rw [h2, aft_some_nxt]
    by_cases h3 : ((l.length : Nat) : Int) ≤ t.Slots
    · have : BOk t.Buckets.length t.Slots b l := ⟨h1, h3⟩
      have h4 : ¬ t.Slots < ((l.length : Nat) : Int) := by omega
      simp [this, h4]
    · have : ¬ BOk t.Buckets.length t.Slots b l := fun h => h3 h.2
      have h4 : t.Slots < ((l.length : Nat) : Int) := by omega
      simp [this, h4]
  · have : ¬ BOk t.Buckets.length t.Slots b l := fun h => h1 h.1
    rw [h2, aft_some_ret]
    simp [this]

/-- Where an address is among entries. -/
def plc : List EntryT → Int → Int
  | [], _ => -1
  | e :: l, a => if e.Mac = a then 0 else if plc l a < 0 then -1 else plc l a + 1
theorem plc_none {a : Int} : ∀ {l : List EntryT}, (∀ e ∈ l, e.Mac ≠ a) → plc l a = -1
  | [], _ => rfl
  | e :: l, h => by
    unfold plc
    rw [if_neg (h e List.mem_cons_self), plc_none fun x hx => h x (List.mem_cons_of_mem _ hx)]
    rfl
theorem plc_at {a : Int} : ∀ {l : List EntryT} {k : Nat} {e : EntryT}, l[k]? = some e → e.Mac = a → (∀ j y, j < k → l[j]? = some y → y.Mac ≠ a) → plc l a = (k : Int)
  | [], k, e, h, _, _ => by simp at h
  | x :: l, 0, e, h, he, _ => by
    simp at h; subst h
    unfold plc; rw [if_pos he]; rfl
  | x :: l, k + 1, e, h, he, hj => by
    have hx : x.Mac ≠ a := hj 0 x (by omega) rfl
    have := plc_at (l := l) (k := k) (by simpa using h) he (fun j y hlt hy => hj (j + 1) y (by omega) (by simpa using hy))
    unfold plc
    rw [if_neg hx, this, if_neg (by omega)]
    omega
theorem find_loop {ρ : Type} {body : Nat → EntryT → Unit → Option (Step Int Unit)} {l : List EntryT} {a : Int} (hl : l.length ≤ 1000000) (hb : ∀ k x, l[k]? = some x → body k x () = some (bif decide (x.Mac = a) then .ret ((k : Nat) : Int) else .nxt ())) :
    aft (rangeL body l ()) (fun _ => some (-1)) = some (plc l a) := by
  rcases rangeL_find (s0 := ()) hl (fun _ x => decide (x.Mac = a)) (fun k _ => ((k : Nat) : Int)) hb with ⟨k, x, hx, hp, hj, h⟩ | ⟨hp, h⟩
  · rw [h, aft_some_ret, plc_at hx (by simpa using hp) (fun j y hlt hy => by simpa using hj j y hlt hy)]
  · rw [h, aft_some_nxt, plc_none fun x hx => ?_]
    obtain ⟨k, hk⟩ := List.getElem?_of_mem hx
    simpa using hp k x hk
theorem Index_eq {l : List EntryT} (hl : l.length ≤ 1000000) (a : Int) : slices_IndexFunc_Entry l (fun x => fdb_place_1 x a) = some (plc l a) :=
  find_loop (ρ := Unit) (body := slices_IndexFunc_Entry_c0 fun x => fdb_place_1 x a) hl fun k x hx => by
    simp only [slices_IndexFunc_Entry_c0, fdb_place_1, Option.bind_some]
    cases decide (x.Mac = a) <;> rfl
/-- What is found is there. -/
theorem plc_get {a : Int} : ∀ {l : List EntryT}, 0 ≤ plc l a → ∃ e, l[(plc l a).toNat]? = some e ∧ e.Mac = a
  | [], h => by simp [plc] at h
  | x :: l, h => by
    unfold plc at h ⊢
    by_cases hx : x.Mac = a
    · rw [if_pos hx]; exact ⟨x, rfl, hx⟩
    · rw [if_neg hx] at h ⊢
      by_cases hl : plc l a < 0
      · rw [if_pos hl] at h; omega
      · rw [if_neg hl] at h ⊢
        obtain ⟨e, h1, h2⟩ := plc_get (l := l) (a := a) (by omega)
        refine ⟨e, ?_, h2⟩
        rw [show (plc l a + 1).toNat = (plc l a).toNat + 1 by omega]
        simpa using h1
theorem plc_mem {l : List EntryT} {a : Int} : 0 ≤ plc l a ↔ a ∈ l.map (·.Mac) := by
  constructor
  · intro h
    obtain ⟨e, h1, h2⟩ := plc_get h
    exact List.mem_map.2 ⟨e, List.mem_of_getElem? h1, h2⟩
  · intro h
    rw [← Int.not_lt]
    intro hn
    have : plc l a = -1 := by
      cases l with
      | nil => rfl
      | cons x l =>
        unfold plc at hn ⊢
        split at hn
        · omega
        · rename_i hx
          rw [if_neg hx]
          split at hn
          · rename_i h1; rw [if_pos h1]
          · omega
    have key : ∀ {l : List EntryT}, plc l a = -1 → a ∉ l.map (·.Mac) := by
      intro l
      induction l with
      | nil => intro _ h; cases h
      | cons x l ih =>
        intro h hm
        unfold plc at h
        split at h
        · omega
        · rename_i hx
          split at h
          · rename_i hl
            have h2 : plc l a = -1 := by
              cases l with
              | nil => rfl
              | cons y l =>
                unfold plc at hl ⊢
                split at hl
                · omega
                · rename_i hy
                  rw [if_neg hy]
                  split at hl
                  · rename_i h1; rw [if_pos h1]
                  · omega
            rcases List.mem_cons.1 hm with h3 | h3
            · exact hx h3.symm
            · exact ih h2 h3
          · omega
    exact key this h
theorem nodup_take {l : List EntryT} : (l.map (·.Mac)).Nodup ↔ ∀ k x, l[k]? = some x → x.Mac ∉ (l.take k).map (·.Mac) := by
  constructor
  · intro h k x hx hm
    have ht : l.take (k + 1) = l.take k ++ [x] := by rw [List.take_add_one, hx]; rfl
    have hs : (l.take (k + 1)).Sublist l := List.take_sublist _ _
    have := (hs.map (·.Mac)).nodup h
    rw [ht, List.map_append, List.nodup_append] at this
    exact this.2.2 _ hm _ (by simp) rfl
  · intro h
    have : ∀ k, k ≤ l.length → ((l.take k).map (·.Mac)).Nodup := by
      intro k
      induction k with
      | zero => simp
      | succ k ih =>
        intro hk
        have hx : l[k]? = some l[k] := List.getElem?_eq_getElem (by omega)
        have ht : l.take (k + 1) = l.take k ++ [l[k]] := by rw [List.take_add_one, hx]; rfl
        rw [ht, List.map_append, List.nodup_append]
        exact ⟨ih (by omega), by simp, fun a ha b hb => by simp at hb; subst hb; exact fun e => h k _ hx (e ▸ ha)⟩
    have := this l.length (Nat.le_refl _)
    rwa [List.take_length] at this
def Small (t : TableT) : Prop := t.Buckets.length ≤ 100 ∧ ∀ l ∈ t.Buckets, l.length ≤ 100
theorem Right_prog {t : TableT} (hs : Small t) : ∃ b, fdb_Right t = some b ∧ (b = true ↔ TbOk t) := by
  unfold fdb_Right
  rw [sizes_eq]
  by_cases hz : Szs ((t.Buckets.length : Nat) : Int) t.Slots t.Age
  rotate_left
  · exact ⟨false, by simp [hz], by simp [TbOk, hz]⟩
  have hlen : ∀ (b : Nat) (l : List EntryT), t.Buckets[b]? = some l → l.length ≤ 1000 := fun b l h => Nat.le_trans (hs.2 l (List.mem_of_getElem? h)) (by omega)
  simp only [decide_eq_true hz, Option.bind_some, Bool.not_true, cond_false]
  rcases rangeL_find (s0 := ()) (body := fdb_Right_c0 t) (xs := t.Buckets) (by have := hs.1; omega) (fun b l => !decide (BOk t.Buckets.length t.Slots b l)) (fun _ _ => false) (fun b l h => Right_row hz.1 (hlen b l h)) with ⟨k, x, hx, hp, hj, h⟩ | ⟨hp, h⟩
  · refine ⟨false, by rw [h, aft_some_ret], fun h => (by cases h), fun ht => ?_⟩
    simp [ht.2 k x hx] at hp
  · exact ⟨true, by rw [h, aft_some_nxt], fun _ => ⟨hz, fun b l h => by simpa using hp b l h⟩, fun _ => rfl⟩

/-! Finding. -/
noncomputable def bk (t : TableT) (a : Int) : List EntryT := t.Buckets.getD (bkt a.toNat t.Buckets.length) []
theorem TbOk.bucket {t : TableT} (h : TbOk t) (a : Int) : t.Buckets[bkt a.toNat t.Buckets.length]? = some (bk t a) := by
  have := bkt_lt a.toNat (n := t.Buckets.length) h.1.1
  unfold bk
  simp [List.getD_eq_getElem?_getD, this]
theorem TbOk.bok {t : TableT} (h : TbOk t) (a : Int) : BOk t.Buckets.length t.Slots (bkt a.toNat t.Buckets.length) (bk t a) := h.2 _ _ (h.bucket a)
theorem TbOk.len4 {t : TableT} (h : TbOk t) (a : Int) : (bk t a).length ≤ 4 := by
  have := (h.bok a).2
  have := h.1.2.1.2
  omega
theorem place_eq {t : TableT} (h : TbOk t) {a : Int} (ha : Uni a) : fdb_place t a = some (((bkt a.toNat t.Buckets.length : Nat) : Int), plc (bk t a) a) := by
  obtain ⟨h1, h2⟩ := ha.nat
  have hb := hash_Bucket_eq (a := a.toNat) (n := t.Buckets.length) h2 h.1.1
  rw [← h1] at hb
  unfold fdb_place
  rw [hb]
  simp only [Option.bind_some]
  rw [gix_nat, h.bucket a]
  simp only [Option.bind_some]
  have := h.len4 a
  rw [Index_eq (by omega)]
  rfl
noncomputable def fnd (t : TableT) (a now : Int) : Int := match (bk t a)[(plc (bk t a) a).toNat]? with
  | some e => if plc (bk t a) a < 0 then -1 else if e.Static = true ∨ now - e.Seen ≤ t.Age then e.Port else -1
  | none => -1
theorem Find_bad {t : TableT} (hs : Small t) {a now : Int} (h : ¬ (TbOk t ∧ Uni a ∧ (0 ≤ now ∧ now ≤ 1099511627776))) : fdb_Find t a now = some (0, 1) := by
  obtain ⟨b, h1, h3⟩ := Right_prog hs
  unfold fdb_Find
  rw [h1, isMac_eq, isTime_eq]
  simp only [Option.bind_some, gd_some]
  cases b
  · rfl
  · have ht := h3.1 rfl
    by_cases hu : Uni a
    · have hn : ¬ (0 ≤ now ∧ now ≤ 1099511627776) := fun hh => h ⟨ht, hu, hh⟩
      simp [hu, hn]
    · simp [hu]
theorem Find_eq {t : TableT} (hs : Small t) {a now : Int} (h : TbOk t) (ha : Uni a) (hn : 0 ≤ now ∧ now ≤ 1099511627776) : fdb_Find t a now = some (fnd t a now, 0) := by
  obtain ⟨b, h1, h3⟩ := Right_prog hs
  have hb : b = true := h3.2 h
  subst hb
  have hl := h.len4 a
  have hbk : gix t.Buckets ((bkt a.toNat t.Buckets.length : Nat) : Int) = some (bk t a) := by rw [gix_nat]; exact h.bucket a
  unfold fdb_Find
  rw [h1, isMac_eq, isTime_eq]
  simp only [Option.bind_some, gd_some, decide_eq_true ha, decide_eq_true hn, Bool.not_true, cond_false, Bool.not_false, cond_true, place_eq h ha, hbk]
  unfold fnd
  by_cases hp : plc (bk t a) a < 0
  · have hf : (match (bk t a)[(plc (bk t a) a).toNat]? with
      | some e => if plc (bk t a) a < 0 then -1 else if e.Static = true ∨ now - e.Seen ≤ t.Age then e.Port else -1
      | none => -1) = (-1 : Int) := by
      split
      · rw [if_pos hp]
      · rfl
    rw [hf]
    simp [hp, gd]
  · obtain ⟨e, h4, h5⟩ := plc_get (l := bk t a) (a := a) (by omega)
    have hg : gix (bk t a) (plc (bk t a) a) = some e := gix_of (by omega) h4
    have he := (h.bok a).1.2 e (List.mem_of_getElem? h4)
    have hs1 := he.2.2.1
    rw [h4]
    have hw : IntKind.i64.wrap (now - e.Seen) = now - e.Seen := w64i (by omega) (by omega)
    simp only [hp, decide_false, cond_false, hg, Option.bind_some, gd, Bool.not_false, cond_true, hw, if_false]
    cases hst : e.Static
    · by_cases ho : now - e.Seen ≤ t.Age
      · have : ¬ t.Age < now - e.Seen := by omega
        simp [ho, this]
      · have : t.Age < now - e.Seen := by omega
        simp [ho, this]
    · simp
end
section
set_option maxHeartbeats 1000000

theorem fitsS {n b : Nat} (h : n ≤ 1000000) (hb : b ≤ 100) : fits n b := ⟨by omega, by
  have : n * b ≤ 1000000 * 100 := Nat.mul_le_mul h hb
  omega⟩
/-! The order of places. -/
def ord (n : Nat) : List Int := (List.range n).map fun k => ((k : Nat) : Int)
theorem ord_len (n : Nat) : (ord n).length = n := by simp [ord]
theorem ord_mem {n : Nat} {z : Int} : z ∈ ord n ↔ 0 ≤ z ∧ z < (n : Int) := by
  unfold ord
  simp only [List.mem_map, List.mem_range]
  constructor
  · rintro ⟨k, hk, rfl⟩; omega
  · intro ⟨h1, h2⟩; exact ⟨z.toNat, by omega, by omega⟩
theorem ord_succ (n : Nat) : ord (n + 1) = ord n ++ [((n : Nat) : Int)] := by simp [ord, List.range_succ]
theorem ord_nodup (n : Nat) : (ord n).Nodup := by
  unfold ord
  exact List.Pairwise.map _ (fun a b h => by omega) List.nodup_range
theorem ord_get {n k : Nat} (h : k < n) : (ord n)[k]? = some ((k : Nat) : Int) := by
  unfold ord; rw [List.getElem?_map, List.getElem?_range h]; rfl
theorem ord_take {n k : Nat} (h : k ≤ n) : (ord n).take k = ord k := by
  unfold ord
  rw [← List.map_take, List.take_range, Nat.min_eq_left h]

theorem lruRight_eq {o : List Int} (hl : o.length ≤ 64) (hn : o.Nodup) (h0 : ∀ z ∈ o, 0 ≤ z) : lru_Right o = some true := by
  unfold lru_Right
  rcases cnt_loopR (r0 := false) (body := lru_Right_c0) (xs := o) (by omega) (fun z => z) (fun z => 0 ≤ z) (fun k x m hx m1 m2 => by
    unfold lru_Right_c0
    simp only [w64i (x := mget m x 0 + 1) (by omega) (by omega)]
    by_cases hx0 : 0 ≤ x
    · have h1 : ¬ x < 0 := by omega
      by_cases hm : 0 < mget m x 0
      · have h2 : 1 < mget m x 0 + 1 := by omega
        simp [h1, hm, h2]
      · have h2 : ¬ 1 < mget m x 0 + 1 := by omega
        simp [h1, hm, h2, hx0]
    · have h1 : x < 0 := by omega
      simp [h1, hx0]) with ⟨h1, s, h2⟩ | ⟨h1, h2⟩
  · rw [h2, aft_some_nxt, decide_eq_true (by omega)]
  · exact absurd ⟨by simpa using hn, h0⟩ h1
theorem without_eq {o : List Int} (hl : o.length ≤ 100) (w : Int) : _lru_order_without o w = some (o.filter fun z => !decide (z = w)) := by
  unfold _lru_order_without slices_Clone_order
  rw [grd_true (fitsS (by omega) (by omega)), Option.bind_some]
  have : slices_DeleteFunc_order o (fun x0_ => _lru_order_without_1 x0_ w) = some (o.filter fun z => !decide (z = w)) :=
    (show slices_DeleteFunc_order o (fun x0_ => _lru_order_without_1 x0_ w) = delG (fun x0_ => _lru_order_without_1 x0_ w) o from rfl).trans (delG_eq (p := fun z => decide (z = w)) (by omega) (fun x _ => rfl))
  rw [this]; rfl
theorem Use_eq {o : List Int} (hl : o.length ≤ 50) (hn : o.Nodup) (h0 : ∀ z ∈ o, 0 ≤ z) {w : Int} (hw : 0 ≤ w) : lru_Use o w = some (w :: o.filter (fun z => !decide (z = w)), 0) := by
  have hf := List.length_filter_le (fun z => !decide (z = w)) o
  unfold lru_Use _lru_order_use
  rw [lruRight_eq (by omega) hn h0, without_eq (by omega)]
  simp only [Option.bind_some, Bool.not_true, cond_false, decide_eq_false (show ¬ w < 0 by omega)]
  rw [grd_true (fitsS (by rw [List.length_append]; simp; omega) (by omega))]
  simp only [Option.bind_some, List.cons_append, List.nil_append]
  rw [decide_eq_false (show ¬ 64 < (((w :: o.filter (fun z => !decide (z = w))).length : Nat) : Int) by simp; omega)]
  rfl
theorem Drop_eq {o : List Int} (hl : o.length ≤ 50) (hn : o.Nodup) (h0 : ∀ z ∈ o, 0 ≤ z) {w : Int} (hw : w ∈ o) : lru_Drop o w = some (o.filter (fun z => !decide (z = w)), 0) := by
  have hlt : (o.filter (fun z => !decide (z = w))).length < o.length := by
    rw [List.length_filter_lt_length_iff_exists]
    exact ⟨w, hw, by simp⟩
  have hw0 := h0 w hw
  unfold lru_Drop
  rw [lruRight_eq (by omega) hn h0, without_eq (by omega)]
  simp only [Option.bind_some, Bool.not_true, cond_false, decide_eq_false (show ¬ w < 0 by omega)]
  rw [decide_eq_false (show ¬ (((o.filter (fun z => !decide (z = w))).length : Nat) : Int) = ((o.length : Nat) : Int) by omega)]
  rfl

/-! Buckets by places. -/
def zE : EntryT := ⟨0, 0, 0, false⟩
def atP (l : List EntryT) (z : Int) : EntryT := l.getD z.toNat zE
theorem gd_get {α : Type} {l : List α} {k : Nat} {d : α} (h : k < l.length) : l[k]? = some (l.getD k d) := by simp [List.getD_eq_getElem?_getD, h]
theorem all_places (l : List EntryT) : (ord l.length).map (atP l) = l := by
  apply List.ext_getElem?
  intro i
  rw [List.getElem?_map]
  by_cases h : i < l.length
  · rw [ord_get h, Option.map_some, gd_get (d := zE) h]; rfl
  · rw [List.getElem?_eq_none (by rw [ord_len]; omega), List.getElem?_eq_none (by omega)]; rfl
/-- Entries but one, by places and by addresses. -/
theorem but_one {l : List EntryT} (hn : (l.map (·.Mac)).Nodup) {i : Nat} {x : EntryT} (hx : l[i]? = some x) : l.filter (fun y => !decide (y.Mac = x.Mac)) = ((ord l.length).filter fun z => !decide (z = (i : Int))).map (atP l) := by
  have hi := (List.getElem?_eq_some_iff.1 hx).1
  have h1 : l.filter (fun y => !decide (y.Mac = x.Mac)) = ((ord l.length).map (atP l)).filter (fun y => !decide (y.Mac = x.Mac)) := by rw [all_places]
  rw [h1, List.filter_map]
  congr 1
  apply List.filter_congr
  intro z hz
  obtain ⟨z0, z1⟩ := ord_mem.1 hz
  have hg : l[z.toNat]? = some (atP l z) := gd_get (by omega)
  show (!decide ((atP l z).Mac = x.Mac)) = _
  congr 1
  rw [decide_eq_decide]
  constructor
  · intro h
    have e1 : (l.map (·.Mac))[z.toNat]? = some x.Mac := by rw [List.getElem?_map, hg, Option.map_some, h]
    have e2 : (l.map (·.Mac))[i]? = some x.Mac := by rw [List.getElem?_map, hx, Option.map_some]
    have hz' : z.toNat < (l.map (·.Mac)).length := (List.getElem?_eq_some_iff.1 e1).1
    have hi' : i < (l.map (·.Mac)).length := (List.getElem?_eq_some_iff.1 e2).1
    have e3 : (l.map (·.Mac))[z.toNat] = (l.map (·.Mac))[i] := by
      rw [(List.getElem?_eq_some_iff.1 e1).2, (List.getElem?_eq_some_iff.1 e2).2]
    have hp := List.pairwise_iff_getElem.1 hn
    rcases Nat.lt_trichotomy z.toNat i with hlt | heq | hlt
    · exact absurd e3 (hp _ _ hz' hi' hlt)
    · omega
    · exact absurd e3.symm (hp _ _ hi' hz' hlt)
  · intro h
    have : z.toNat = i := by omega
    rw [this, hx] at hg
    rw [← Option.some.inj hg]
theorem pick_loop {ρ : Type} {body : Nat → Int → List EntryT → Option (Step ρ (List EntryT))} (L : List EntryT) {xs : List Int} (hl : xs.length ≤ 100) (hx : ∀ z ∈ xs, 0 ≤ z ∧ z < ((L.length : Nat) : Int))
    (hb : ∀ k x s, body k x s = grd ((0 : Int) ≤ x ∧ x < ((L.length : Nat) : Int)) ((gixN L (x : Int).toNat).bind fun v => grd (fits ((s ++ ([v] : (List EntryT))) : List EntryT).length 32) <| some (.nxt (s ++ ([v] : (List EntryT)))))) : rangeL body xs [] = some (.nxt (xs.map (atP L))) :=
  rangeL_map (by omega) (atP L) fun k x s hk hs => by
    obtain ⟨h1, h2⟩ := hx x (List.mem_of_getElem? hk)
    have hkl := (List.getElem?_eq_some_iff.1 hk).1
    rw [hb, grd_true ⟨h1, h2⟩, show gixN L (x : Int).toNat = some (atP L x) from gd_get (by omega), Option.bind_some, grd_true (fitsS (by rw [List.length_append]; simp; omega) (by omega))]
theorem order_loop {ρ : Type} {body : Nat → List Int → Option (Step ρ (List Int))} (n : Nat) (hn : n ≤ 100) (hb : ∀ k s, body k s = grd (fits ((s ++ ([((k : Nat) : Int)] : (List Int))) : List Int).length 8) (some (.nxt (s ++ ([((k : Nat) : Int)] : (List Int)))))) : rangeN body ((n : Nat) : Int) [] = some (.nxt (ord n)) := by
  have := rangeN_up (body := body) (n := ((n : Nat) : Int)) (s0 := []) (by omega) (fun k => ord k) rfl (fun k hk => by
    rw [hb, grd_true (fitsS (by rw [List.length_append, ord_len]; simp; omega) (by omega)), ord_succ])
  rw [this, Int.toNat_natCast]
theorem own_eq {t : TableT} (h : t.Buckets.length ≤ 1000) : fdb_own_x t = some t := by
  unfold fdb_own_x
  rw [grd_true ⟨by omega, Int.le_refl _, fitsS (by rw [Int.toNat_natCast]; omega) (by omega)⟩]
  simp
/-- The last that is not static: how many there are up to it. -/
def Lst (l : List EntryT) (j : Nat) : Prop := j ≤ l.length ∧ (∀ (k : Nat) (e : EntryT), j ≤ k → l[k]? = some e → e.Static = true) ∧ (j = 0 ∨ ∃ e, l[j - 1]? = some e ∧ e.Static = false)
theorem strip_loop {ρ : Type} {body : List Int → Option (Step ρ (List Int))} (L : List EntryT) (l : List EntryT) (hL : ∀ (k : Nat) (e : EntryT), l[k]? = some e → L[k]? = some e) (hl : l.length ≤ 100) (hLl : l.length ≤ L.length)
    (hb : ∀ s, body s = grd (((decide (0 < ((s.length : Nat) : Int))) = true → (0 : Int) ≤ (IntKind.i64.wrap (((s.length : Nat) : Int) - 1)) ∧ (IntKind.i64.wrap (((s.length : Nat) : Int) - 1)) < ((s.length : Nat) : Int))) (
  (bif (decide (0 < ((s.length : Nat) : Int))) then
    (gixN s ((IntKind.i64.wrap (((s.length : Nat) : Int) - 1)) : Int).toNat).bind fun v62 =>
    grd (((decide (0 < ((s.length : Nat) : Int))) = true → (0 : Int) ≤ v62 ∧ v62 < ((L.length : Nat) : Int))) <|
    (gixN L (v62 : Int).toNat).bind fun v65 =>
    (bif (bif (decide (0 < ((s.length : Nat) : Int))) then v65.Static else false) then
      grd ((0 : Int) ≤ (IntKind.i64.wrap (((s.length : Nat) : Int) - 1)) ∧ (IntKind.i64.wrap (((s.length : Nat) : Int) - 1)) ≤ ((s.length : Nat) : Int)) <|
      some (.nxt (s.take ((IntKind.i64.wrap (((s.length : Nat) : Int) - 1)) : Int).toNat))
    else
      some (.brk s))
  else
    some (.brk s)))) : ∃ j, loopF 1000000 body (ord l.length) = some (.nxt (ord j)) ∧ Lst l j := by
  obtain ⟨o, h1, h2⟩ := loopF_rec (body := body) (fun s => s.length) (fun s => ∃ j : Nat, s = ord j ∧ j ≤ l.length ∧ ∀ (k : Nat) (e : EntryT), j ≤ k → l[k]? = some e → e.Static = true) (fun _ => False) (fun s => ∃ j, s = ord j ∧ Lst l j) (fun s ⟨j, hs, hj, hst⟩ => by
    subst hs
    rw [hb, ord_len]
    by_cases h0 : j = 0
    · subst h0
      rw [grd_true (by intro h; simp at h)]
      exact ⟨_, rfl, 0, rfl, by omega, hst, .inl rfl⟩
    have hw : IntKind.i64.wrap (((j : Nat) : Int) - 1) = ((j - 1 : Nat) : Int) := by rw [w64i (by omega) (by omega)]; omega
    have hd : decide (0 < ((j : Nat) : Int)) = true := decide_eq_true (by omega)
    have hlj : l[j - 1]? = some (l.getD (j - 1) zE) := gd_get (by omega)
    have hLj := hL _ _ hlj
    rw [hw, hd, grd_true (fun _ => ⟨by omega, by omega⟩)]
    simp only [cond_true, Int.toNat_natCast]
    rw [show gixN (ord j) (j - 1) = some ((j - 1 : Nat) : Int) from ord_get (by omega)]
    simp only [Option.bind_some, Int.toNat_natCast]
    rw [grd_true (fun _ => ⟨by omega, by omega⟩), show gixN L (j - 1) = some (l.getD (j - 1) zE) from hLj]
    simp only [Option.bind_some]
    cases hs : (l.getD (j - 1) zE).Static
    · exact ⟨_, rfl, j, rfl, hj, hst, .inr ⟨_, hlj, hs⟩⟩
    · simp only [cond_true]
      rw [grd_true ⟨by omega, by omega⟩, ord_take (by omega)]
      refine ⟨_, rfl, ⟨j - 1, rfl, by omega, fun k e hk he => ?_⟩, by simp only [ord_len]; omega⟩
      by_cases hk' : k = j - 1
      · subst hk'
        rw [hlj] at he
        cases he; exact hs
      · exact hst k e (by omega) he) 1000000 (ord l.length) ⟨l.length, rfl, Nat.le_refl _, fun k e hk he => by
        have := (List.getElem?_eq_some_iff.1 he).1; omega⟩ (by rw [ord_len]; omega)
  cases o with
  | ret r => exact h2.elim
  | brk s => exact h2.elim
  | nxt s => obtain ⟨j, rfl, hj⟩ := h2; exact ⟨j, h1, hj⟩
end
section
set_option maxHeartbeats 1000000

theorem clone_eq {l : List EntryT} (h : l.length ≤ 1000) : slices_Clone_Entry l = some l := by
  unfold slices_Clone_Entry; rw [grd_true (fitsS (by omega) (by omega))]
theorem cloneI_eq {l : List Int} (h : l.length ≤ 1000) : slices_Clone_int l = some l := by
  unfold slices_Clone_int; rw [grd_true (fitsS (by omega) (by omega))]
/-- A table with another bucket. -/
noncomputable def wth (t : TableT) (a : Int) (L : List EntryT) : TableT := ⟨t.Buckets.set (bkt a.toNat t.Buckets.length) L, t.Slots, t.Age⟩
theorem bucket_len {t : TableT} (h : TbOk t) (a : Int) : bkt a.toNat t.Buckets.length < t.Buckets.length := bkt_lt a.toNat h.1.1
theorem n16 {t : TableT} (h : TbOk t) : t.Buckets.length ≤ 16 := by have := h.1.1; unfold Num at this; omega
/-- How a table is left: with one bucket more. -/
theorem wth_tail {t : TableT} (h : TbOk t) (a : Int) (L : List EntryT) : ((fdb_own_x t).bind fun y =>
    grd ((0 : Int) ≤ ((bkt a.toNat t.Buckets.length : Nat) : Int) ∧ ((bkt a.toNat t.Buckets.length : Nat) : Int) < ((y.Buckets.length : Nat) : Int)) <|
    (gixN y.Buckets (((bkt a.toNat t.Buckets.length : Nat) : Int) : Int).toNat).bind fun v =>
    some ((⟨(y.Buckets.set (((bkt a.toNat t.Buckets.length : Nat) : Int) : Int).toNat L), y.Slots, y.Age⟩ : TableT), true)) = some (wth t a L, true) := by
  have hb := bucket_len h a
  have := n16 h
  rw [own_eq (by omega)]
  simp only [Option.bind_some, Int.toNat_natCast]
  rw [grd_true ⟨by omega, by omega⟩, show gixN t.Buckets (bkt a.toNat t.Buckets.length) = _ from h.bucket a]
  rfl
theorem small_of {t : TableT} (h : TbOk t) : Small t := ⟨by have := n16 h; omega, fun l hl => by
  obtain ⟨k, hk⟩ := List.getElem?_of_mem hl
  have h1 := (h.2 k l hk).2
  have h2 := h.1.2.1.2
  omega⟩
theorem small_wth {t : TableT} (h : TbOk t) (a : Int) {L : List EntryT} (hL : L.length ≤ 100) : Small (wth t a L) := ⟨by simp only [wth, List.length_set]; have := n16 h; omega, fun l hl => by
  rcases List.mem_or_eq_of_mem_set hl with h1 | h1
  · exact (small_of h).2 l h1
  · rw [h1]; exact hL⟩
/-- How many entries there are up to the last that is not static. -/
def lstN : List EntryT → Nat
  | [] => 0
  | e :: l => if lstN l = 0 then (if e.Static = true then 0 else 1) else lstN l + 1
theorem lst_lstN : ∀ l : List EntryT, Lst l (lstN l)
  | [] => ⟨Nat.le_refl _, fun k e _ h => by simp at h, .inl rfl⟩
  | x :: l => by
    obtain ⟨h1, h2, h3⟩ := lst_lstN l
    unfold lstN
    by_cases h0 : lstN l = 0
    · rw [if_pos h0]
      rw [h0] at h2
      cases hx : x.Static
      · refine ⟨by simp, fun k e hk he => ?_, .inr ⟨x, rfl, hx⟩⟩
        cases k with
        | zero => simp at hk
        | succ k => exact h2 k e (by omega) (by simpa using he)
      · refine ⟨by simp, fun k e hk he => ?_, .inl (by simp)⟩
        cases k with
        | zero => simp at he; rw [← he]; exact hx
        | succ k => exact h2 k e (by omega) (by simpa using he)
    · rw [if_neg h0]
      refine ⟨by simp; omega, fun k e hk he => ?_, .inr ?_⟩
      · cases k with
        | zero => omega
        | succ k => exact h2 k e (by omega) (by simpa using he)
      · rcases h3 with h3 | ⟨e, h3, h4⟩
        · exact absurd h3 h0
        · refine ⟨e, ?_, h4⟩
          obtain ⟨q, hq⟩ : ∃ q, lstN l = q + 1 := ⟨lstN l - 1, by omega⟩
          rw [hq] at h3 ⊢
          simpa using h3
theorem lst_uniq {l : List EntryT} {i j : Nat} (h : Lst l i) (g : Lst l j) : i = j := by
  obtain ⟨h1, h2, h3⟩ := h
  obtain ⟨g1, g2, g3⟩ := g
  rcases Nat.lt_trichotomy i j with h | h | h
  · rcases g3 with g3 | ⟨e, g3, g4⟩
    · omega
    · have := h2 (j - 1) e (by omega) g3
      rw [g4] at this; cases this
  · exact h
  · rcases h3 with h3 | ⟨e, h3, h4⟩
    · omega
    · have := g2 (i - 1) e (by omega) h3
      rw [h4] at this; cases this
theorem lstN_eq {l : List EntryT} {j : Nat} (h : Lst l j) : lstN l = j := lst_uniq (lst_lstN l) h
/-- What putting an entry does. -/
noncomputable def putP (t : TableT) (e : EntryT) : TableT × Bool :=
  if (((((bk t e.Mac).filter fun y => !decide (y.Mac = e.Mac)).length : Nat) : Int) = t.Slots) then
    (if lstN ((bk t e.Mac).filter fun y => !decide (y.Mac = e.Mac)) = 0 then (t, false)
     else (wth t e.Mac ([e] ++ ((bk t e.Mac).filter fun y => !decide (y.Mac = e.Mac)).filter fun y => !decide (y.Mac = (((bk t e.Mac).filter fun y => !decide (y.Mac = e.Mac)).getD (lstN ((bk t e.Mac).filter fun y => !decide (y.Mac = e.Mac)) - 1) zE).Mac)), true))
  else (wth t e.Mac ([e] ++ (bk t e.Mac).filter fun y => !decide (y.Mac = e.Mac)), true)
theorem Put_prog {t : TableT} (h : TbOk t) {e : EntryT} (he : Uni e.Mac) : fdb_put t e = some (putP t e) := by
  have hl4 := h.len4 e.Mac
  have hbo := h.bok e.Mac
  have hbk := h.bucket e.Mac
  have hslots := h.1.2.1
  have htail := wth_tail h e.Mac
  unfold fdb_put putP
  rw [place_eq h he]
  simp only [Option.bind_some]
  rw [gix_nat, hbk]
  generalize bk t e.Mac = l at *
  obtain ⟨⟨hn, hent⟩, hsl⟩ := hbo
  simp only [Option.bind_some]
  rw [clone_eq (by omega)]
  simp only [Option.bind_some]
  rw [order_loop (body := fdb_put_c0) l.length (by omega) (fun k s => rfl), aft_some_nxt]
  have hon := ord_nodup l.length
  have ho0 : ∀ z ∈ ord l.length, 0 ≤ z := fun z hz => (ord_mem.1 hz).1
  by_cases hp : plc l e.Mac < 0
  · have hno : ∀ y ∈ l, y.Mac ≠ e.Mac := fun y hy hm => by
      have := plc_mem.2 (List.mem_map.2 ⟨y, hy, hm⟩)
      omega
    have hfl : (l.filter fun y => !decide (y.Mac = e.Mac)) = l := List.filter_eq_self.2 fun y hy => by simp [hno y hy]
    have hfo : ((ord l.length).filter fun z => !decide (z = ((l.length : Nat) : Int))) = ord l.length := List.filter_eq_self.2 fun z hz => by
      have := (ord_mem.1 hz).2
      simp; omega
    have hset : (l ++ [e]).set (((l.length : Nat) : Int)).toNat e = l ++ [e] := by
      rw [Int.toNat_natCast, List.set_append_right _ _ (Nat.le_refl _)]; simp
    have hat : ∀ z ∈ ord l.length, atP (l ++ [e]) z = atP l z := fun z hz => by
      obtain ⟨z0, z1⟩ := ord_mem.1 hz
      unfold atP
      rw [List.getD_eq_getElem?_getD, List.getD_eq_getElem?_getD, List.getElem?_append_left (by omega)]
    have hae : atP (l ++ [e]) ((l.length : Nat) : Int) = e := by
      unfold atP
      rw [Int.toNat_natCast, List.getD_eq_getElem?_getD]; simp
    simp only [decide_eq_true hp, cond_true]
    rw [grd_true (fitsS (by rw [List.length_append]; simp; omega) (by omega)), grd_true ⟨by omega, by rw [List.length_append]; simp; omega⟩, show gixN (l ++ [e]) (((l.length : Nat) : Int)).toNat = some e by unfold gixN; rw [Int.toNat_natCast]; simp]
    simp only [Option.bind_some]
    rw [Use_eq (by rw [ord_len]; omega) hon ho0 (by omega), hfo, hfl]
    simp only [Option.bind_some, List.length_cons, ord_len]
    by_cases hfull : t.Slots < (((l.length + 1 : Nat)) : Int)
    · have heq : ((l.length : Nat) : Int) = t.Slots := by omega
      rw [if_pos heq]
      simp only [decide_eq_true hfull, cond_true]
      rw [grd_true ⟨by omega, by omega⟩, show List.drop (Int.toNat 1) (((l.length : Nat) : Int) :: ord l.length) = ord l.length from rfl, cloneI_eq (by rw [ord_len]; omega)]
      simp only [Option.bind_some]
      obtain ⟨j, hj1, hj2⟩ := strip_loop (body := fdb_put_c1 e l) ((l ++ [e]).set (((l.length : Nat) : Int)).toNat e) l (fun k x hk => by
        have := (List.getElem?_eq_some_iff.1 hk).1
        rw [hset, List.getElem?_append_left this]; exact hk) (by omega) (by rw [hset]; simp) (fun s => rfl)
      rw [hj1, aft_some_nxt, lstN_eq hj2]
      simp only [Option.bind_some, ord_len]
      by_cases hj0 : j = 0
      · subst hj0
        simp
      · have hjl := hj2.1
        have hw : IntKind.i64.wrap (((j : Nat) : Int) - 1) = ((j - 1 : Nat) : Int) := by rw [w64i (by omega) (by omega)]; omega
        have hx : l[j - 1]? = some (l.getD (j - 1) zE) := gd_get (by omega)
        have hbut := but_one hn hx
        rw [if_neg hj0]
        simp only [decide_eq_false (show ¬ ((j : Nat) : Int) = 0 by omega), cond_false, hw]
        rw [grd_true ⟨by omega, by omega⟩, Int.toNat_natCast, show gixN (ord j) (j - 1) = some ((j - 1 : Nat) : Int) from ord_get (by omega)]
        simp only [Option.bind_some]
        rw [Drop_eq (o := ((l.length : Nat) : Int) :: ord l.length) (by simp [ord_len]; omega) (by
          rw [List.nodup_cons]; exact ⟨fun hm => by have := (ord_mem.1 hm).2; omega, hon⟩) (by
          intro z hz
          rcases List.mem_cons.1 hz with rfl | hz
          · omega
          · exact ho0 z hz) (List.mem_cons_of_mem _ (ord_mem.2 ⟨by omega, by omega⟩)), hbut]
        have hfc : ((((l.length : Nat) : Int) :: ord l.length).filter fun z => !decide (z = ((j - 1 : Nat) : Int))) = ((l.length : Nat) : Int) :: ((ord l.length).filter fun z => !decide (z = ((j - 1 : Nat) : Int))) := by
          rw [List.filter_cons, if_pos (by simp; omega)]
        have hle := List.length_filter_le (fun z => !decide (z = ((j - 1 : Nat) : Int))) (ord l.length)
        rw [ord_len] at hle
        have hmap : ((((l.length : Nat) : Int) :: ((ord l.length).filter fun z => !decide (z = ((j - 1 : Nat) : Int))))).map (atP (l ++ [e])) = [e] ++ ((ord l.length).filter fun z => !decide (z = ((j - 1 : Nat) : Int))).map (atP l) := by
          rw [List.map_cons, hae]
          exact congrArg (e :: ·) (List.map_congr_left fun z hz => hat z (List.mem_filter.1 hz).1)
        simp only [Option.bind_some]
        rw [hfc, pick_loop (body := fdb_put_c2 e l) ((l ++ [e]).set (((l.length : Nat) : Int)).toNat e) (by simp; omega) (fun z hz => by
          rw [hset]
          rcases List.mem_cons.1 hz with rfl | hz
          · exact ⟨by omega, by simp; omega⟩
          · have := ord_mem.1 (List.mem_filter.1 hz).1
            exact ⟨this.1, by simp; omega⟩) (fun k x s => rfl), aft_some_nxt, hset, hmap, htail]
    · have hne : ¬ ((l.length : Nat) : Int) = t.Slots := by omega
      rw [if_neg hne]
      simp only [decide_eq_false hfull, cond_false]
      have hmap : (((l.length : Nat) : Int) :: ord l.length).map (atP (l ++ [e])) = [e] ++ l := by
        rw [List.map_cons, hae]
        refine congrArg (e :: ·) ((List.map_congr_left fun z hz => hat z hz).trans (all_places l))
      rw [pick_loop (body := fdb_put_c3 e l) ((l ++ [e]).set (((l.length : Nat) : Int)).toNat e) (by simp [ord_len]; omega) (fun z hz => by
          rw [hset]
          rcases List.mem_cons.1 hz with rfl | hz
          · exact ⟨by omega, by simp; omega⟩
          · have := ord_mem.1 hz
            exact ⟨this.1, by simp; omega⟩) (fun k x s => rfl), aft_some_nxt, hset, hmap, htail]
  · obtain ⟨x, hx, hxm⟩ := plc_get (l := l) (a := e.Mac) (by omega)
    obtain ⟨i, hi⟩ : ∃ i : Nat, plc l e.Mac = (i : Int) := ⟨(plc l e.Mac).toNat, by omega⟩
    rw [hi, Int.toNat_natCast] at hx
    have hil := (List.getElem?_eq_some_iff.1 hx).1
    have hbut := but_one hn hx
    rw [hxm] at hbut
    have hiord : (i : Int) ∈ ord l.length := ord_mem.2 ⟨by omega, by omega⟩
    have hlt : ((ord l.length).filter (fun z => !decide (z = (i : Int)))).length < l.length := by
      have : ((ord l.length).filter (fun z => !decide (z = (i : Int)))).length < (ord l.length).length := by
        rw [List.length_filter_lt_length_iff_exists]
        exact ⟨(i : Int), hiord, by simp⟩
      rwa [ord_len] at this
    have hat : ∀ z ∈ (ord l.length).filter (fun z => !decide (z = (i : Int))), atP (l.set ((i : Int)).toNat e) z = atP l z := fun z hz => by
      obtain ⟨z1, z2⟩ := List.mem_filter.1 hz
      obtain ⟨z3, z4⟩ := ord_mem.1 z1
      have : z ≠ (i : Int) := by simpa using z2
      unfold atP
      rw [List.getD_eq_getElem?_getD, List.getD_eq_getElem?_getD, Int.toNat_natCast, List.getElem?_set_ne (by omega)]
    have hae : atP (l.set ((i : Int)).toNat e) (i : Int) = e := by
      unfold atP
      rw [List.getD_eq_getElem?_getD, Int.toNat_natCast, List.getElem?_set_self hil]; rfl
    simp only [hi, decide_eq_false (show ¬ (i : Int) < 0 by omega), cond_false]
    rw [grd_true ⟨by omega, by omega⟩, show gixN l ((i : Int)).toNat = some x from hx]
    simp only [Option.bind_some]
    rw [Use_eq (by rw [ord_len]; omega) hon ho0 (by omega)]
    simp only [Option.bind_some, List.length_cons]
    rw [hbut, List.length_map, decide_eq_false (show ¬ t.Slots < ((((ord l.length).filter (fun z => !decide (z = (i : Int)))).length + 1 : Nat) : Int) by omega), if_neg (show ¬ ((((ord l.length).filter (fun z => !decide (z = (i : Int)))).length : Nat) : Int) = t.Slots by omega)]
    simp only [cond_false]
    have hmap : ((i : Int) :: ((ord l.length).filter fun z => !decide (z = (i : Int)))).map (atP (l.set ((i : Int)).toNat e)) = [e] ++ ((ord l.length).filter fun z => !decide (z = (i : Int))).map (atP l) := by
      rw [List.map_cons, hae]
      exact congrArg (e :: ·) (List.map_congr_left hat)
    rw [pick_loop (body := fdb_put_c6 e (((bkt e.Mac.toNat t.Buckets.length : Nat) : Int), (i : Int)) l) (l.set ((i : Int)).toNat e) (by simp; omega) (fun z hz => by
      rw [List.length_set]
      rcases List.mem_cons.1 hz with rfl | hz
      · exact ⟨by omega, by omega⟩
      · have := ord_mem.1 (List.mem_filter.1 hz).1
        exact ⟨this.1, by omega⟩) (fun k x s => rfl), aft_some_nxt, hmap, htail]
end
end Go.RX
