/- SE: what plain functions are made of, and how a walk meets them. -/
import Derived.Test.YtljecfgfbebjiaaRXz
set_option linter.unusedVariables false
open Go Go.RX
namespace Go.RX
abbrev I (n : Int) : LV := .int .i64 n
abbrev iC (x : Int) : List LV := [I x]
abbrev ikC (k : IntKind) (x : Int) : List LV := [.int k x]
abbrev bC (x : Bool) : List LV := [.bool x]
abbrev sC (x : ByteArray) : List LV := [.str x]
abbrev roC {α : Type} (sz : Nat) (f : α → List LV) (l : List α) : List LV := [.ro sz (l.map f)]
class NLf {α : Type} (f : α → List LV) : Prop where
 nl : ∀ x, NLs (f x)
instance : NLf iC := ⟨fun _ => ⟨trivial, trivial⟩⟩
instance (k : IntKind) : NLf (ikC k) := ⟨fun _ => ⟨trivial, trivial⟩⟩
instance : NLf bC := ⟨fun _ => ⟨trivial, trivial⟩⟩
instance : NLf sC := ⟨fun _ => ⟨trivial, trivial⟩⟩
instance {α : Type} (sz : Nat) (f : α → List LV) : NLf (roC sz f) := ⟨fun _ => ⟨trivial, trivial⟩⟩
theorem NLss_map' {α : Type} {f : α → List LV} [NLf f] (l : List α) : NLss (l.map f) := by
 induction l with
 | nil => trivial
 | cons a l ih => exact ⟨NLf.nl a, ih⟩
theorem NLss_app {a b : List (List LV)} (h1 : NLss a) (h2 : NLss b) : NLss (a ++ b) :=
 NLss_iff.2 fun cs hc => (List.mem_append.1 hc).elim (NLss_iff.1 h1 cs) (NLss_iff.1 h2 cs)
theorem NLss_rep {n : Nat} {c : List LV} (h : NLs c) : NLss (List.replicate n c) :=
 NLss_iff.2 fun cs hc x hx => by obtain ⟨_, rfl⟩ := List.mem_replicate.1 hc; exact NLss_iff.1 (show NLss [cs] from ⟨h, trivial⟩) cs (by simp) x hx
theorem setN_eq' {α : Type} (l : List α) (i : Nat) (a : α) : setN l i a = l.set i a := by
 induction l generalizing i with
 | nil => rfl
 | cons x l ih => cases i with
  | zero => rfl
  | succ i => simp [setN, ih]
theorem NLss_set {l : List (List LV)} {i : Nat} {c : List LV} (h : NLss l) (hc : NLs c) : NLss (setN l i c) := by
 rw [setN_eq']
 refine NLss_iff.2 fun cs hm => ?_
 rcases List.mem_or_eq_of_mem_set hm with h1 | rfl
 ·exact NLss_iff.1 h cs h1
 ·exact NLss_iff.1 (show NLss [cs] from ⟨hc, trivial⟩) cs (by simp)
theorem NLss_take {l : List (List LV)} {n : Nat} (h : NLss l) : NLss (l.take n) := NLss_iff.2 fun cs hm => NLss_iff.1 h cs (List.mem_of_mem_take hm)
theorem NLss_drop {l : List (List LV)} {n : Nat} (h : NLss l) : NLss (l.drop n) := NLss_iff.2 fun cs hm => NLss_iff.1 h cs (List.mem_of_mem_drop hm)
theorem NLss_bel {m : Nat} {l : List (List LV)} (h : NLss l) : belss m l := belss_iff.2 fun cs h1 x h2 => (NLss_iff.1 h cs h1 x h2).bel
theorem NLs_bels {m : Nat} : ∀ {l : List LV}, NLs l → bels m l
 | [], _ => trivial
 | x :: r, h => ⟨NL.bel h.1, NLs_bels h.2⟩
mutual
theorem slN_nil : ∀ {x : LV}, NL x → slN x = []
 | .sl _ _ _, h => by simp [NL] at h
 | .ptr _ _ _, h => by simp [NL] at h
 | .agg cs, h => by simp only [NL] at h; simp only [slN, slNs_nil h]
 | .tup cs, h => by simp only [NL] at h; simp only [slN, slNs_nil h]
 | .iface _ v, h => by simp only [NL] at h; simp only [slN, slN_nil h]
 | .ite _ a b, h => by simp only [NL] at h; simp only [slN, slN_nil h.1, slN_nil h.2, List.append_nil]
 | .func _ a b, h => by simp only [NL] at h; simp only [slN, slNs_nil h.1, slNs_nil h.2, List.append_nil]
 | .any, _ => rfl
 | .und, _ => rfl
 | .bool _, _ => rfl
 | .int _ _, _ => rfl
 | .str _, _ => rfl
 | .nilp, _ => rfl
 | .rptr _, _ => rfl
 | .ro _ _, _ => rfl
 | .nils, _ => rfl
 | .map _, _ => rfl
 | .nilm, _ => rfl
 | .nilf, _ => rfl
 | .nili, _ => rfl
theorem slNs_nil : ∀ {l : List LV}, NLs l → slNs l = []
 | [], _ => rfl
 | x :: r, h => by simp only [slNs, slN_nil h.1, slNs_nil h.2, List.append_nil]
end
theorem frz_nil {L : List Nat} {s : Slots} {H : Heap} {k : Slots → Heap → Prop} (hL : L = []) (h : k s H) : frz L s H k := by subst hL; exact h
theorem frzB_call {mt a b : List Nat} {s : Slots} {H : Heap} {k : Slots → Heap → Prop} (ha : a = []) (hb : b = []) (h : k s H) : frzB mt (a ++ b) s H k := by subst ha; subst hb; exact h
def Park (t : Bool) (A B : Prop) : Prop := (t = true → A) ∧ (t = false → B)
theorem parkI {t : Bool} {A B : Prop} (h : Park t A B) : (t = true → A) ∧ (t = false → B) := h
theorem parkX {t : Bool} {A B : Prop} (hg : t = true) (h : A) : (t = true → A) ∧ (t = false → B) := ⟨fun _ => h, fun hq => (Bool.false_ne_true (hq.symm.trans hg)).elim⟩
theorem parkE {t : Bool} {A B : Prop} (h1 : t = true → A) (h2 : t = false → B) : Park t A B := ⟨h1, h2⟩
theorem parkC {t : Bool} {A B : Prop} (h1 : t = true → A) (h2 : t = false → B) : True ∧ (t = true → A) ∧ (t = false → B) := ⟨trivial, h1, h2⟩
attribute [irreducible] Park
theorem matchT {c : Bool} {A B : Prop} (hc : c = true) (h : A) : @Bool.casesOn (fun _ => Prop) c B A := by subst hc; exact h
theorem matchF {c : Bool} {A B : Prop} (hc : c = false) (h : B) : @Bool.casesOn (fun _ => Prop) c B A := by subst hc; exact h
variable {α β γ ρ σ : Type}
theorem condT {c : Bool} {a b : Option α} {r : α} (hc : c = true) (h : (bif c then a else b) = some r) : a = some r := by subst hc; exact h
theorem condF {c : Bool} {a b : Option α} {r : α} (hc : c = false) (h : (bif c then a else b) = some r) : b = some r := by subst hc; exact h
theorem bindS {a : Option α} {f : α → Option β} {r : β} (h : a.bind f = some r) : ∃ x, a = some x ∧ f x = some r := Option.bind_eq_some_iff.1 h
def grd (p : Prop) [Decidable p] (m : Option α) : Option α := if p then m else none
theorem grdS {p : Prop} [Decidable p] {m : Option α} {r : α} (h : grd p m = some r) : p ∧ m = some r := by
 unfold grd at h; split at h
 ·exact ⟨by assumption, h⟩
 ·cases h
theorem grd_pos {p : Prop} [Decidable p] (hp : p) (m : Option α) : grd p m = m := if_pos hp
instance (n b : Nat) : Decidable (fits n b) := by unfold fits; infer_instance
def gd [Inhabited α] (g : Bool) (m : Option α) : Option α := bif g then m else some default
theorem gdS [Inhabited α] {g : Bool} {m : Option α} {r : α} (hg : g = true) (h : gd g m = some r) : m = some r := by subst hg; exact h
def gix (l : List α) (n : Int) : Option α := if 0 ≤ n then l[n.toNat]? else none
theorem gixF {f : α → β} {l : List α} {n : Int} {x : α} (h : gix l n = some x) : 0 ≤ n ∧ (l.map f)[n.toNat]? = some (f x) := by
 unfold gix at h; split at h
 ·rename_i h0; exact ⟨h0, by rw [List.getElem?_map, h]; rfl⟩
 ·cases h
theorem kixF {f : α → β} {l : List α} {k : Nat} {x : α} (h : l[k]? = some x) : 0 ≤ ((k : Nat) : Int) ∧ (l.map f)[((k : Nat) : Int).toNat]? = some (f x) :=
 ⟨Int.natCast_nonneg k, by rw [Int.toNat_natCast, List.getElem?_map, h]; rfl⟩
def gixN (l : List α) (n : Nat) : Option α := l[n]?
theorem gixNF {f : α → β} {l : List α} {n : Nat} {x : α} (h : gixN l n = some x) : (l.map f)[n]? = some (f x) := by
 unfold gixN at h; rw [List.getElem?_map, h]; rfl
def gixS (s : ByteArray) (n : Int) : Option UInt8 := if 0 ≤ n then s[n.toNat]? else none
theorem gixSF {s : ByteArray} {n : Int} {x : UInt8} (h : gixS s n = some x) : 0 ≤ n ∧ s[n.toNat]? = some x := by
 unfold gixS at h; split at h
 ·exact ⟨by assumption, h⟩
 ·cases h
theorem map_set_setN {f : α → β} {l : List α} {i : Nat} {a : α} : (l.set i a).map f = setN (l.map f) (0 + i) (f a) := by rw [setN_eq', Nat.zero_add, List.map_set]
theorem se_map {α β : Type} {f : α → β} : (∀ a b : List α, (a ++ b).map f = a.map f ++ b.map f) ∧ (∀ (a : α) (l : List α), (a :: l).map f = f a :: l.map f) ∧ (([] : List α).map f = []) ∧
  (∀ (l : List α) (n : Nat), (l.take n).map f = (l.map f).take n) ∧ (∀ (l : List α) (n : Nat), (l.drop n).map f = (l.map f).drop n) ∧ (∀ (n : Nat) (a : α), (List.replicate n a).map f = List.replicate n (f a)) ∧
  (∀ (l : List α) (i : Nat) (a : α), (l.set i a).map f = setN (l.map f) (0 + i) (f a)) :=
 ⟨fun _ _ => List.map_append, fun _ _ => rfl, rfl, fun _ _ => List.map_take, fun _ _ => List.map_drop, fun _ _ => List.map_replicate, fun _ _ _ => map_set_setN⟩
theorem length_setN {l : List α} {i : Nat} {a : α} : (setN l i a).length = l.length := by rw [setN_eq', List.length_set]
theorem se_len {α : Type} : (∀ a b : List α, (a ++ b).length = a.length + b.length) ∧ (∀ (a : α) (l : List α), (a :: l).length = l.length + 1) ∧ (([] : List α).length = 0) ∧
  (∀ (l : List α) (n : Nat), (l.take n).length = min n l.length) ∧ (∀ (l : List α) (n : Nat), (l.drop n).length = l.length - n) ∧ (∀ (n : Nat) (a : α), (List.replicate n a).length = n) ∧
  (∀ (l : List α) (i : Nat) (a : α), (setN l i a).length = l.length) ∧ (∀ (l : List α) (i : Nat) (a : α), (l.set i a).length = l.length) :=
 ⟨fun _ _ => List.length_append, fun _ _ => rfl, rfl, fun _ _ => List.length_take, fun _ _ => List.length_drop, fun _ _ => List.length_replicate, fun _ _ _ => length_setN, fun _ _ _ => List.length_set⟩
theorem w64_in {x : Int} (h : -9223372036854775808 ≤ x) (h' : x ≤ 9223372036854775807) : IntKind.i64.wrap x = x := by
 have hm : x % 18446744073709551616 = if 0 ≤ x then x else x + 18446744073709551616 := by split <;> omega
 unfold IntKind.wrap
 simp only [IntKind.bits, IntKind.signed, Bool.true_and, ge_iff_le, decide_eq_true_eq, Int.reducePow, hm, Nat.reduceSub]
 split <;> split <;> omega
theorem w64_nat (k : Nat) (h : k ≤ 1000000) : IntKind.i64.wrap (((k : Nat) : Int) + 1) = ((k + 1 : Nat) : Int) := by
 rw [show (((k : Nat) : Int) + 1) = ((k + 1 : Nat) : Int) by omega]
 exact w64_in (by omega) (by omega)
def byP (s : ByteArray) : List Int := s.data.toList.map fun b => ((b.toNat : Nat) : Int)
theorem se_ch {sz : Nat} {l : List LV} : chunk sz 0 l = [] := rfl
theorem se_byL (s : ByteArray) : (byP s).map (ikC .u8) = byL s := by unfold byP byL; rw [List.map_map]; rfl
def strP (l : List Int) : Option ByteArray := if (l.all fun x => decide (0 ≤ x) && decide (x < 256)) = true then some ⟨(l.map fun x => UInt8.ofNat x.toNat).toArray⟩ else none
theorem byP_len (s : ByteArray) : (byP s).length = s.size := by rw [← byL_len, ← se_byL, List.length_map]
theorem strPF {l : List Int} {r : ByteArray} (h : strP l = some r) : l.map (ikC .u8) = byL r := by
 unfold strP at h
 split at h
 ·rename_i ha
  cases h
  rw [List.all_eq_true] at ha
  unfold byL
  simp only [List.map_map]
  refine List.map_congr_left fun x hx => ?_
  have := ha x hx
  simp only [Bool.and_eq_true, decide_eq_true_eq] at this
  simp only [Function.comp]
  have h2 : (UInt8.ofNat x.toNat).toNat = x.toNat := by
   rw [UInt8.toNat_ofNat']; omega
  rw [h2]
  show [LV.int .u8 x] = [LV.int .u8 ((x.toNat : Nat) : Int)]
  rw [Int.toNat_of_nonneg this.1]
 ·cases h
inductive Step (ρ σ : Type) where
 | ret (r : ρ)
 | nxt (s : σ)
 | brk (s : σ)
def aftM (o : Step γ σ) (k : σ → Option γ) : Option γ := match o with
 | .ret r => some r
 | .nxt s => k s
 | .brk s => k s
def aft (m : Option (Step γ σ)) (k : σ → Option γ) : Option γ := m.bind fun o => aftM o k
theorem aftS {m : Option (Step γ σ)} {k : σ → Option γ} {r : γ} (h : aft m k = some r) : ∃ o, m = some o ∧ aftM o k = some r := bindS h
def forR (body : Nat → α → σ → Option (Step ρ σ)) : List α → Nat → σ → Option (Step ρ σ)
 | [], _, s => some (.nxt s)
 | x :: t, k, s => (body k x s).bind fun o => match o with
  | .ret r => some (.ret r)
  | .brk s => some (.nxt s)
  | .nxt s => forR body t (k + 1) s
def rangeL (body : Nat → α → σ → Option (Step ρ σ)) (xs : List α) (s : σ) : Option (Step ρ σ) := if xs.length ≤ 1000000 then forR body xs 0 s else none
def rangeN (body : Nat → σ → Option (Step ρ σ)) (n : Int) (s : σ) : Option (Step ρ σ) := rangeL (fun k _ s => body k s) (List.replicate n.toNat ()) s
def loopF : Nat → (σ → Option (Step ρ σ)) → σ → Option (Step ρ σ)
 | 0, _, _ => none
 | n + 1, body, s => (body s).bind fun o => match o with
  | .ret r => some (.ret r)
  | .brk s => some (.nxt s)
  | .nxt s => loopF n body s
section
variable {P : Program} {n n0 : Nat} {c : Code} {Q : Exit → Slots → Heap → Prop}
theorem LoopW.forR {xs : List α} {body : Nat → α → σ → Option (Step ρ σ)} {s0 : σ} {o : Step ρ σ} (sl : Nat → σ → Slots) (hp : σ → Heap) (ho : rangeL body xs s0 = some o)
  (hend : xs.length ≤ 1000000 → ∀ s, o = .nxt s → LoopW P n n0 c Q (sl xs.length s) (hp s))
  (hstep : xs.length ≤ 1000000 → ∀ k x s o1, k < xs.length → xs[k]? = some x → body k x s = some o1 → (∀ s', o1 = .nxt s' → LoopW P n n0 c Q (sl (k + 1) s') (hp s')) →
   (∀ r, o1 = .ret r → o = .ret r) → (∀ s', o1 = .brk s' → o = .nxt s') → LoopW P n n0 c Q (sl k s) (hp s)) : LoopW P n n0 c Q (sl 0 s0) (hp s0) := by
 unfold rangeL at ho
 split at ho
 ·rename_i hlen
  have key : ∀ (t : List α) (k : Nat) (s : σ), k + t.length = xs.length → (∀ i x, t[i]? = some x → xs[k + i]? = some x) → RX.forR body t k s = some o → LoopW P n n0 c Q (sl k s) (hp s) := by
   intro t
   induction t with
   | nil =>
    intro k s hk _ h
    have hk' : k = xs.length := by simpa using hk
    subst hk'
    exact hend hlen s (Option.some.inj h).symm
   | cons x t ih =>
    intro k s hk hx h
    obtain ⟨o1, h1, h2⟩ := bindS h
    have hk' : k < xs.length := by simp at hk; omega
    refine hstep hlen k x s o1 hk' (by simpa using hx 0 x rfl) h1 (fun s' e => ?_) (fun r e => ?_) (fun s' e => ?_)
    ·subst e
     exact ih (k + 1) s' (by simp at hk; omega) (fun i y hy => by have := hx (i + 1) y (by simpa using hy); rwa [show k + (i + 1) = k + 1 + i by omega] at this) h2
    ·subst e; exact (Option.some.inj h2).symm
    ·subst e; exact (Option.some.inj h2).symm
  exact key xs 0 s0 (by simp) (fun i x h => by simpa using h) ho
 ·cases ho
theorem LoopW.forN {m : Int} {body : Nat → σ → Option (Step ρ σ)} {s0 : σ} {o : Step ρ σ} (sl : Nat → σ → Slots) (hp : σ → Heap) (ho : rangeN body m s0 = some o)
  (hend : m.toNat ≤ 1000000 → ∀ s, o = .nxt s → LoopW P n n0 c Q (sl m.toNat s) (hp s))
  (hstep : m.toNat ≤ 1000000 → ∀ k s o1, k < m.toNat → body k s = some o1 → (∀ s', o1 = .nxt s' → LoopW P n n0 c Q (sl (k + 1) s') (hp s')) →
   (∀ r, o1 = .ret r → o = .ret r) → (∀ s', o1 = .brk s' → o = .nxt s') → LoopW P n n0 c Q (sl k s) (hp s)) : LoopW P n n0 c Q (sl 0 s0) (hp s0) := by
 refine LoopW.forR sl hp ho (fun hl s hs => ?_) (fun hl k x s o1 hk hx hb K hr hb2 => ?_)
 ·rw [List.length_replicate] at hl ⊢; exact hend hl s hs
 ·rw [List.length_replicate] at hl hk; exact hstep hl k s o1 hk hb K hr hb2
theorem LoopW.forF {fuel : Nat} {body : σ → Option (Step ρ σ)} {s0 : σ} {o : Step ρ σ} (sl : σ → Slots) (hp : σ → Heap) (ho : loopF fuel body s0 = some o)
  (hstep : ∀ s o1, body s = some o1 → (∀ s', o1 = .nxt s' → LoopW P n n0 c Q (sl s') (hp s')) →
   (∀ r, o1 = .ret r → o = .ret r) → (∀ s', o1 = .brk s' → o = .nxt s') → LoopW P n n0 c Q (sl s) (hp s)) : LoopW P n n0 c Q (sl s0) (hp s0) := by
 induction fuel generalizing s0 with
 | zero => cases ho
 | succ k ih =>
  obtain ⟨o1, h1, h2⟩ := bindS ho
  refine hstep s0 o1 h1 (fun s' e => ?_) (fun r e => ?_) (fun s' e => ?_)
  ·subst e; exact ih h2
  ·subst e; exact (Option.some.inj h2).symm
  ·subst e; exact (Option.some.inj h2).symm
end
theorem ba_beq (a b : ByteArray) : ((a == b) = true) ↔ a = b := by
 obtain ⟨x⟩ := a
 obtain ⟨y⟩ := b
 show ((x == y) = true) ↔ _
 rw [beq_iff_eq]
 simp
def mfindA [DecidableEq α] : List (α × β) → α → Nat → Option (Nat × β)
 | [], _, _ => none
 | (a, b) :: r, k, i => if a = k then some (i, b) else mfindA r k (i + 1)
def mfind [DecidableEq α] (m : List (α × β)) (k : α) : Option (Nat × β) := mfindA m k 0
def mget [DecidableEq α] (m : List (α × β)) (k : α) (d : β) : β := match mfind m k with
 | none => d
 | some (_, v) => v
def mhas [DecidableEq α] (m : List (α × β)) (k : α) : Bool := (mfind m k).isSome
def mput [DecidableEq α] (m : List (α × β)) (k : α) (v : β) : List (α × β) := match mfind m k with
 | none => m ++ [(k, v)]
 | some (i, _) => m.set i (k, v)
abbrev mpC (f : α → LV) (g : β → LV) (p : α × β) : LV × LV := (f p.1, g p.2)
theorem mfindA_spec [DecidableEq α] : ∀ (m : List (α × β)) (k : α) (i : Nat), match mfindA m k i with
  | none => ∀ (j : Nat) (p : α × β), m[j]? = some p → p.1 ≠ k
  | some (n, v) => ∃ l, n = i + l ∧ m[l]? = some (k, v) ∧ ∀ (j : Nat) (p : α × β), j < l → m[j]? = some p → p.1 ≠ k
 | [], k, i => fun j p h => by simp at h
 | (a, b) :: r, k, i => by
  unfold mfindA
  by_cases h : a = k
  ·rw [if_pos h]
   exact ⟨0, rfl, by simp [h], fun j p hj => absurd hj (Nat.not_lt_zero _)⟩
  ·rw [if_neg h]
   have ih := mfindA_spec r k (i + 1)
   split at ih
   ·intro j p hp
    cases j with
    | zero => simp at hp; subst hp; exact h
    | succ j => exact ih j p (by simpa using hp)
   ·rename_i n v heq
    obtain ⟨l, h1, h2, h3⟩ := ih
    refine ⟨l + 1, by omega, by simpa using h2, fun j p hj hp => ?_⟩
    cases j with
    | zero => simp at hp; subst hp; exact h
    | succ j => exact h3 j p (by omega) (by simpa using hp)
theorem mfind_none [DecidableEq α] {m : List (α × β)} {k : α} (h : mfind m k = none) (j : Nat) (p : α × β) (hp : m[j]? = some p) : p.1 ≠ k := by
 have := mfindA_spec m k 0; unfold mfind at h; rw [h] at this; exact this j p hp
theorem mfind_some [DecidableEq α] {m : List (α × β)} {k : α} {i : Nat} {v : β} (h : mfind m k = some (i, v)) : m[i]? = some (k, v) ∧ ∀ (j : Nat) (p : α × β), j < i → m[j]? = some p → p.1 ≠ k := by
 have := mfindA_spec m k 0; unfold mfind at h; rw [h] at this
 obtain ⟨l, h1, h2, h3⟩ := this
 have : i = l := by omega
 subst this; exact ⟨h2, h3⟩
theorem mfindA_of [DecidableEq α] : ∀ (m : List (α × β)) (k : α) (i l : Nat) (v : β), m[l]? = some (k, v) → (∀ (j : Nat) (p : α × β), j < l → m[j]? = some p → p.1 ≠ k) → mfindA m k i = some (i + l, v)
 | [], k, i, l, v, h, _ => by simp at h
 | (a, b) :: r, k, i, 0, v, h, _ => by simp at h; unfold mfindA; rw [if_pos h.1, h.2]; rfl
 | (a, b) :: r, k, i, l + 1, v, h, h2 => by
  unfold mfindA
  rw [if_neg (h2 0 (a, b) (Nat.succ_pos _) rfl), mfindA_of r k (i + 1) l v (by simpa using h) (fun j p hj hp => h2 (j + 1) p (by omega) (by simpa using hp))]
  congr 2; omega
theorem mfind_of [DecidableEq α] {m : List (α × β)} {k : α} {i : Nat} {v : β} (h : m[i]? = some (k, v)) (h2 : ∀ (j : Nat) (p : α × β), j < i → m[j]? = some p → p.1 ≠ k) : mfind m k = some (i, v) := by
 have := mfindA_of m k 0 i v h h2; rw [Nat.zero_add] at this; exact this
theorem mput_none [DecidableEq α] {m : List (α × β)} {k : α} (h : mfind m k = none) (v : β) : mput m k v = m ++ [(k, v)] := by unfold mput; rw [h]
theorem mput_some [DecidableEq α] {m : List (α × β)} {k : α} {i : Nat} {u : β} (h : mfind m k = some (i, u)) (v : β) : mput m k v = m.set i (k, v) := by unfold mput; rw [h]
theorem mget_none [DecidableEq α] {m : List (α × β)} {k : α} (h : mfind m k = none) (d : β) : mget m k d = d := by unfold mget; rw [h]
theorem mget_some [DecidableEq α] {m : List (α × β)} {k : α} {i : Nat} {u : β} (h : mfind m k = some (i, u)) (d : β) : mget m k d = u := by unfold mget; rw [h]
theorem mhas_none [DecidableEq α] {m : List (α × β)} {k : α} (h : mfind m k = none) : mhas m k = false := by unfold mhas; rw [h]; rfl
theorem mhas_some [DecidableEq α] {m : List (α × β)} {k : α} {i : Nat} {u : β} (h : mfind m k = some (i, u)) : mhas m k = true := by unfold mhas; rw [h]; rfl
theorem mfind_app [DecidableEq α] {m : List (α × β)} {k : α} (h : mfind m k = none) (v : β) : mfind (m ++ [(k, v)]) k = some (m.length, v) :=
 mfind_of (by simp) fun j p hj hp => mfind_none h j p (by rwa [List.getElem?_append_left hj] at hp)
theorem mfind_set [DecidableEq α] {m : List (α × β)} {k : α} {i : Nat} {u : β} (h : mfind m k = some (i, u)) (v : β) : mfind (m.set i (k, v)) k = some (i, v) := by
 obtain ⟨h1, h2⟩ := mfind_some h
 refine mfind_of (by rw [List.getElem?_set_self (List.getElem?_eq_some_iff.1 h1).1]) fun j p hj hp => h2 j p hj ?_
 rwa [List.getElem?_set_ne (by omega)] at hp
theorem mget_mput [DecidableEq α] (m : List (α × β)) (k : α) (v d : β) : mget (mput m k v) k d = v := by
 cases h : mfind m k with
 | none => rw [mput_none h, mget_some (mfind_app h v)]
 | some p => obtain ⟨i, u⟩ := p; rw [mput_some h, mget_some (mfind_set h v)]
theorem finds_none [DecidableEq α] {T : List (Nat × TE)} {kt : Nat} {f : α → LV} {g : β → LV} (he : ∀ a b, eqL T 8 kt (f a) (f b) = some (decide (a = b))) {m : List (α × β)} {k : α} (h : mfind m k = none) :
  Finds T kt (m.map (mpC f g)) (f k) none := fun j p hp => by
 rw [List.getElem?_map, Option.map_eq_some_iff] at hp
 obtain ⟨q, hq, rfl⟩ := hp
 show eqL T 8 kt (f k) (f q.1) = some false
 rw [he, decide_eq_false (Ne.symm (mfind_none h j q hq))]
theorem finds_some [DecidableEq α] {T : List (Nat × TE)} {kt : Nat} {f : α → LV} {g : β → LV} (he : ∀ a b, eqL T 8 kt (f a) (f b) = some (decide (a = b))) {m : List (α × β)} {k : α} {i : Nat} {v : β} (h : mfind m k = some (i, v)) :
  Finds T kt (m.map (mpC f g)) (f k) (some (i, g v)) := by
 obtain ⟨h1, h2⟩ := mfind_some h
 refine ⟨by rw [List.getElem?_map, h1]; rfl, fun j p hj hp => ?_⟩
 rw [List.getElem?_map, Option.map_eq_some_iff] at hp
 obtain ⟨q, hq, rfl⟩ := hp
 show eqL T 8 kt (f k) (f q.1) = some false
 rw [he, decide_eq_false (Ne.symm (h2 j q hj hq))]
theorem se_mp {f : α → LV} {g : β → LV} : (∀ a b : List (α × β), (a ++ b).map (mpC f g) = a.map (mpC f g) ++ b.map (mpC f g)) ∧ (∀ (k : α) (v : β) (l : List (α × β)), ((k, v) :: l).map (mpC f g) = (f k, g v) :: l.map (mpC f g)) ∧ ((([] : List (α × β)).map (mpC f g)) = []) ∧
  (∀ (l : List (α × β)) (i : Nat) (k : α) (v : β), (l.set i (k, v)).map (mpC f g) = setN (l.map (mpC f g)) i (f k, g v)) :=
 ⟨fun _ _ => List.map_append, fun _ _ _ => rfl, rfl, fun _ _ _ _ => by rw [setN_eq', List.map_set]⟩
theorem entA {γ : Type} (l : List γ) (p : γ) : (0 : Int) ≤ ((l.length : Nat) : Int) ∧ (l ++ [p])[(((l.length : Nat) : Int)).toNat]? = some p := ⟨by omega, by simp⟩
theorem entAS {γ : Type} (l : List γ) (p q : γ) : setN (l ++ [p]) (((l.length : Nat) : Int)).toNat q = l ++ [q] := by
 rw [setN_eq', Int.toNat_natCast, List.set_append_right _ _ (Nat.le_refl _), Nat.sub_self]; rfl
theorem entS [DecidableEq α] {f : α → LV} {g : β → LV} {m : List (α × β)} {k : α} {i : Nat} {u : β} (h : mfind m k = some (i, u)) : (0 : Int) ≤ ((i : Nat) : Int) ∧ (m.map (mpC f g))[(((i : Nat) : Int)).toNat]? = some (f k, g u) := by
 refine ⟨by omega, ?_⟩
 rw [Int.toNat_natCast, List.getElem?_map, (mfind_some h).1]; rfl
theorem entSS {γ : Type} {l : List γ} {i : Nat} {q : γ} : setN l (((i : Nat) : Int)).toNat q = setN l i q := by rw [Int.toNat_natCast]
def symR [DecidableEq α] (g : β → LV) (m : List (α × β)) (k : α) : Option (Nat × LV) := (mfind m k).map fun p => (p.1, g p.2)
theorem findsS [DecidableEq α] {T : List (Nat × TE)} {kt : Nat} {f : α → LV} {g : β → LV} (he : ∀ a b, eqL T 8 kt (f a) (f b) = some (decide (a = b))) (m : List (α × β)) (k : α) : Finds T kt (m.map (mpC f g)) (f k) (symR g m k) := by
 unfold symR
 cases h : mfind m k with
 | none => exact finds_none he h
 | some p => obtain ⟨i, v⟩ := p; exact finds_some he h
theorem resM_sym [DecidableEq α] {g : β → LV} {m : List (α × β)} {k : α} {z : Value} {d : β} (hz : lvOf z = g d) : resM z false (symR g m k) = g (mget m k d) := by
 unfold symR
 cases h : mfind m k with
 | none => rw [mget_none h]; exact hz
 | some p => obtain ⟨i, v⟩ := p; rw [mget_some h]; rfl
theorem resM_symT [DecidableEq α] {g : β → LV} {m : List (α × β)} {k : α} {z : Value} {d : β} (hz : lvOf z = g d) : resM z true (symR g m k) = .tup [g (mget m k d), .bool (mhas m k)] := by
 unfold symR
 cases h : mfind m k with
 | none => rw [mget_none h, mhas_none h, ← hz]; rfl
 | some p => obtain ⟨i, v⟩ := p; rw [mget_some h, mhas_some h]; rfl
theorem putE_sym [DecidableEq α] (f : α → LV) (g : β → LV) (m : List (α × β)) (k : α) (v : β) : putE (m.map (mpC f g)) (f k) (g v) (symR g m k) = (mput m k v).map (mpC f g) := by
 unfold symR
 cases h : mfind m k with
 | none => rw [mput_none h, List.map_append]; rfl
 | some p => obtain ⟨i, u⟩ := p; rw [mput_some h, List.map_set, ← setN_eq']; rfl
theorem NL_mp {f : α → LV} {g : β → LV} (hf : ∀ a, NL (f a)) (hg : ∀ b, NL (g b)) (m : List (α × β)) : ∀ p ∈ m.map (mpC f g), NL p.1 ∧ NL p.2 := fun p hp => by
 obtain ⟨q, _, rfl⟩ := List.mem_map.1 hp; exact ⟨hf q.1, hg q.2⟩
theorem bel_mp {f : α → LV} {g : β → LV} (hf : ∀ a, NL (f a)) (hg : ∀ b, NL (g b)) (n : Nat) (m : List (α × β)) : ∀ p ∈ m.map (mpC f g), bel n p.1 ∧ bel n p.2 := fun p hp => by
 obtain ⟨h1, h2⟩ := NL_mp hf hg m p hp; exact ⟨h1.bel, h2.bel⟩
def Up (x y : LV) : Prop := ∀ (E : Env) (w : World) (v : Value), G E w x v → G E w y v
def Ups : List LV → List LV → Prop
 | [], [] => True
 | a :: r, b :: s => Up a b ∧ Ups r s
 | _, _ => False
theorem Up.refl (x : LV) : Up x x := fun _ _ _ h => h
theorem Up.nil (sz : Nat) : Up .nils (.ro sz []) := fun E w v h => by cases h; exact .roNil sz
theorem Ups.get : ∀ {a b : List LV}, Ups a b → a.length = b.length ∧ ∀ (i : Nat) (x y : LV), a[i]? = some x → b[i]? = some y → Up x y
 | [], [], _ => ⟨rfl, fun i x y h => by simp at h⟩
 | [], _ :: _, h => by simp [Ups] at h
 | _ :: _, [], h => by simp [Ups] at h
 | a :: r, b :: s, h => by
  obtain ⟨h1, h2⟩ := Ups.get h.2
  refine ⟨by simp [h1], fun i x y hx hy => ?_⟩
  cases i with
  | zero => simp at hx hy; subst hx; subst hy; exact h.1
  | succ i => exact h2 i x y (by simpa using hx) (by simpa using hy)
theorem Up.agg {a b : List LV} (h : Ups a b) : Up (.agg a) (.agg b) := fun E w v hg => by
 obtain ⟨h1, h2⟩ := h.get
 cases hg with
 | agg cs arr hl h1' hh =>
  refine .agg b arr (hl.trans h1) h1' fun i y hy => ?_
  have hi : i < a.length := by rw [h1]; exact (List.getElem?_eq_some_iff.1 hy).1
  exact h2 i _ y (List.getElem?_eq_getElem hi) hy E w _ (hh i _ (List.getElem?_eq_getElem hi))
theorem CallP.up {P : Program} {f : FuncId} {args args' : List LV} {r : LV} (h : CallP P f args' r) (hu : Ups args args') : CallP P f args r := fun H => by
 obtain ⟨h1, h2⟩ := hu.get
 refine ⟨(h H).1, fun E w vals hr hg => (h H).2 E w vals hr ⟨hg.1.trans h1, fun i x v hx hv => ?_⟩⟩
 have hi : i < args.length := by rw [h1]; exact (List.getElem?_eq_some_iff.1 hx).1
 exact h2 i _ x (List.getElem?_eq_getElem hi) hx E w v (hg.2 i _ v (List.getElem?_eq_getElem hi) hv)
def upS (s : Slots) : Slots → Prop
 | [] => True
 | (t, v) :: r => Up (get s t) v ∧ upS s r
theorem upS_get {s : Slots} : ∀ {r : Slots}, upS s r → ∀ t, get r t = .any ∨ Up (get s t) (get r t)
 | [], _, t => .inl rfl
 | (u, v) :: r, h, t => by
  simp only [get]
  by_cases e : t = u
  ·subst e; rw [show Nat.beq t t = true by simp]; exact .inr h.1
  ·rw [show Nat.beq t u = false by cases hb : Nat.beq t u with
   | true => exact absurd (Nat.eq_of_beq_eq_true hb) e
   | false => rfl]; exact upS_get h.2 t
theorem LoopW.up {P : Program} {n n0 : Nat} {c : Code} {Q : Exit → Slots → Heap → Prop} {s : Slots} {H : Heap} (s' : Slots) (hu : upS s s') (h : LoopW P n n0 c Q s' H) : LoopW P n n0 c Q s H := by
 intro E0 w0 hn E w a hsr hr hx
 refine h E0 w0 hn E w a ⟨hsr.size, hsr.defers, fun t => ?_⟩ hr hx
 rcases upS_get hu t with h1 | h1
 ·rw [h1]; exact .any _
 ·exact h1 E w _ (hsr.slot t)
end Go.RX
