/- RX, part D: two writes of a region that may be done in either order. -/
import Derived.Test.YtljecfgfbebjiaaRXC
set_option linter.unusedVariables false
namespace Go.RX
section
variable {P : Program} {T : List (Nat × TE)}

def LF (ops : Array Oper) : Nat → Array Bool → List Nat → Prop
 | 0, _, l => l = []
 | _ + 1, listed, [] => Region.ready .any ops listed = []
 | f + 1, listed, i :: l => i ∈ Region.ready .any ops listed ∧ LF ops f (listed.setIfInBounds i true) l

theorem LF_go (ops : Array Oper) : ∀ (fuel t : Nat) (listed : Array Bool), LF ops fuel listed (Region.linearise.go .any ops fuel t listed []) := by
 intro fuel
 induction fuel with
 | zero => intro t listed; simp [Region.linearise.go, LF]
 | succ fuel ih =>
  intro t listed
  simp only [Region.linearise.go]
  change LF ops (fuel + 1) listed (match (Region.ready .any ops listed)[t % (Region.ready .any ops listed).length]? with
   | some i => Region.linearise.go .any ops fuel (t / (Region.ready .any ops listed).length) (listed.setIfInBounds i true) [i]
   | none => [].reverse)
  cases hi : (Region.ready .any ops listed)[t % (Region.ready .any ops listed).length]? with
  | none =>
   have hnil : Region.ready .any ops listed = [] := by
    cases hr : Region.ready .any ops listed with
    | nil => rfl
    | cons x xs =>
     rw [hr] at hi
     have hlt : t % (x :: xs).length < (x :: xs).length := Nat.mod_lt _ (by simp)
     simp at hi
     simp at hlt
     omega
   simpa [LF] using hnil
  | some i =>
   simp only []
   rw [linearise_go_acc, List.reverse_singleton, List.singleton_append]
   exact ⟨List.mem_of_getElem? hi, ih _ _⟩

theorem wpAny_LF {ops : Array Oper} {Q : Exit → Act → World → Prop} : ∀ (fuel : Nat) (listed : Array Bool) (l : List Nat) (a : Act) (w : World), wpAny P .any ops Q fuel listed a w → LF ops fuel listed l → wpOps P ops Q l a w := by
 intro fuel
 induction fuel with
 | zero => intro listed l a w h hl; simp only [LF] at hl; subst hl; exact h.2
 | succ fuel ih =>
  intro listed l a w h hl
  cases l with
  | nil => exact h.1 hl
  | cons i l =>
   rw [wpOps_cons]
   exact wpOp_mono (fun a w h' => ih _ _ a w h' hl.2) (h.2 i hl.1)

def addE (b a : Nat) (l : List Oper) : List Oper := setN l b (match nth l b with
 | some o => ⟨o.dst, o.op, o.type, o.pos, (⟨a, .data⟩ :: o.after.toList).toArray, o.guard⟩
 | none => ⟨none, .move (.const undef), 0, "", #[], none⟩)

theorem ready_mem {ops : Array Oper} {listed : Array Bool} {i : Nat} : i ∈ Region.ready .any ops listed ↔ i < ops.size ∧ listed.getD i true = false ∧ ∃ o, ops[i]? = some o ∧ ∀ e ∈ o.after.toList, Region.binds .any e = true → listed.getD e.on false = true := by
 unfold Region.ready
 rw [List.mem_filter, List.mem_range]
 constructor
 ·rintro ⟨h1, h2⟩
  rw [Bool.and_eq_true] at h2
  obtain ⟨h2, h3⟩ := h2
  refine ⟨h1, by simpa using h2, ?_⟩
  rw [Array.getElem?_eq_getElem h1] at h3
  simp only [Option.map_some, Option.getD_some] at h3
  refine ⟨_, Array.getElem?_eq_getElem h1, fun e he hb => ?_⟩
  rw [← Array.all_toList, List.all_eq_true] at h3
  have := h3 e he
  rw [hb] at this
  simpa using this
 ·rintro ⟨h1, h2, o, h3, h4⟩
  refine ⟨h1, ?_⟩
  rw [Bool.and_eq_true]
  refine ⟨by rw [h2]; rfl, ?_⟩
  rw [h3]
  simp only [Option.map_some, Option.getD_some]
  rw [← Array.all_toList, List.all_eq_true]
  intro e he
  cases hb : Region.binds .any e with
  | false => rfl
  | true => simp [h4 e he hb]

theorem addE_length (b a : Nat) (l : List Oper) : (addE b a l).length = l.length := by unfold addE; rw [setN_eq, List.length_set]
theorem addE_ne {b a i : Nat} {l : List Oper} (h : i ≠ b) : (addE b a l)[i]? = l[i]? := by unfold addE; rw [setN_eq, List.getElem?_set_ne (Ne.symm h)]
theorem addE_eq {b a : Nat} {l : List Oper} {o : Oper} (h : l[b]? = some o) : (addE b a l)[b]? = some ⟨o.dst, o.op, o.type, o.pos, (⟨a, .data⟩ :: o.after.toList).toArray, o.guard⟩ := by
 unfold addE
 have hl := (List.getElem?_eq_some_iff.1 h).1
 rw [nth_eq, h, setN_eq, List.getElem?_set_self hl]

theorem addE_ready_sub {ops : Array Oper} {listed : Array Bool} {a b i : Nat} (h : i ∈ Region.ready .any ⟨addE b a ops.toList⟩ listed) : i ∈ Region.ready .any ops listed := by
 rw [ready_mem] at h ⊢
 obtain ⟨h1, h2, o, h3, h4⟩ := h
 have hs : (⟨addE b a ops.toList⟩ : Array Oper).size = ops.size := by simp [addE_length]
 refine ⟨by rw [← hs]; exact h1, h2, ?_⟩
 rw [List.getElem?_toArray] at h3
 by_cases hib : i = b
 ·subst hib
  have hi : i < ops.toList.length := by have := (List.getElem?_eq_some_iff.1 h3).1; rwa [addE_length] at this
  have ho := List.getElem?_eq_getElem hi
  rw [addE_eq ho] at h3
  cases h3
  exact ⟨_, by rw [← Array.getElem?_toList]; exact ho, fun e he hb => h4 e (by simp; exact .inr (by simpa using he)) hb⟩
 ·rw [addE_ne hib] at h3
  exact ⟨o, by simpa using h3, h4⟩
theorem addE_ready {ops : Array Oper} {listed : Array Bool} {a b i : Nat} (h : i ∈ Region.ready .any ops listed) (hc : i ≠ b ∨ listed.getD a false = true) : i ∈ Region.ready .any ⟨addE b a ops.toList⟩ listed := by
 rw [ready_mem] at h ⊢
 obtain ⟨h1, h2, o, h3, h4⟩ := h
 have hs : (⟨addE b a ops.toList⟩ : Array Oper).size = ops.size := by simp [addE_length]
 refine ⟨by rw [hs]; exact h1, h2, ?_⟩
 have h3' : ops.toList[i]? = some o := by simpa using h3
 by_cases hib : i = b
 ·subst hib
  rcases hc with hc | hc
  ·exact absurd rfl hc
  refine ⟨_, by rw [List.getElem?_toArray]; exact addE_eq h3', fun e he hb => ?_⟩
  simp only [List.mem_cons] at he
  rcases he with rfl | he
  ·exact hc
  ·exact h4 e he hb
 ·exact ⟨o, by rw [List.getElem?_toArray, addE_ne hib]; exact h3', h4⟩

theorem getD_set {listed : Array Bool} {i j : Nat} {d : Bool} (h : listed.getD i d = true) (hi : i < listed.size) : (listed.setIfInBounds j true).getD i d = true := by
 simp only [Array.getD_eq_getD_getElem?] at h ⊢
 rw [Array.getElem?_setIfInBounds]
 by_cases hij : j = i
 ·subst hij; rw [if_pos rfl, if_pos hi]; rfl
 ·rw [if_neg hij]; exact h
theorem LF_later {ops : Array Oper} {a b : Nat} : ∀ (fuel : Nat) (listed : Array Bool) (l : List Nat), a < listed.size → listed.getD a false = true → LF ops fuel listed l → LF ⟨addE b a ops.toList⟩ fuel listed l := by
 intro fuel
 induction fuel with
 | zero => intro listed l _ _ h; exact h
 | succ fuel ih =>
  intro listed l hs ha h
  cases l with
  | nil =>
   simp only [LF] at h ⊢
   refine List.eq_nil_iff_forall_not_mem.2 fun i hi => ?_
   have := addE_ready_sub hi
   rw [h] at this
   cases this
  | cons i l => exact ⟨addE_ready h.1 (.inr ha), ih _ _ (by simpa using hs) (getD_set ha hs) h.2⟩

theorem LF_two {ops : Array Oper} {a b : Nat} (hab : a ≠ b) : ∀ (fuel : Nat) (listed : Array Bool) (l : List Nat), listed.size = ops.size → LF ops fuel listed l → LF ⟨addE b a ops.toList⟩ fuel listed l ∨ LF ⟨addE a b ops.toList⟩ fuel listed l := by
 intro fuel
 induction fuel with
 | zero => intro listed l _ h; exact .inl h
 | succ fuel ih =>
  intro listed l hs h
  cases l with
  | nil =>
   refine .inl ?_
   simp only [LF] at h ⊢
   refine List.eq_nil_iff_forall_not_mem.2 fun i hi => ?_
   have := addE_ready_sub hi
   rw [h] at this
   cases this
  | cons i l =>
   have hi := (ready_mem.1 h.1).1
   have hset : ∀ j, j < listed.size → (listed.setIfInBounds j true).getD j false = true := fun j hj => by
    simp [Array.getD, hj]
   by_cases hia : i = a
   ·subst hia
    exact .inl ⟨addE_ready h.1 (.inl hab), LF_later _ _ _ (by simpa [hs] using hi) (hset i (by omega)) h.2⟩
   ·by_cases hib : i = b
    ·subst hib
     exact .inr ⟨addE_ready h.1 (.inl hia), LF_later _ _ _ (by simpa [hs] using hi) (hset i (by omega)) h.2⟩
    ·rcases ih (listed.setIfInBounds i true) l (by simpa using hs) h.2 with h1 | h1
     ·exact .inl ⟨addE_ready h.1 (.inl hib), h1⟩
     ·exact .inr ⟨addE_ready h.1 (.inl hia), h1⟩

def pix (l : List Nat) (i : Nat) : Nat := match nth l i with
 | some j => j
 | none => l.length
theorem pix_eq (l : List Nat) (i : Nat) : pix l i = (l[i]?).getD l.length := by
 unfold pix; rw [nth_eq]; cases l[i]? <;> rfl
def mapOn (τ : List Nat) : List Edge → List Edge
 | [] => []
 | e :: r => ⟨pix τ e.on, e.ground⟩ :: mapOn τ r
theorem mapOn_eq (τ : List Nat) : ∀ l : List Edge, mapOn τ l = l.map fun e => ⟨pix τ e.on, e.ground⟩
 | [] => rfl
 | e :: r => by rw [mapOn, mapOn_eq τ r]; rfl
def remap (τ : List Nat) (o : Oper) : Oper := ⟨o.dst, o.op, o.type, o.pos, (mapOn τ o.after.toList).toArray, o.guard⟩
def dfltO : Oper := ⟨none, .move (.const undef), 0, "", #[], none⟩
def permL (σ τ : List Nat) (l : List Oper) : List Oper := match σ with
 | [] => []
 | i :: r => (match nth l i with
  | some o => remap τ o
  | none => dfltO) :: permL r τ l
theorem permL_eq (τ : List Nat) (l : List Oper) : ∀ σ : List Nat, permL σ τ l = σ.map fun i => match l[i]? with
  | some o => remap τ o
  | none => dfltO
 | [] => rfl
 | i :: r => by rw [permL, permL_eq τ l r, nth_eq]; rfl
def permOk (σ τ : List Nat) (n : Nat) : Bool := Nat.beq σ.length n && Nat.beq τ.length n && (List.range n).all fun i => Nat.blt (pix σ i) n && Nat.blt (pix τ i) n && Nat.beq (pix τ (pix σ i)) i && Nat.beq (pix σ (pix τ i)) i
structure PermOk (σ τ : List Nat) (n : Nat) : Prop where
 ls : σ.length = n
 lt : τ.length = n
 sb : ∀ i, i < n → pix σ i < n
 tb : ∀ i, i < n → pix τ i < n
 ts : ∀ i, i < n → pix τ (pix σ i) = i
 st : ∀ i, i < n → pix σ (pix τ i) = i
theorem permOk_spec {σ τ : List Nat} {n : Nat} (h : permOk σ τ n = true) : PermOk σ τ n := by
 simp only [permOk, Bool.and_eq_true, List.all_eq_true, List.mem_range] at h
 obtain ⟨⟨h1, h2⟩, h3⟩ := h
 have blt : ∀ {a b : Nat}, Nat.blt a b = true → a < b := fun h => Nat.le_of_ble_eq_true h
 exact ⟨Nat.eq_of_beq_eq_true h1, Nat.eq_of_beq_eq_true h2, fun i hi => blt (h3 i hi).1.1.1, fun i hi => blt (h3 i hi).1.1.2, fun i hi => Nat.eq_of_beq_eq_true (h3 i hi).1.2, fun i hi => Nat.eq_of_beq_eq_true (h3 i hi).2⟩

section perm
variable {σ τ : List Nat} {ops : Array Oper}
theorem perm_at (hp : PermOk σ τ ops.toList.length) {i : Nat} {o : Oper} (h : ops[i]? = some o) : (⟨permL σ τ ops.toList⟩ : Array Oper)[pix τ i]? = some (remap τ o) := by
 have h' : ops.toList[i]? = some o := by simpa using h
 have hi : i < ops.toList.length := (List.getElem?_eq_some_iff.1 h').1
 have hti := hp.tb i hi
 rw [List.getElem?_toArray, permL_eq, List.getElem?_map]
 have hs : σ[pix τ i]? = some i := by
  have := hp.st i hi
  rw [pix_eq σ] at this
  have hlt : pix τ i < σ.length := by rw [hp.ls]; exact hti
  rw [List.getElem?_eq_getElem hlt] at this ⊢
  simpa using this
 rw [hs, Option.map_some, h']
theorem perm_back (hp : PermOk σ τ ops.toList.length) {j : Nat} (hj : j < ops.toList.length) : ∃ o, ops[pix σ j]? = some o ∧ (⟨permL σ τ ops.toList⟩ : Array Oper)[j]? = some (remap τ o) := by
 have hs := hp.sb j hj
 have ho : ops[pix σ j]? = some (ops.toList[pix σ j]) := by
  rw [← Array.getElem?_toList]; exact List.getElem?_eq_getElem hs
 have := perm_at hp ho
 rw [hp.ts j hj] at this
 exact ⟨_, ho, this⟩
def RelL (σ τ : List Nat) (n : Nat) (l l' : Array Bool) : Prop := l.size = n ∧ l'.size = n ∧ ∀ i, i < n → l'.getD (pix τ i) false = l.getD i false
theorem getD_tf {l : Array Bool} {i : Nat} (h : i < l.size) : l.getD i true = l.getD i false := by simp [Array.getD, h]
theorem pix_big {τ : List Nat} {n i : Nat} (h : τ.length = n) (hi : n ≤ i) : pix τ i = n := by
 rw [pix_eq, List.getElem?_eq_none (by omega), Option.getD_none, h]
theorem RelL.ready (hp : PermOk σ τ ops.toList.length) {l l' : Array Bool} (hr : RelL σ τ ops.toList.length l l') {i : Nat} (h : i ∈ Region.ready .any ops l) : pix τ i ∈ Region.ready .any ⟨permL σ τ ops.toList⟩ l' := by
 rw [ready_mem] at h ⊢
 obtain ⟨h1, h2, o, h3, h4⟩ := h
 have hn : i < ops.toList.length := by simpa using h1
 have hti := hp.tb i hn
 refine ⟨by simp [permL_eq, hp.ls]; simpa using hti, ?_, _, perm_at hp h3, fun e he hb => ?_⟩
 ·rw [getD_tf (by rw [hr.2.1]; exact hti), hr.2.2 i hn, ← getD_tf (by rw [hr.1]; exact hn)]; exact h2
 ·simp only [remap, mapOn_eq, List.mem_map] at he
  obtain ⟨e0, he0, rfl⟩ := he
  have := h4 e0 (by simpa using he0) hb
  have hon : e0.on < ops.toList.length := by
   rcases Nat.lt_or_ge e0.on ops.toList.length with h | h
   ·exact h
   ·rw [Array.getD_eq_getD_getElem?, Array.getElem?_eq_none (by rw [hr.1]; exact h)] at this; cases this
  exact (hr.2.2 _ hon).trans this
theorem RelL.unready (hp : PermOk σ τ ops.toList.length) {l l' : Array Bool} (hr : RelL σ τ ops.toList.length l l') {j : Nat} (h : j ∈ Region.ready .any ⟨permL σ τ ops.toList⟩ l') : pix σ j ∈ Region.ready .any ops l := by
 rw [ready_mem] at h ⊢
 obtain ⟨h1, h2, o', h3, h4⟩ := h
 have hj : j < ops.toList.length := by simp [permL_eq, hp.ls] at h1; simpa using h1
 obtain ⟨o, ho, hoj⟩ := perm_back hp hj
 rw [hoj] at h3
 cases h3
 have hs := hp.sb j hj
 have hrel : ∀ i, i < ops.toList.length → l'.getD i false = l.getD (pix σ i) false := fun i hi => by
  have := hr.2.2 (pix σ i) (hp.sb i hi)
  rwa [hp.ts i hi] at this
 refine ⟨by simpa using hs, ?_, o, ho, fun e he hb => ?_⟩
 ·rw [getD_tf (by rw [hr.1]; exact hs), ← hrel j hj, ← getD_tf (by rw [hr.2.1]; exact hj)]; exact h2
 ·have := h4 ⟨pix τ e.on, e.ground⟩ (by simp only [remap, mapOn_eq]; simp; exact ⟨e, by simpa using he, rfl, rfl⟩) hb
  simp only at this
  rcases Nat.lt_or_ge e.on ops.toList.length with h | h
  ·rw [← hr.2.2 _ h]; exact this
  ·rw [pix_big hp.lt h, Array.getD_eq_getD_getElem?, Array.getElem?_eq_none (by rw [hr.2.1]; exact Nat.le_refl _)] at this; cases this
theorem RelL.set (hp : PermOk σ τ ops.toList.length) {l l' : Array Bool} (hr : RelL σ τ ops.toList.length l l') {i : Nat} (hi : i < ops.toList.length) : RelL σ τ ops.toList.length (l.setIfInBounds i true) (l'.setIfInBounds (pix τ i) true) := by
 refine ⟨by simpa using hr.1, by simpa using hr.2.1, fun k hk => ?_⟩
 have := hr.2.2 k hk
 simp only [Array.getD_eq_getD_getElem?] at this ⊢
 rw [Array.getElem?_setIfInBounds, Array.getElem?_setIfInBounds]
 by_cases hik : i = k
 ·subst hik
  have h1 : i < l.size := by rw [hr.1]; exact hi
  have h2 : pix τ i < l'.size := by rw [hr.2.1]; exact hp.tb i hi
  simp [h1, h2]
 ·have hne : pix τ i ≠ pix τ k := fun h => hik (by rw [← hp.st i hi, ← hp.st k hk, h])
  rw [if_neg hik, if_neg hne]; exact this
theorem LF_perm (hp : PermOk σ τ ops.toList.length) : ∀ (fuel : Nat) (l l' : Array Bool) (s : List Nat), RelL σ τ ops.toList.length l l' → LF ops fuel l s → LF ⟨permL σ τ ops.toList⟩ fuel l' (s.map (pix τ)) := by
 intro fuel
 induction fuel with
 | zero => intro l l' s _ h; simp only [LF] at h ⊢; subst h; rfl
 | succ fuel ih =>
  intro l l' s hr h
  cases s with
  | nil =>
   simp only [LF, List.map_nil] at h ⊢
   refine List.eq_nil_iff_forall_not_mem.2 fun j hj => ?_
   have := hr.unready hp hj
   rw [h] at this
   cases this
  | cons i s =>
   have hi : i < ops.toList.length := by simpa using (ready_mem.1 h.1).1
   exact ⟨hr.ready hp h.1, ih _ _ _ (hr.set hp hi) h.2⟩
def likeO (o o' : Oper) : Prop := o'.dst = o.dst ∧ o'.op = o.op ∧ o'.type = o.type ∧ o.guard = none ∧ o'.guard = none
theorem likeO.wp {o o' : Oper} (h : likeO o o') {a : Act} {w : World} {K : Act → World → Prop} {Q : Exit → Act → World → Prop} : (o'.wp P a w K Q ∨ (o'.asks P a w ∧ LetsOut Q)) = (o.wp P a w K Q ∨ (o.asks P a w ∧ LetsOut Q)) := by
 obtain ⟨d, op, ty, pos, af, g⟩ := o
 obtain ⟨d', op', ty', pos', af', g'⟩ := o'
 obtain ⟨h1, h2, h3, h4, h5⟩ := h
 simp only at h1 h2 h3 h4 h5
 subst h1; subst h2; subst h3; subst h4; subst h5
 rfl
theorem wpOps_like {ops ops' : Array Oper} {Q : Exit → Act → World → Prop} (f : Nat → Nat) : ∀ (l : List Nat), (∀ i ∈ l, ∃ o o', ops[i]? = some o ∧ ops'[f i]? = some o' ∧ likeO o o') →
  ∀ (a : Act) (w : World), wpOps P ops' Q (l.map f) a w → wpOps P ops Q l a w
 | [], _, a, w, h => h
 | i :: l, hl, a, w, h => by
  obtain ⟨o, o', h1, h2, h3⟩ := hl i List.mem_cons_self
  rw [List.map_cons, wpOps_cons] at h
  rw [wpOps_cons]
  unfold wpOp at h ⊢
  rw [h2] at h
  rw [h1]
  simp only [Region.wanted, h3.2.2.2.1, h3.2.2.2.2, if_true] at h ⊢
  rw [h3.wp] at h
  exact h.imp (Oper.wp_mono fun a w => wpOps_like f l (fun j hj => hl j (List.mem_cons_of_mem _ hj)) a w) id
end perm

theorem LF_mem {ops : Array Oper} : ∀ (fuel : Nat) (listed : Array Bool) (l : List Nat), LF ops fuel listed l → ∀ i ∈ l, i < ops.size := by
 intro fuel
 induction fuel with
 | zero => intro listed l h i hi; simp only [LF] at h; subst h; cases hi
 | succ fuel ih =>
  intro listed l h i hi
  cases l with
  | nil => cases hi
  | cons j l =>
   rcases List.mem_cons.1 hi with rfl | hi
   ·exact (ready_mem.1 h.1).1
   ·exact ih _ _ h.2 i hi

def toP (sf : Slots) (m n0 : Nat) (lf : List (Nat × Blk)) : Exit → Slots → Heap → Prop := fun e s H => e = .normal ∧ ∃ ρ, onceP m ρ = true ∧ renS ρ s sf ∧ renL ρ H.live m 0 ρ lf ∧ stayOk n0 ρ = true ∧ Nat.ble n0 m = true

theorem W.two {n n0 id : Nat} {ops : Array Oper} {Q : Exit → Slots → Heap → Prop} {s : Slots} {H : Heap} (a b : Nat) (σ τ : List Nat) (sf : Slots) (m : Nat) (lf : List (Nat × Blk)) (hm : P.follows .mixedOrders = true)
  (hg : (ops.toList.all fun o => match o.guard with | none => true | some _ => false) = true) (hp : permOk σ τ ops.toList.length = true) (hab : Nat.beq a b = false)
  (h1 : WA P n n0 ⟨addE b a ops.toList⟩ (toP sf m n0 lf) s H) (h2 : WA P n n0 ⟨permL σ τ (addE a b ops.toList)⟩ (toP sf m n0 lf) s H) (hK : Q .normal sf ⟨m, lf⟩) : W P n n0 (.region id ops true) Q s H := by
 have hab' : a ≠ b := fun h => by subst h; simp at hab
 have hgn : ∀ (i : Nat) (o : Oper), ops.toList[i]? = some o → o.guard = none := fun i o ho => by
  have := List.all_eq_true.1 hg o (List.mem_of_getElem? ho)
  cases hq : o.guard with
  | none => rfl
  | some x => rw [hq] at this; cases this
 have like : ∀ (c d i : Nat), i < ops.toList.length → ∃ o o', ops[i]? = some o ∧ (addE c d ops.toList)[i]? = some o' ∧ likeO o o' := fun c d i hi => by
  have ho := List.getElem?_eq_getElem hi
  have hgo := hgn i _ ho
  by_cases hic : i = c
  ·subst hic
   exact ⟨ops.toList[i], _, by rw [← Array.getElem?_toList]; exact ho, addE_eq ho, rfl, rfl, rfl, hgo, hgo⟩
  ·exact ⟨ops.toList[i], _, by rw [← Array.getElem?_toList]; exact ho, by rw [addE_ne hic]; exact ho, rfl, rfl, rfl, hgo, hgo⟩
 intro E0 w0 hn0 E w ac hsr hr hx
 have main : (Code.region id ops true).wp P (Phys E0 w0 n (toP sf m n0 lf)) ac w := by
  refine wp_region_draw fun t => ?_
  simp only [Region.schedule, hm, Bool.true_or, if_true]
  have hLF := LF_go ops ops.size t (Array.replicate ops.size false)
  have e1 : (⟨addE b a ops.toList⟩ : Array Oper).size = ops.size := by simp [addE_length]
  have e2 : (⟨permL σ τ (addE a b ops.toList)⟩ : Array Oper).size = ops.size := by simp [permL_eq, (permOk_spec hp).ls]
  rcases LF_two hab' _ _ _ (by simp) hLF with h | h
  ·have hw := h1 E0 w0 hn0 E w ac hsr hr hx
   rw [e1] at hw
   have := wpAny_LF _ _ _ _ _ hw h
   refine wpOps_like (ops' := ⟨addE b a ops.toList⟩) (fun i => i) _ (fun i hi => ?_) _ _ (by rw [List.map_id']; exact this)
   obtain ⟨o, o', q1, q2, q3⟩ := like b a i (by simpa using LF_mem _ _ _ hLF i hi)
   exact ⟨o, o', q1, by rw [List.getElem?_toArray]; exact q2, q3⟩
  ·have hw := h2 E0 w0 hn0 E w ac hsr hr hx
   rw [e2] at hw
   have hp' : PermOk σ τ (⟨addE a b ops.toList⟩ : Array Oper).toList.length := by
    have := permOk_spec hp
    simpa [addE_length] using this
   have hperm := LF_perm (ops := ⟨addE a b ops.toList⟩) hp' ops.size (Array.replicate ops.size false) (Array.replicate ops.size false) _ ⟨by simp [addE_length], by simp [addE_length], fun i hi => by
    have h1 := hp'.tb i hi
    simp [addE_length] at h1 hi
    simp [Array.getD, hi, h1]⟩ h
   have := wpAny_LF _ _ _ _ _ hw hperm
   refine wpOps_like (ops' := ⟨permL σ τ (addE a b ops.toList)⟩) (pix τ) _ (fun i hi => ?_) _ _ this
   obtain ⟨o, o', q1, q2, q3⟩ := like a b i (by simpa using LF_mem _ _ _ hLF i hi)
   refine ⟨o, remap τ o', q1, perm_at (ops := ⟨addE a b ops.toList⟩) hp' (by rw [List.getElem?_toArray]; exact q2), ?_⟩
   exact ⟨q3.1, q3.2.1, q3.2.2.1, q3.2.2.2.1, q3.2.2.2.2⟩
 refine wp_mono main fun e a' w' ⟨E1, s1, H1, ⟨he, ρ, q1, q2, q3, q4, q5⟩, hs1, hr1, hx1⟩ => ?_
 subst he
 obtain ⟨E', z1, z2, hr', turn, hφ⟩ := relH_ren hr1 ρ q1 q3
 exact ⟨E', sf, ⟨m, lf⟩, hK, hs1.ren q2 turn, hr', hx1.ren hn0 z1 (Nat.le_of_ble_eq_true q5) z2 hφ (stayOk_spec q4)⟩
end
end Go.RX
