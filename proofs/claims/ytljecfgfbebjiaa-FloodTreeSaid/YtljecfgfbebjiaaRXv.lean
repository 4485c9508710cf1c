/- RX, part v: a region whose order is drawn, where something is written. -/
import Derived.Test.YtljecfgfbebjiaaRXu
set_option linter.unusedVariables false
namespace Go.RX

def cmC : Nat → Bool
 | 1 => true
 | 3 => true
 | 5 => true
 | 6 => true
 | 7 => true
 | 8 => true
 | 9 => true
 | _ => false
def cmB : Nat → Bool
 | 2 => true
 | 3 => true
 | 4 => true
 | 5 => true
 | 7 => true
 | 9 => true
 | _ => false
variable {cm : Nat}
def cmK : Nat → Bool
 | 6 => true
 | 7 => true
 | 8 => true
 | 9 => true
 | _ => false
def cmL : Nat → Bool
 | 8 => true
 | 9 => true
 | _ => false
def stNs (ρ : Operand → LV) : Op → List Nat
 | .store _ _ v => slN (ρ v)
 | _ => []
def clNs (cm : Nat) (l : List LV) : List Nat := match cmL cm with
 | true => []
 | false => match cmK cm with
  | true => fnNs l
  | false => slNs l
def selS (ts : List Nat) : Slots → Slots
 | [] => []
 | (t, v) :: r => match inT t ts with
  | true => (t, v) :: selS ts r
  | false => selS ts r
theorem selS_get {ts : List Nat} {t : Nat} : ∀ {s : Slots}, get (selS ts s) t = get s t ∨ get (selS ts s) t = .any
 | [] => .inl rfl
 | (u, v) :: r => by
  unfold selS
  cases h : inT u ts with
  | true =>
   simp only [get]
   cases Nat.beq t u with
   | true => exact .inl rfl
   | false => exact selS_get (s := r)
  | false =>
   simp only [get]
   cases hb : Nat.beq t u with
   | true =>
    have := Nat.eq_of_beq_eq_true hb; subst this
    have key : ∀ l : Slots, get (selS ts l) t = .any := by
     intro l
     induction l with
     | nil => rfl
     | cons p l ih =>
      obtain ⟨x, y⟩ := p
      unfold selS
      cases hx : inT x ts with
      | true =>
       simp only [get]
       cases hq : Nat.beq t x with
       | true => have := Nat.eq_of_beq_eq_true hq; subst this; rw [h] at hx; cases hx
       | false => exact ih
      | false => exact ih
    exact .inr (key r)
   | false => exact selS_get (s := r)
def opSl (cm : Nat) (ts : List Nat) (s : Slots) : Slots := match cmK cm with
 | true => selS ts s
 | false => s
theorem opSl_get {ts : List Nat} {t : Nat} {s : Slots} : get (opSl cm ts s) t = get s t ∨ get (opSl cm ts s) t = .any := by
 unfold opSl
 split
 ·exact selS_get
 ·exact .inl rfl
def opNs (cm : Nat) (ρ : Operand → LV) (op : Op) : List Nat := match cmK cm with
 | true => stNs ρ op
 | false => []
def cmS : Nat → Bool
 | 4 => true
 | 5 => true
 | _ => false

def born (cm : Nat) : Op → Bool
 | .buildSlice _ n _ => match n with
  | 0 => false
  | _ + 1 => cmB cm
 | .makeSlice _ _ _ => cmS cm
 | _ => false

def isMut (cm : Nat) : Op → Bool
 | .box _ _ => true
 | .alloc _ => true
 | .buildSlice _ n _ => match n with
  | 0 => true
  | _ + 1 => match cmB cm with
   | true => false
   | false => true
 | .store _ _ _ => true
 | .makeSlice _ _ _ => match cmS cm with
  | true => false
  | false => true
 | .makeMap _ _ => true
 | .mapUpdate _ _ _ _ => true
 | .mapEntry _ _ _ => true
 | .entryStore _ _ _ _ => true
 | .call c => match c.callee with
  | .builtin .append => true
  | .builtin .copy => true
  | .builtin _ => false
  | _ => cmC cm
 | _ => false

variable {cm : Nat}

def ranks (cm : Nat) : Nat → List Oper → List (Bool × Nat)
 | _, [] => []
 | k, o :: r => match isMut cm o.op with
  | true => (true, k) :: ranks cm (k + 1) r
  | false => (false, k) :: ranks cm k r

def nthD {α : Type} (d : α) : List α → Nat → α
 | [], _ => d
 | a :: _, 0 => a
 | _ :: r, n + 1 => nthD d r n

theorem nthD_eq {α : Type} (d : α) : ∀ (l : List α) (n : Nat), nthD d l n = l[n]?.getD d
 | [], n => by simp [nthD]
 | a :: r, 0 => by simp [nthD]
 | a :: r, n + 1 => by simp [nthD, nthD_eq d r n]

def loAny (rk : List (Bool × Nat)) (lo : List Nat) (m : Nat) : List Edge → Bool
 | [] => false
 | e :: r => match Region.binds .any e with
  | true => match nthD (false, 0) rk e.on with
   | (true, q) => match Nat.ble m (q + 1) with
    | true => true
    | false => loAny rk lo m r
   | (false, _) => match Nat.ble m (nthD 0 lo e.on) with
    | true => true
    | false => loAny rk lo m r
  | false => loAny rk lo m r

def hasE (i : Nat) : List Edge → Bool
 | [] => false
 | e :: r => match Region.binds .any e, Nat.beq e.on i with
  | true, true => true
  | _, _ => hasE i r

def hiAny (rk : List (Bool × Nat)) (hi : List Nat) (k i m : Nat) : Nat → List Oper → Bool
 | _, [] => false
 | j, o :: r => match hasE i o.after.toList with
  | true => match nthD (false, 0) rk j with
   | (true, q) => match Nat.ble q m with
    | true => true
    | false => hiAny rk hi k i m (j + 1) r
   | (false, _) => match Nat.ble (nthD k hi j) m with
    | true => true
    | false => hiAny rk hi k i m (j + 1) r
  | false => hiAny rk hi k i m (j + 1) r

def anyE (p : Edge → Bool) : List Edge → Bool
 | [] => false
 | e :: r => match p e with
  | true => true
  | false => anyE p r

def edgesAt (all : List Oper) (j : Nat) : List Edge := match nth all j with
 | some o => o.after.toList
 | none => []

def reachE (all : List Oper) (i : Nat) : Nat → Nat → Bool
 | 0, _ => false
 | f + 1, j => anyE (fun e => match Region.binds .any e with
  | true => match Nat.beq e.on i with
   | true => true
   | false => reachE all i f e.on
  | false => false) (edgesAt all j)

def defIdx (t : Nat) : Nat → List Oper → Option Nat
 | _, [] => none
 | j, o :: r => match o.dst with
  | some d => match Nat.beq d t with
   | true => some j
   | false => defIdx t (j + 1) r
  | none => defIdx t (j + 1) r

def looks2 (all : List Oper) (ds : List Nat) (i : Nat) (es : List Edge) : List Nat → Bool
 | [] => true
 | t :: r => match inT t ds with
  | true => match edgeTo all t es with
   | true => looks2 all ds i es r
   | false => match defIdx t 0 all with
    | some j => match reachE all i 6 j with
     | true => looks2 all ds i es r
     | false => false
    | none => false
  | false => looks2 all ds i es r

def stepOk (cm : Nat) (all : List Oper) (ds : List Nat) (rk : List (Bool × Nat)) (lo hi : List Nat) (k i : Nat) (o : Oper) (later : List Oper) : Bool :=
 match (match o.dst with | some d => inT d (dstsOf later) | none => false), edgesLt i o.after.toList, looks2 all ds i o.after.toList (looksT all o) with
 | false, true, true => match (match nthD 0 lo i with | 0 => true | m + 1 => loAny rk lo (m + 1) o.after.toList) with
  | true => match nthD (false, 0) rk i with
   | (true, q) => Nat.beq (nthD 0 lo i) q
   | (false, _) => match Nat.ble k (nthD k hi i) with
    | true => true
    | false => hiAny rk hi k i (nthD k hi i) 0 all
  | false => false
 | _, _, _ => false

def okGo (cm : Nat) (all : List Oper) (ds : List Nat) (rk : List (Bool × Nat)) (lo hi : List Nat) (k : Nat) : Nat → List Oper → Bool
 | _, [] => true
 | i, o :: r => match stepOk cm all ds rk lo hi k i o r with
  | true => okGo cm all ds rk lo hi k (i + 1) r
  | false => false

def cntM (cm : Nat) : List Oper → Nat
 | [] => 0
 | o :: r => match isMut cm o.op with
  | true => cntM cm r + 1
  | false => cntM cm r

def okM (cm : Nat) (all : List Oper) (lo hi : List Nat) : Bool := okGo cm all (dstsOf all) (ranks cm 0 all) lo hi (cntM cm all) 0 all

def chkAt (T : List (Nat × TE)) (all : List Oper) (s : Slots) (H : Heap) (op : Op) (guard : Option (Nat × Bool)) (lv : LV) : Prop :=
 match guard with
 | none => opP T op (dev s [] (opT op.operands.toList)) H id fun v => v = lv
 | some (j, want) => match dstOf all j with
  | some d => match wantB want (get s d) with
   | some g => gcond s g (sureT op) (opP T op (dev s (sureT op) (opT op.operands.toList)) H (fun p => g = true → p) fun v => .ite g v .und = lv)
   | none => False
  | none => False

def chkR (f : Nat → Prop) (skip : Nat) : Nat → Nat → Prop
 | _, 0 => True
 | q, c + 1 => match Nat.beq q skip with
  | true => chkR f skip (q + 1) c
  | false => f q ∧ chkR f skip (q + 1) c

def cntD : List Oper → Nat
 | [] => 0
 | o :: r => match o.dst with
  | some _ => cntD r + 1
  | none => cntD r

def dropS : Nat → Slots → Slots
 | 0, s => s
 | _ + 1, [] => []
 | n + 1, _ :: r => dropS n r

theorem dropS_eq : ∀ (n : Nat) (s : Slots), dropS n s = s.drop n
 | 0, s => rfl
 | n + 1, [] => rfl
 | n + 1, _ :: r => by simp [dropS, dropS_eq n r]

def chks (cm : Nat) (T : List (Nat × TE)) (all : List Oper) (sf : Slots) (hs : List Heap) (lo hi : List Nat) (k : Nat) : Nat → Nat → List Oper → Prop
 | _, _, [] => True
 | i, r, ⟨dst, op, ty, pos, after, guard⟩ :: l => match isMut cm op with
  | true => chks cm T all sf hs lo hi k (i + 1) (r + 1) l
  | false => match isCall op with
   | some _ => chks cm T all sf hs lo hi k (i + 1) r l
   | none => match born cm op with
    | true => chks cm T all sf hs lo hi k (i + 1) r l
    | false => match dst with
    | some d => chkR (fun q => chkAt T all (dropS (cntD l + 1) sf) (nthD ⟨0, []⟩ hs q) op guard (get sf d)) r (nthD 0 lo i) (nthD k hi i + 1 - nthD 0 lo i) ∧ chks cm T all sf hs lo hi k (i + 1) r l
    | none => False

def snoc {α : Type} (x : α) : List α → List α
 | [] => [x]
 | a :: r => a :: snoc x r
theorem snoc_eq {α : Type} (x : α) : ∀ l : List α, snoc x l = l ++ [x]
 | [] => rfl
 | a :: r => by simp [snoc, snoc_eq x r]

def gcallH (P : Program) (c : Call) (ρ : Operand → LV) (H : Heap) (K : LV → Heap → Prop) : Prop :=
 ∃ r H2, callK P c ρ H (fun lv H' => lv = r ∧ H' = H2) ∧ K r H2

theorem CallP.at {P : Program} {f : FuncId} {args : List LV} {r : LV} (h : CallP P f args r) {H : Heap} : CallW P f args H (fun lv H' => lv = r ∧ H' = H) := h H

def bornV (lv : LV) (H : Heap) (K : LV → Prop) : Prop := match lv with
 | .sl y off len => match off with
  | 0 => match look H.live y with
   | some (.row _ sz es) => len = es.length ∧ NLss es ∧ K (.ro sz es)
   | _ => False
  | _ + 1 => False
 | _ => False

theorem bornV_spec {lv : LV} {H : Heap} {K : LV → Prop} (h : bornV lv H K) : ∃ r, fle H lv r ∧ K r := by
 unfold bornV at h
 split at h
 ·split at h
  ·split at h
   ·rename_i sz es hl
    exact ⟨.ro sz es, by simp only [fle, hl]; simp [h.1, h.2.1], h.2.2⟩
   ·exact h.elim
  ·exact h.elim
 ·exact h.elim

theorem lift0 {E : Env} {H : Heap} {w w' : World} (hr : RelH E H w) {E1 : Env} {lv : LV} {H1 : Heap} {v : Value} {r : LV} (hr1 : RelH E1 H1 w') (hgv : G E1 w' lv v) (hx : Ext ⟨0, fun _ => none, E.ok⟩ w E1 w') (hf : fle H1 lv r) :
  ∃ F, RelH F H w' ∧ G F w' r v ∧ Ext E w F w' := by
 let F : Env := ⟨E.nx, E.φ, fun b => E1.ok b ∨ ∃ x s, E1.φ x = some (some b, s)⟩
 have new : ∀ b, (E1.ok b ∨ ∃ x s, E1.φ x = some (some b, s)) → E.ok b ∨ w.heap.size ≤ b := by
  rintro b (h1 | ⟨x, s, h1⟩)
  ·rcases hx.okNew b h1 with h2 | h2 | ⟨x, s, h2⟩
   ·exact .inl h2
   ·exact .inr h2
   ·cases h2
  ·rcases hx.fresh x b s (Nat.zero_le _) h1 with h2 | ⟨y, s', h2⟩
   ·exact .inr h2
   ·cases h2
 have hext : Ext E w F w' := by
  refine ⟨Nat.le_refl _, hx.size, fun k hk _ => hx.keep k hk (fun x s h => by cases h), hx.cells, fun _ _ => .inr rfl, fun b hb => .inl (hx.ok b hb), fun b hb => ?_, fun x k s _ h => .inr ⟨x, s, h⟩, hx.os, hx.output, hx.tape⟩
  rcases new b hb with h1 | h1
  ·exact .inl h1
  ·exact .inr (.inl h1)
 have keep : ∀ x k s, E.φ x = some (some k, s) → w'.heap[k]? = w.heap[k]? := fun x k s h => hx.keep k (hr.nok x k s h).2 (fun x s h => by cases h)
 have gm : ∀ {l v}, G E w l v → G F w' l v := fun h => h.ext hr hext
 refine ⟨F, ⟨hr.nx, ?_, ?_, hr.none, hr.lt, hr.inj, ?_, ?_⟩, fle_sound (F := F) hr1 (fun b hb => Or.inl hb) (fun x k s h => Or.inr ⟨x, s, h⟩) hgv hf, hext⟩
 ·intro x e sz es hl
  rcases hr.row x e sz es hl with h1 | ⟨k, arr, h1, h2, h3, h4, h5⟩
  ·exact .inl h1
  ·exact .inr ⟨k, arr, h1, (keep x k sz h1).trans h2, h3, h4, fun i cs hi => ⟨(h5 i cs hi).1, fun j y hj => gm ((h5 i cs hi).2 j y hj)⟩⟩
 ·intro x es hl
  obtain ⟨k, en, cl, h1, h2, h3, h4, h5, h6⟩ := hr.mp x es hl
  refine ⟨k, en, cl, h1, (keep x k 0 h1).trans h2, h3, h4, h5, fun i p hp => ?_⟩
  obtain ⟨en', h7, h8, h9⟩ := h6 i p hp
  exact ⟨en', h7, gm h8, gm h9⟩
 ·intro x k s h1
  refine ⟨fun h2 => ?_, Nat.lt_of_lt_of_le (hr.nok x k s h1).2 hx.size⟩
  rcases new k h2 with h3 | h3
  ·exact (hr.nok x k s h1).1 h3
  ·have := (hr.nok x k s h1).2; omega
 ·rintro b (h1 | ⟨x, s, h1⟩)
  ·exact hr1.okl b h1
  ·exact (hr1.nok x b s h1).2

theorem lv1_NL (v : Value) : NL (lv1 v) := by unfold lv1; split <;> simp [NL]
theorem lvOf_NL (v : Value) : NL (lvOf v) := by
 unfold lvOf
 split
 ·split
  ·simp only [NL]
   exact NLs_iff.2 fun x hx => by
    obtain ⟨v, _, rfl⟩ := List.mem_map.1 hx
    exact lv1_NL v
  ·simp [NL]
 ·exact lv1_NL _
theorem dev_NL {s : Slots} {ts : List Nat} (h : NLs (ts.map (get s))) (x : Operand) : NL (dev s [] ts x) := by
 cases x with
 | tmp t =>
  simp only [dev, inT]
  split
  ·rename_i hin
   exact NLs_iff.1 h _ (List.mem_map.2 ⟨t, inT_iff.1 hin, rfl⟩)
  ·simp [NL]
 | const v => exact lvOf_NL v
 | func f => simp [dev, ev, NL, NLs]
 | global g => simp [dev, ev, NL]

def evM (cm : Nat) (P : Program) (T : List (Nat × TE)) (n : Nat) (all : List Oper) : List Oper → Slots → Heap → List Heap → (Slots → List Heap → Heap → Prop) → Prop
 | [], s, H, hs, K => K s (snoc H hs) H
 | ⟨dst, op, ty, pos, after, guard⟩ :: r, s, H, hs, K => match guard with
  | none => match isCall op with
   | some c => match isMut cm op with
    | true => frz (clNs cm (c.args.toList.map (dev s [] (opT op.operands.toList)))) s H fun s1 H' => gcallH P c (dev s1 [] (opT op.operands.toList)) H' fun v H2 => putK n s dst v fun s' => evM cm P T n all r s' H2 (snoc H hs) K
    | false => gcallK P c (dev s [] (opT op.operands.toList)) true fun v => putK n s dst v fun s' => evM cm P T n all r s' H hs K
   | none => match isMut cm op with
    | true => frz (opNs cm (dev s [] (opT op.operands.toList)) op) (opSl cm (opT op.operands.toList) s) H fun s1 H1 => opH T op (dev s1 [] (opT op.operands.toList)) H1 fun v H' => putK n s dst v fun s' => evM cm P T n all r s' H' (snoc H hs) K
    | false => match born cm op with
     | true => NLs ((opT op.operands.toList).map (get s)) ∧ opH T op (dev s [] (opT op.operands.toList)) ⟨0, []⟩ fun lv H' => bornV lv H' fun v => putK n s dst v fun s' => evM cm P T n all r s' H hs K
     | false => opP T op (dev s [] (opT op.operands.toList)) H id fun v => putK n s dst v fun s' => evM cm P T n all r s' H hs K
  | some (j, want) => match isMut cm op with
   | true => False
   | false => match born cm op with
    | true => False
    | false => match dstOf all j with
    | some d => match wantB want (get s d) with
     | some g => gcond s g (sureT op) (match isCall op with
      | some c => gcallK P c (dev s (sureT op) (opT op.operands.toList)) g fun v => putK n s dst (.ite g v .und) fun s' => evM cm P T n all r s' H hs K
      | none => opP T op (dev s (sureT op) (opT op.operands.toList)) H (fun p => g = true → p) fun v => putK n s dst (.ite g v .und) fun s' => evM cm P T n all r s' H hs K)
     | none => False
    | none => False

theorem defIdx_spec {t : Nat} : ∀ {l : List Oper} {i j : Nat}, defIdx t i l = some j → ∃ p, j = i + p ∧ dstOf l p = some t
 | [], i, j, h => by cases h
 | o :: r, i, j, h => by
  have tail : defIdx t (i + 1) r = some j → ∃ p, j = i + p ∧ dstOf (o :: r) p = some t := fun h => by
   obtain ⟨p, h1, h2⟩ := defIdx_spec h
   exact ⟨p + 1, by omega, by simpa [dstOf] using h2⟩
  simp only [defIdx] at h
  split at h
  ·rename_i d hd
   split at h
   ·rename_i hb
    have := Nat.eq_of_beq_eq_true hb; subst this
    cases h
    exact ⟨0, rfl, by simpa [dstOf] using hd⟩
   ·exact tail h
  ·exact tail h

theorem looks2_spec {all : List Oper} {ds : List Nat} {i : Nat} {es : List Edge} : ∀ {l : List Nat}, looks2 all ds i es l = true → ∀ t ∈ l, t ∈ ds →
  (∃ e ∈ es, Region.binds .any e = true ∧ dstOf all e.on = some t) ∨ ∃ j, dstOf all j = some t ∧ reachE all i 6 j = true
 | [], h, t, ht, _ => by cases ht
 | u :: r, h, t, ht, hd => by
  simp only [looks2] at h
  rcases List.mem_cons.1 ht with rfl | ht'
  ·rw [inT_iff.2 hd] at h
   simp only at h
   split at h
   ·rename_i he; exact .inl (edgeTo_spec he)
   ·split at h
    ·rename_i j hj
     split at h
     ·rename_i hr
      obtain ⟨p, h1, h2⟩ := defIdx_spec hj
      have : j = p := by omega
      subst this
      exact .inr ⟨j, h2, hr⟩
     ·cases h
    ·cases h
  ·split at h
   ·split at h
    ·exact looks2_spec h t ht' hd
    ·split at h
     ·split at h
      ·exact looks2_spec h t ht' hd
      ·cases h
     ·cases h
   ·exact looks2_spec h t ht' hd

theorem anyE_spec {p : Edge → Bool} : ∀ {es : List Edge}, anyE p es = true → ∃ e ∈ es, p e = true
 | [], h => by cases h
 | e :: r, h => by
  simp only [anyE] at h
  split at h
  ·rename_i hp; exact ⟨e, List.mem_cons_self, hp⟩
  ·obtain ⟨e', h1, h2⟩ := anyE_spec h; exact ⟨e', List.mem_cons_of_mem _ h1, h2⟩

theorem reachE_spec {all : List Oper} {i : Nat} {L : Nat → Prop} (hc : ∀ (j : Nat) (o : Oper) (e : Edge), all[j]? = some o → L j → e ∈ o.after.toList → Region.binds .any e = true → L e.on) : ∀ {f j : Nat}, reachE all i f j = true → L j → L i
 | 0, j, h, _ => by cases h
 | f + 1, j, h, hL => by
  simp only [reachE] at h
  obtain ⟨e, h1, h2⟩ := anyE_spec h
  unfold edgesAt at h1
  split at h1
  ·rename_i o ho
   rw [nth_eq] at ho
   split at h2
   ·rename_i hb
    have := hc j o e ho hL h1 hb
    split at h2
    ·rename_i hq; rw [← Nat.eq_of_beq_eq_true hq]; exact this
    ·exact reachE_spec hc h2 this
   ·cases h2
  ·cases h1

theorem loAny_spec {rk : List (Bool × Nat)} {lo : List Nat} {m : Nat} : ∀ {es : List Edge}, loAny rk lo m es = true →
  ∃ e ∈ es, Region.binds .any e = true ∧ ((∃ q, nthD (false, 0) rk e.on = (true, q) ∧ m ≤ q + 1) ∨ ((nthD (false, 0) rk e.on).1 = false ∧ m ≤ nthD 0 lo e.on))
 | [], h => by cases h
 | e :: r, h => by
  have tail : loAny rk lo m r = true → ∃ e' ∈ e :: r, Region.binds .any e' = true ∧ ((∃ q, nthD (false, 0) rk e'.on = (true, q) ∧ m ≤ q + 1) ∨ ((nthD (false, 0) rk e'.on).1 = false ∧ m ≤ nthD 0 lo e'.on)) := fun h => by
   obtain ⟨e', h1, h2⟩ := loAny_spec h
   exact ⟨e', List.mem_cons_of_mem _ h1, h2⟩
  simp only [loAny] at h
  split at h
  ·rename_i hb
   split at h
   ·rename_i q hq
    split at h
    ·rename_i hle; exact ⟨e, List.mem_cons_self, hb, .inl ⟨q, hq, Nat.le_of_ble_eq_true hle⟩⟩
    ·exact tail h
   ·rename_i q hq
    split at h
    ·rename_i hle; exact ⟨e, List.mem_cons_self, hb, .inr ⟨by rw [hq], Nat.le_of_ble_eq_true hle⟩⟩
    ·exact tail h
  ·exact tail h

theorem hasE_spec {i : Nat} : ∀ {es : List Edge}, hasE i es = true → ∃ e ∈ es, Region.binds .any e = true ∧ e.on = i
 | [], h => by cases h
 | e :: r, h => by
  simp only [hasE] at h
  split at h
  ·rename_i hb hq; exact ⟨e, List.mem_cons_self, hb, Nat.eq_of_beq_eq_true hq⟩
  ·obtain ⟨e', h1, h2⟩ := hasE_spec h; exact ⟨e', List.mem_cons_of_mem _ h1, h2⟩

theorem hiAny_spec {rk : List (Bool × Nat)} {hi : List Nat} {k i m : Nat} : ∀ {l : List Oper} {j : Nat}, hiAny rk hi k i m j l = true →
  ∃ p o, l[p]? = some o ∧ (∃ e ∈ o.after.toList, Region.binds .any e = true ∧ e.on = i) ∧ ((∃ q, nthD (false, 0) rk (j + p) = (true, q) ∧ q ≤ m) ∨ ((nthD (false, 0) rk (j + p)).1 = false ∧ nthD k hi (j + p) ≤ m))
 | [], j, h => by cases h
 | o :: r, j, h => by
  have tail : hiAny rk hi k i m (j + 1) r = true → ∃ p o', (o :: r)[p]? = some o' ∧ (∃ e ∈ o'.after.toList, Region.binds .any e = true ∧ e.on = i) ∧ ((∃ q, nthD (false, 0) rk (j + p) = (true, q) ∧ q ≤ m) ∨ ((nthD (false, 0) rk (j + p)).1 = false ∧ nthD k hi (j + p) ≤ m)) := fun h => by
   obtain ⟨p, o', h1, h2, h3⟩ := hiAny_spec h
   refine ⟨p + 1, o', by simpa using h1, h2, ?_⟩
   rw [show j + (p + 1) = j + 1 + p by omega]
   exact h3
  simp only [hiAny] at h
  split at h
  ·rename_i hb
   split at h
   ·rename_i q hq
    split at h
    ·rename_i hle; exact ⟨0, o, rfl, hasE_spec hb, .inl ⟨q, hq, Nat.le_of_ble_eq_true hle⟩⟩
    ·exact tail h
   ·rename_i q hq
    split at h
    ·rename_i hle; exact ⟨0, o, rfl, hasE_spec hb, .inr ⟨by rw [Nat.add_zero, hq], Nat.le_of_ble_eq_true hle⟩⟩
    ·exact tail h
  ·exact tail h

theorem ranks_at : ∀ (l : List Oper) (k i : Nat) (o : Oper), l[i]? = some o → nthD (false, 0) (ranks cm k l) i = (isMut cm o.op, k + cntM cm (l.take i))
 | [], k, i, o, h => by simp at h
 | x :: r, k, 0, o, h => by
  simp at h; subst h
  cases hm : isMut cm x.op <;> simp [ranks, hm, nthD, cntM]
 | x :: r, k, i + 1, o, h => by
  have h' : r[i]? = some o := by simpa using h
  cases hm : isMut cm x.op with
  | true => simp only [ranks, hm, nthD, List.take_succ_cons, cntM]; rw [ranks_at r (k + 1) i o h']; congr 1; omega
  | false => simp only [ranks, hm, nthD, List.take_succ_cons, cntM]; rw [ranks_at r k i o h']

theorem cntM_take_le : ∀ (l : List Oper) (i : Nat) , cntM cm (l.take i) ≤ cntM cm l
 | [], i => by simp
 | x :: r, 0 => by simp [cntM]
 | x :: r, i + 1 => by
  have := cntM_take_le r i
  cases hm : isMut cm x.op <;> simp only [List.take_succ_cons, cntM, hm] <;> omega

theorem cntM_take_lt : ∀ (l : List Oper) (i : Nat) (o : Oper), l[i]? = some o → isMut cm o.op = true → cntM cm (l.take i) + 1 ≤ cntM cm l
 | [], i, o, h, _ => by simp at h
 | x :: r, 0, o, h, hm => by simp at h; subst h; simp only [List.take_zero, cntM, hm]; omega
 | x :: r, i + 1, o, h, hm => by
  have := cntM_take_lt r i o (by simpa using h) hm
  cases hx : isMut cm x.op <;> simp only [List.take_succ_cons, cntM, hx] <;> omega

theorem mut_of_rank : ∀ (l : List Oper) (q : Nat), q < cntM cm l → ∃ i o, l[i]? = some o ∧ isMut cm o.op = true ∧ cntM cm (l.take i) = q
 | [], q, h => by simp [cntM] at h
 | x :: r, q, h => by
  cases hx : isMut cm x.op with
  | true =>
   cases q with
   | zero => exact ⟨0, x, rfl, hx, by simp [cntM]⟩
   | succ q =>
    obtain ⟨i, o, h1, h2, h3⟩ := mut_of_rank r q (by simp only [cntM, hx] at h; omega)
    exact ⟨i + 1, o, by simpa using h1, h2, by simp only [List.take_succ_cons, cntM, hx, h3]⟩
  | false =>
   obtain ⟨i, o, h1, h2, h3⟩ := mut_of_rank r q (by simpa only [cntM, hx] using h)
   exact ⟨i + 1, o, by simpa using h1, h2, by simp only [List.take_succ_cons, cntM, hx, h3]⟩

theorem rank_inj : ∀ (l : List Oper) (i j : Nat) (o o' : Oper), l[i]? = some o → l[j]? = some o' → isMut cm o.op = true → isMut cm o'.op = true → cntM cm (l.take i) = cntM cm (l.take j) → i = j
 | [], i, j, o, o', h, _, _, _, _ => by simp at h
 | x :: r, 0, 0, o, o', _, _, _, _, _ => rfl
 | x :: r, 0, j + 1, o, o', h, h', hm, hm', he => by
  simp at h; subst h
  simp only [List.take_zero, List.take_succ_cons, cntM, hm] at he
  omega
 | x :: r, i + 1, 0, o, o', h, h', hm, hm', he => by
  simp at h'; subst h'
  simp only [List.take_zero, List.take_succ_cons, cntM, hm'] at he
  omega
 | x :: r, i + 1, j + 1, o, o', h, h', hm, hm', he => by
  have := rank_inj r i j o o' (by simpa using h) (by simpa using h') hm hm' (by
   cases hx : isMut cm x.op <;> simp only [List.take_succ_cons, cntM, hx] at he <;> omega)
  omega

structure StepOk (cm : Nat) (all : List Oper) (lo hi : List Nat) (i : Nat) (o : Oper) (later : List Oper) : Prop where
 fresh : ∀ d, o.dst = some d → d ∉ dstsOf later
 lt : ∀ e ∈ o.after.toList, Region.binds .any e = true → e.on < i
 looks : ∀ t ∈ looksT all o, t ∈ dstsOf all → (∃ e ∈ o.after.toList, Region.binds .any e = true ∧ dstOf all e.on = some t) ∨ ∃ j, dstOf all j = some t ∧ reachE all i 6 j = true
 low : nthD 0 lo i = 0 ∨ ∃ e ∈ o.after.toList, Region.binds .any e = true ∧ ((∃ q, nthD (false, 0) (ranks cm 0 all) e.on = (true, q) ∧ nthD 0 lo i ≤ q + 1) ∨ ((nthD (false, 0) (ranks cm 0 all) e.on).1 = false ∧ nthD 0 lo i ≤ nthD 0 lo e.on))
 muts : ∀ q, nthD (false, 0) (ranks cm 0 all) i = (true, q) → nthD 0 lo i = q
 high : (nthD (false, 0) (ranks cm 0 all) i).1 = false → cntM cm all ≤ nthD (cntM cm all) hi i ∨ ∃ p o', all[p]? = some o' ∧ (∃ e ∈ o'.after.toList, Region.binds .any e = true ∧ e.on = i) ∧
  ((∃ q, nthD (false, 0) (ranks cm 0 all) p = (true, q) ∧ q ≤ nthD (cntM cm all) hi i) ∨ ((nthD (false, 0) (ranks cm 0 all) p).1 = false ∧ nthD (cntM cm all) hi p ≤ nthD (cntM cm all) hi i))

theorem stepOk_spec {all : List Oper} {lo hi : List Nat} {i : Nat} {o : Oper} {later : List Oper} (h : stepOk cm all (dstsOf all) (ranks cm 0 all) lo hi (cntM cm all) i o later = true) : StepOk cm all lo hi i o later := by
 unfold stepOk at h
 split at h
 ·rename_i h1 h2 h3
  split at h
  ·rename_i h4
   refine ⟨fun d hd hm => ?_, edgesLt_spec h2, looks2_spec h3, ?_, fun q hq => ?_, fun hq => ?_⟩
   ·rw [hd] at h1; simp only at h1; rw [inT_iff.2 hm] at h1; cases h1
   ·split at h4
    ·rename_i h0; exact .inl h0
    ·rename_i m hm; right; rw [hm]; exact loAny_spec h4
   ·rw [hq] at h; exact Nat.eq_of_beq_eq_true h
   ·split at h
    ·rename_i q hq'; rw [hq'] at hq; cases hq
    ·split at h
     ·rename_i hb; exact .inl (Nat.le_of_ble_eq_true hb)
     ·right
      obtain ⟨p, o', h5, h6, h7⟩ := hiAny_spec h
      simp only [Nat.zero_add] at h7
      exact ⟨p, o', h5, h6, h7⟩
  ·cases h
 ·cases h

theorem okGo_spec {all : List Oper} {lo hi : List Nat} : ∀ {l : List Oper} {i : Nat}, okGo cm all (dstsOf all) (ranks cm 0 all) lo hi (cntM cm all) i l = true → ∀ (j : Nat) (o : Oper), l[j]? = some o → StepOk cm all lo hi (i + j) o (l.drop (j + 1))
 | [], i, h, j, o, ho => by simp at ho
 | x :: r, i, h, j, o, ho => by
  simp only [okGo] at h
  split at h
  ·rename_i hs
   cases j with
   | zero => simp at ho; subst ho; simpa using stepOk_spec hs
   | succ j =>
    have := okGo_spec h j o (by simpa using ho)
    rw [show i + (j + 1) = i + 1 + j by omega]
    simpa using this
  ·cases h

section
variable {P : Program} {T : List (Nat × TE)} {n : Nat} {ops : Array Oper}

def Fact2 (P : Program) (ops : Array Oper) (H H' : Heap) (s : Slots) (o : Oper) (lv : LV) : Prop :=
 ∀ (E : Env) (w : World) (a : Act) (next : Act → World → Prop) (Q : Exit → Act → World → Prop), RelH E H w → (∀ t ∈ looksT ops.toList o, G E w (get s t) (a.tmps.getD t undef)) →
  (∀ v E' w', RelH E' H' w' → G E' w' lv v → Ext E w E' w' → next (a.put o.dst v) w') →
  if Region.wanted o (yielded ops a.tmps) then o.wp P a w next Q ∨ (o.asks P a w ∧ LetsOut Q) else next (a.put o.dst undef) w

def pushS : Option Tmp → LV → Slots → Slots
 | some d, lv, s => (d, lv) :: s
 | none, _, s => s

def ChainM (cm : Nat) (P : Program) (n : Nat) (ops : Array Oper) : List Oper → Slots → Heap → List Heap → Slots → List Heap → Heap → Prop
 | [], s, H, hs, sf, hsf, Hf => s = sf ∧ snoc H hs = hsf ∧ H = Hf
 | o :: r, s, H, hs, sf, hsf, Hf => ∃ lv H', (∀ d, o.dst = some d → d < n) ∧ Fact2 P ops H H' s o lv ∧ match isMut cm o.op with
  | true => ChainM cm P n ops r (pushS o.dst lv s) H' (snoc H hs) sf hsf Hf
  | false => H' = H ∧ (∀ H2, ((isCall o.op).isSome || born cm o.op) = true → Fact2 P ops H2 H2 s o lv) ∧ ChainM cm P n ops r (pushS o.dst lv s) H hs sf hsf Hf

theorem putK_push {s : Slots} {dst : Option Tmp} {lv : LV} {k : Slots → Prop} (h : putK n s dst lv k) : k (pushS dst lv s) ∧ ∀ d, dst = some d → d < n := by
 unfold putK at h
 split at h
 ·exact ⟨h, fun d hd => by cases hd⟩
 ·split at h
  ·rename_i d hb
   rw [force_eq] at h
   exact ⟨h, fun d' hd => by cases hd; exact Nat.le_of_ble_eq_true hb⟩
  ·exact h.elim

theorem wanted_eq {dst : Option Tmp} {op : Op} {ty : TypeId} {pos : String} {after : Array Edge} {j : Nat} {want : Bool} {dd : Tmp} {s : Slots} {g : Bool} (hdd : dstOf ops.toList j = some dd) (hw : wantB want (get s dd) = some g)
  {E : Env} {w : World} {a : Act} (hg : G E w (get s dd) (a.tmps.getD dd undef)) : Region.wanted ⟨dst, op, ty, pos, after, some (j, want)⟩ (yielded ops a.tmps) = g := by
 have := wantB_spec hw hg
 rw [dstOf_eq] at hdd
 simp only [Region.wanted, yielded]
 have hd' : (ops[j]?).bind (·.dst) = some dd := by simpa using hdd
 rw [hd', Option.bind_some]
 rw [← this]
 simp only [Array.getD_eq_getD_getElem?]
 cases ht : a.tmps[dd]? with
 | none => simp [undef]
 | some u => cases u <;> rfl

theorem fact_plain (hT : TOk P T) {H : Heap} {s : Slots} {dst : Option Tmp} {op : Op} {ty : TypeId} {pos : String} {after : Array Edge} {K : LV → Prop}
  (h : opP T op (dev s [] (opT op.operands.toList)) H id K) : ∃ lv, K lv ∧ Fact2 P ops H H s ⟨dst, op, ty, pos, after, none⟩ lv := by
 obtain ⟨lv, hk, hrd⟩ := opP_sound (P := P) (o := ⟨dst, op, ty, pos, after, none⟩) (gd := True) hT (fun p hp _ => hp) h
 refine ⟨lv, hk, fun E w a next Q hr hl hn => ?_⟩
 simp only [Region.wanted, if_true]
 obtain ⟨v, hrun, hg⟩ := hrd trivial E w a hr (dev_spec hl (fun t ht => by simp [inT] at ht) (fun t ht => by simp [inT] at ht))
 refine .inl ?_
 unfold Oper.wp
 rw [hrun]
 exact hn v E w hr hg (Ext.refl E w)

theorem fact_guard (hT : TOk P T) {H : Heap} {s : Slots} {dst : Option Tmp} {op : Op} {ty : TypeId} {pos : String} {after : Array Edge} {j : Nat} {want : Bool} {dd : Tmp} {g : Bool} {K : LV → Prop}
  (hdd : dstOf ops.toList j = some dd) (hw : wantB want (get s dd) = some g) (hst : ∀ t, inT t (sureT op) = true → g = true → (strip (get s t)).2)
  (h : opP T op (dev s (sureT op) (opT op.operands.toList)) H (fun p => g = true → p) fun v => K (.ite g v .und)) : ∃ lv, K lv ∧ Fact2 P ops H H s ⟨dst, op, ty, pos, after, some (j, want)⟩ lv := by
 have looks : looksT ops.toList ⟨dst, op, ty, pos, after, some (j, want)⟩ = dd :: opT op.operands.toList := by simp only [looksT, hdd]
 cases g with
 | false =>
  obtain ⟨lv, hk, _⟩ := opP_sound (P := P) (o := ⟨dst, op, ty, pos, after, some (j, want)⟩) (gd := False) hT (fun p _ hf => hf.elim) h
  refine ⟨_, hk, fun E w a next Q hr hl hn => ?_⟩
  rw [wanted_eq hdd hw (hl dd (by rw [looks]; exact List.mem_cons_self))]
  simp only [Bool.false_eq_true, if_false]
  exact hn undef E w hr (.iteF _ _ _ .und) (Ext.refl E w)
 | true =>
  obtain ⟨lv, hk, hrd⟩ := opP_sound (P := P) (o := ⟨dst, op, ty, pos, after, some (j, want)⟩) (gd := True) hT (fun p hp _ => hp rfl) h
  refine ⟨_, hk, fun E w a next Q hr hl hn => ?_⟩
  rw [wanted_eq hdd hw (hl dd (by rw [looks]; exact List.mem_cons_self))]
  simp only [if_true]
  obtain ⟨v, hrun, hg⟩ := hrd trivial E w a hr (dev_spec (fun t ht => hl t (by rw [looks]; exact List.mem_cons_of_mem _ ht)) (fun t ht => sureT_sub ht) (fun t ht => hst t ht rfl))
  refine .inl ?_
  unfold Oper.wp
  rw [hrun]
  exact hn v E w hr (.iteT _ _ _ hg) (Ext.refl E w)

theorem chkAt_spec (hT : TOk P T) {H : Heap} {s : Slots} {dst : Option Tmp} {op : Op} {ty : TypeId} {pos : String} {after : Array Edge} {guard : Option (Nat × Bool)} {lv : LV}
  (h : chkAt T ops.toList s H op guard lv) : Fact2 P ops H H s ⟨dst, op, ty, pos, after, guard⟩ lv := by
 unfold chkAt at h
 split at h
 ·obtain ⟨lv', h1, h2⟩ := fact_plain (P := P) (ops := ops) (dst := dst) (ty := ty) (pos := pos) (after := after) hT h
  rw [← h1]; exact h2
 ·rename_i j want
  split at h
  ·rename_i d hd
   split at h
   ·rename_i g hw
    obtain ⟨h, hst⟩ := gcond_spec h
    obtain ⟨lv', h1, h2⟩ := fact_guard (P := P) (dst := dst) (ty := ty) (pos := pos) (after := after) (K := (· = lv)) hT hd hw hst h
    rw [← h1]; exact h2
   ·exact h.elim
  ·exact h.elim

theorem opH_fact (hT : TOk P T) {H : Heap} {s : Slots} {dst : Option Tmp} {op : Op} {ty : TypeId} {pos : String} {after : Array Edge} {K : LV → Heap → Prop}
  (h : opH T op (dev s [] (opT op.operands.toList)) H K) : ∃ lv H', K lv H' ∧ Fact2 P ops H H' s ⟨dst, op, ty, pos, after, none⟩ lv := by
 obtain ⟨lv, H', hk, hd⟩ := opH_sound (P := P) (o := ⟨dst, op, ty, pos, after, none⟩) hT h
 refine ⟨lv, H', hk, fun E w a next Q hr hl hn => ?_⟩
 simp only [Region.wanted, if_true]
 obtain ⟨v, w', E', hrun, hr', hg, hx'⟩ := hd E w a hr (dev_spec hl (fun t ht => by simp [inT] at ht) (fun t ht => by simp [inT] at ht))
 refine .inl ?_
 unfold Oper.wp
 rcases hrun with hrun | ⟨hrun, rfl⟩
 ·rw [hrun]; exact hn v E' w' hr' hg hx'
 ·rw [hrun]; exact hn undef E' w' hr' hg hx'

theorem frz_spec2 {k : Slots → Heap → Prop} : ∀ {l : List Nat} {s : Slots} {H : Heap}, frz l s H k → ∃ s' H', k s' H' ∧ ∀ (L : Nat → Prop) (E : Env) (w : World) (f : Nat → Value), RelH E H w → (∀ t, L t → G E w (get s t) (f t)) →
  ∃ E', RelH E' H' w ∧ (∀ t, L t → G E' w (get s' t) (f t)) ∧ Ext E w E' w
 | [], s, H, h => ⟨s, H, h, fun L E w f hr hs => ⟨E, hr, hs, Ext.refl E w⟩⟩
 | y :: r, s, H, h => by
  simp only [frz] at h
  split at h
  ·rename_i e sz es hl
   obtain ⟨s1, h1, h2⟩ := fzS_spec h.2
   obtain ⟨s', H', h3, h4⟩ := frz_spec2 h1
   refine ⟨s', H', h3, fun L E w f hr hs => ?_⟩
   obtain ⟨E1, hr1, hx1, hf, hp⟩ := relH_freeze hr hl (NLss_iff.1 h.1)
   obtain ⟨E', hr', hs', hx'⟩ := h4 L E1 w f hr1 (fun t ht => by
    rcases h2 t _ rfl with h5 | ⟨u, h5, h6, h7⟩
    ·rw [h5]; exact .any _
    ·rw [h7]
     have := hs t ht
     rw [h5] at this
     exact fzV_spec hr hx1 hf hp this h6)
   exact ⟨E', hr', hs', hx1.trans hx'⟩
  ·exact frz_spec2 h

theorem evM_spec (hT : TOk P T) : ∀ (l : List Oper) (s : Slots) (H : Heap) (hs : List Heap) (K : Slots → List Heap → Heap → Prop), evM cm P T n ops.toList l s H hs K → ∃ sf hsf Hf, K sf hsf Hf ∧ ChainM cm P n ops l s H hs sf hsf Hf
 | [], s, H, hs, K, h => ⟨s, _, H, h, rfl, rfl, rfl⟩
 | ⟨dst, op, ty, pos, after, guard⟩ :: r, s, H, hs, K, h => by
  have still : ∀ (lv : LV), isMut cm op = false → putK n s dst lv (fun s' => evM cm P T n ops.toList r s' H hs K) → Fact2 P ops H H s ⟨dst, op, ty, pos, after, guard⟩ lv → (∀ H2, ((isCall op).isSome || born cm op) = true → Fact2 P ops H2 H2 s ⟨dst, op, ty, pos, after, guard⟩ lv) →
    ∃ sf hsf Hf, K sf hsf Hf ∧ ChainM cm P n ops (⟨dst, op, ty, pos, after, guard⟩ :: r) s H hs sf hsf Hf := by
   intro lv hm hp hf hf2
   obtain ⟨h1, h2⟩ := putK_push hp
   obtain ⟨sf, hsf, Hf, h3, h4⟩ := evM_spec hT r _ _ _ K h1
   refine ⟨sf, hsf, Hf, h3, lv, H, h2, hf, ?_⟩
   simp only [hm, true_and]
   exact ⟨hf2, h4⟩
  simp only [evM] at h
  split at h
  ·split at h
   ·rename_i c hc
    split at h
    ·rename_i hm
     obtain ⟨s1, H1, h, hfz⟩ := frz_spec2 h
     obtain ⟨lv, H2, hcall, hk⟩ := h
     obtain ⟨h1, h2⟩ := putK_push hk
     obtain ⟨sf, hsf, Hf, h3, h4⟩ := evM_spec hT r _ _ _ K h1
     refine ⟨sf, hsf, Hf, h3, lv, H2, h2, ?_, ?_⟩
     ·intro E w a next Q hr hl hn
      simp only [Region.wanted, if_true]
      obtain ⟨E1, hr1, hl1, hx1⟩ := hfz (fun t => t ∈ looksT ops.toList ⟨dst, op, ty, pos, after, none⟩) E w (fun t => a.tmps.getD t undef) hr hl
      refine .inl (callK_sound hcall (opOf hc) hr1 (dev_spec hl1 (fun t ht => by simp [inT] at ht) (fun t ht => by simp [inT] at ht)) (fun lv' H' v E' w' hk' hr' hg hx' => ?_))
      obtain ⟨rfl, rfl⟩ := hk'
      exact hn v E' w' hr' hg (hx1.trans hx')
     ·simp only [hm]
      exact h4
    ·rename_i hm
     obtain ⟨lv, hk, hcall⟩ := gcallK_spec h
     suffices hall : ∀ H2, Fact2 P ops H2 H2 s ⟨dst, op, ty, pos, after, none⟩ lv from still lv hm hk (hall H) fun H2 _ => hall H2
     intro H E w a next Q hr hl hn
     simp only [Region.wanted, if_true]
     refine .inl (callK_sound (hcall rfl H) (opOf hc) hr (dev_spec hl (fun t ht => by simp [inT] at ht) (fun t ht => by simp [inT] at ht)) (fun lv' H' v E' w' hk' hr' hg hx' => ?_))
     obtain ⟨rfl, rfl⟩ := hk'
     exact hn v E' w' hr' hg hx'
   ·split at h
    ·rename_i hm
     obtain ⟨s1, H1, h, hfz⟩ := frz_spec2 h
     obtain ⟨lv, H', hk, hd⟩ := opH_sound (P := P) (o := ⟨dst, op, ty, pos, after, none⟩) hT h
     obtain ⟨h1, h2⟩ := putK_push hk
     obtain ⟨sf, hsf, Hf, h3, h4⟩ := evM_spec hT r _ _ _ K h1
     refine ⟨sf, hsf, Hf, h3, lv, H', h2, ?_, ?_⟩
     ·intro E w a next Q hr hl hn
      simp only [Region.wanted, if_true]
      obtain ⟨E1, hr1, hl1, hx1⟩ := hfz (fun t => t ∈ looksT ops.toList ⟨dst, op, ty, pos, after, none⟩) E w (fun t => a.tmps.getD t undef) hr (fun t ht => by
       rcases opSl_get (cm := cm) (ts := opT op.operands.toList) (t := t) (s := s) with h5 | h5
       ·rw [h5]; exact hl t ht
       ·rw [h5]; exact .any _)
      obtain ⟨v, w', E', hrun, hr', hg, hx'⟩ := hd E1 w a hr1 (dev_spec hl1 (fun t ht => by simp [inT] at ht) (fun t ht => by simp [inT] at ht))
      refine .inl ?_
      unfold Oper.wp
      rcases hrun with hrun | ⟨hrun, rfl⟩
      ·rw [hrun]; exact hn v E' w' hr' hg (hx1.trans hx')
      ·rw [hrun]; exact hn undef E' w' hr' hg (hx1.trans hx')
     ·simp only [hm]
      exact h4
    ·rename_i hm
     split at h
     ·rename_i hbn
      obtain ⟨hnl, h⟩ := h
      obtain ⟨lv, H', hk, hd⟩ := opH_sound (P := P) (o := ⟨dst, op, ty, pos, after, none⟩) hT h
      obtain ⟨r0, hfl, hk⟩ := bornV_spec hk
      suffices hall : ∀ H2, Fact2 P ops H2 H2 s ⟨dst, op, ty, pos, after, none⟩ r0 from still r0 hm hk (hall H) fun H2 _ => hall H2
      intro H2 E w a next Q hr hl hn
      simp only [Region.wanted, if_true]
      have hr0 : RelH ⟨0, fun _ => none, E.ok⟩ ⟨0, []⟩ w := ⟨rfl, fun x e sz es h => by simp [look] at h, fun x es h => by simp [look] at h, fun _ _ => rfl, fun x b h => by simp [look] at h, fun x y k s s' h => (by cases h), fun x k s h => (by cases h), hr.okl⟩
      have hop : ∀ x, G E w (dev s [] (opT op.operands.toList) x) (a.eval x) := dev_spec hl (fun t ht => by simp [inT] at ht) (fun t ht => by simp [inT] at ht)
      obtain ⟨v, w', E1, hrun, hr1, hg, hx1⟩ := hd ⟨0, fun _ => none, E.ok⟩ w a hr0 (fun x => G.turn (E := E) (E' := ⟨0, fun _ => none, E.ok⟩) (m := 0) (fun b hb => hb) (fun x hx => by omega) (Nat.zero_le _) (hop x) (dev_NL hnl x).bel)
      obtain ⟨F, h5, h6, h7⟩ := lift0 hr hr1 hg hx1 hfl
      refine .inl ?_
      unfold Oper.wp
      rcases hrun with hrun | ⟨hrun, rfl⟩
      ·rw [hrun]; exact hn v F w' h5 h6 h7
      ·rw [hrun]; exact hn undef F w' h5 h6 h7
     ·rename_i hbn
      obtain ⟨lv, hk, hf⟩ := fact_plain (P := P) (ops := ops) (dst := dst) (ty := ty) (pos := pos) (after := after) hT h
      exact still lv hm hk hf fun H2 hs => by rw [‹isCall op = none›, ‹born cm op = false›] at hs; cases hs
  ·rename_i j want
   split at h
   ·exact h.elim
   ·rename_i hm
    split at h
    ·exact h.elim
    split at h
    ·rename_i dd hdd
     split at h
     ·rename_i g hw
      obtain ⟨h, hst⟩ := gcond_spec h
      split at h
      ·rename_i c hc
       obtain ⟨lv, hk, hcall⟩ := gcallK_spec h
       have looks : looksT ops.toList ⟨dst, op, ty, pos, after, some (j, want)⟩ = dd :: opT op.operands.toList := by simp only [looksT, hdd]
       suffices hall : ∀ H2, Fact2 P ops H2 H2 s ⟨dst, op, ty, pos, after, some (j, want)⟩ (.ite g lv .und) from still _ hm hk (hall H) fun H2 _ => hall H2
       intro H E w a next Q hr hl hn
       rw [wanted_eq hdd hw (hl dd (by rw [looks]; exact List.mem_cons_self))]
       cases g with
       | false => simp only [Bool.false_eq_true, if_false]; exact hn undef E w hr (.iteF _ _ _ .und) (Ext.refl E w)
       | true =>
        simp only [if_true]
        refine .inl (callK_sound (hcall rfl H) (opOf hc) hr (dev_spec (fun t ht => hl t (by rw [looks]; exact List.mem_cons_of_mem _ ht)) (fun t ht => sureT_sub ht) (fun t ht => hst t ht rfl)) (fun lv' H' v E' w' hk' hr' hg hx' => ?_))
        obtain ⟨rfl, rfl⟩ := hk'
        exact hn v E' w' hr' (.iteT _ _ _ hg) hx'
      ·obtain ⟨lv, hk, hf⟩ := fact_guard (P := P) (dst := dst) (ty := ty) (pos := pos) (after := after) (K := fun lv => putK n s dst lv fun s' => evM cm P T n ops.toList r s' H hs K) hT hdd hw hst h
       exact still _ hm hk hf fun H2 hs => by rw [‹isCall op = none›, ‹born cm op = false›] at hs; cases hs
     ·exact h.elim
    ·exact h.elim

theorem chainM_get : ∀ {l : List Oper} {s sf : Slots} {H Hf : Heap} {hs hsf : List Heap} {t : Nat}, ChainM cm P n ops l s H hs sf hsf Hf → t ∉ dstsOf l → get sf t = get s t
 | [], s, sf, H, Hf, hs, hsf, t, h, _ => by rw [h.1]
 | o :: r, s, sf, H, Hf, hs, hsf, t, ⟨lv, H', hn, hf, hc⟩, ht => by
  have key : ∀ {H hs}, ChainM cm P n ops r (pushS o.dst lv s) H hs sf hsf Hf → get sf t = get s t := by
   intro H hs hc
   cases hd : o.dst with
   | none =>
    rw [hd] at hc
    simp only [dstsOf, hd] at ht
    rw [chainM_get hc ht]; rfl
   | some d =>
    rw [hd] at hc
    simp only [dstsOf, hd, List.mem_cons, not_or] at ht
    rw [chainM_get hc ht.2]
    exact get_cons_ne ht.1
  split at hc
  ·exact key hc
  ·exact key hc.2.2

theorem chainM_drop : ∀ {l : List Oper} {s sf : Slots} {H Hf : Heap} {hs hsf : List Heap}, ChainM cm P n ops l s H hs sf hsf Hf → s = sf.drop (cntD l)
 | [], s, sf, H, Hf, hs, hsf, h => by rw [h.1]; rfl
 | o :: r, s, sf, H, Hf, hs, hsf, ⟨lv, H', hn, hf, hc⟩ => by
  have key : ∀ {H hs}, ChainM cm P n ops r (pushS o.dst lv s) H hs sf hsf Hf → s = sf.drop (cntD (o :: r)) := by
   intro H hs hc
   have := chainM_drop hc
   cases hd : o.dst with
   | none => rw [hd] at this; simp only [pushS] at this; simp only [cntD, hd]; exact this
   | some d =>
    rw [hd] at this; simp only [pushS] at this; simp only [cntD, hd]
    rw [← List.drop_drop (i := 1), ← this]
    rfl
  split at hc
  ·exact key hc
  ·exact key hc.2.2

theorem chainM_hs : ∀ {l : List Oper} {s sf : Slots} {H Hf : Heap} {hs hsf : List Heap}, ChainM cm P n ops l s H hs sf hsf Hf → (∀ j, j < hs.length → hsf[j]? = hs[j]?) ∧ hsf[hs.length]? = some H ∧ hsf[hs.length + cntM cm l]? = some Hf
 | [], s, sf, H, Hf, hs, hsf, h => by
  obtain ⟨_, h1, h2⟩ := h
  rw [← h1, snoc_eq]
  subst h2
  refine ⟨fun j hj => by rw [List.getElem?_append_left hj], by simp, by simp [cntM]⟩
 | o :: r, s, sf, H, Hf, hs, hsf, ⟨lv, H', hn, hf, hc⟩ => by
  cases hm : isMut cm o.op with
  | true =>
   simp only [hm] at hc
   obtain ⟨h1, h2, h3⟩ := chainM_hs hc
   simp only [snoc_eq, List.length_append, List.length_singleton] at h1 h2 h3
   refine ⟨fun j hj => ?_, ?_, ?_⟩
   ·rw [h1 j (by omega), List.getElem?_append_left hj]
   ·rw [h1 _ (by omega)]; simp
   ·simp only [cntM, hm]; rw [show hs.length + (cntM cm r + 1) = hs.length + 1 + cntM cm r by omega]; exact h3
  | false =>
   simp only [hm] at hc
   obtain ⟨h1, h2, h3⟩ := chainM_hs hc.2.2
   refine ⟨h1, h2, ?_⟩
   simp only [cntM, hm]; exact h3

theorem chainM_at : ∀ {l : List Oper} {s sf : Slots} {H Hf : Heap} {hs hsf : List Heap} {i : Nat}, ChainM cm P n ops l s H hs sf hsf Hf → i ≤ l.length →
  ∃ si Hi hsi, ChainM cm P n ops (l.drop i) si Hi hsi sf hsf Hf ∧ hsi.length = hs.length + cntM cm (l.take i) ∧ ∀ t, t ∉ dstsOf (l.take i) → get si t = get s t
 | l, s, sf, H, Hf, hs, hsf, 0, h, _ => ⟨s, H, hs, h, by simp [cntM], fun _ _ => rfl⟩
 | [], s, sf, H, Hf, hs, hsf, i + 1, h, hi => by simp at hi
 | o :: r, s, sf, H, Hf, hs, hsf, i + 1, ⟨lv, H', hn, hf, hc⟩, hi => by
  have push : ∀ t, t ∉ dstsOf (o :: r.take i) → get (pushS o.dst lv s) t = get s t ∧ t ∉ dstsOf (r.take i) := by
   intro t ht
   cases hd : o.dst with
   | none => simp only [dstsOf, hd] at ht; exact ⟨rfl, ht⟩
   | some d => simp only [dstsOf, hd, List.mem_cons, not_or] at ht; exact ⟨get_cons_ne ht.1, ht.2⟩
  cases hm : isMut cm o.op with
  | true =>
   simp only [hm] at hc
   obtain ⟨si, Hi, hsi, h1, h2, h3⟩ := chainM_at hc (by simpa using hi)
   refine ⟨si, Hi, hsi, by simpa using h1, ?_, fun t ht => ?_⟩
   ·rw [h2, snoc_eq]; simp only [List.length_append, List.length_singleton, List.take_succ_cons, cntM, hm]; omega
   ·rw [List.take_succ_cons] at ht
    rw [h3 t (push t ht).2, (push t ht).1]
  | false =>
   simp only [hm] at hc
   obtain ⟨si, Hi, hsi, h1, h2, h3⟩ := chainM_at hc.2.2 (by simpa using hi)
   refine ⟨si, Hi, hsi, by simpa using h1, ?_, fun t ht => ?_⟩
   ·rw [h2]; simp only [List.take_succ_cons, cntM, hm]
   ·rw [List.take_succ_cons] at ht
    rw [h3 t (push t ht).2, (push t ht).1]

theorem chkR_spec {f : Nat → Prop} {skip : Nat} : ∀ {c q : Nat}, chkR f skip q c → ∀ m, q ≤ m → m < q + c → m ≠ skip → f m
 | 0, q, _, m, h1, h2, _ => by omega
 | c + 1, q, h, m, h1, h2, h3 => by
  simp only [chkR] at h
  split at h
  ·rename_i hb
   have := Nat.eq_of_beq_eq_true hb
   exact chkR_spec h m (by omega) (by omega) h3
  ·by_cases hq : m = q
   ·subst hq; exact h.1
   ·exact chkR_spec h.2 m (by omega) (by omega) h3

theorem chks_spec {all : List Oper} {sf : Slots} {hs : List Heap} {lo hi : List Nat} {k : Nat} : ∀ {l : List Oper} {i r : Nat}, chks cm T all sf hs lo hi k i r l →
  ∀ (j : Nat) (o : Oper), l[j]? = some o → isMut cm o.op = false → isCall o.op = none → born cm o.op = false → ∃ d, o.dst = some d ∧ ∀ m, nthD 0 lo (i + j) ≤ m → m ≤ nthD k hi (i + j) → m ≠ r + cntM cm (l.take j) →
   chkAt T all (sf.drop (cntD (l.drop j))) (nthD ⟨0, []⟩ hs m) o.op o.guard (get sf d)
 | [], i, r, h, j, o, ho, _, _, _ => by simp at ho
 | ⟨dst, op, ty, pos, after, guard⟩ :: l, i, r, h, j, o, ho, hm, hc, hbn => by
  have tail : ∀ (j : Nat) (b : Nat), r + b = r + (match isMut cm op with | true => 1 | false => 0) → chks cm T all sf hs lo hi k (i + 1) (r + b) l → l[j]? = some o → ∃ d, o.dst = some d ∧ ∀ m, nthD 0 lo (i + (j + 1)) ≤ m → m ≤ nthD k hi (i + (j + 1)) → m ≠ r + cntM cm ((⟨dst, op, ty, pos, after, guard⟩ :: l).take (j + 1)) →
    chkAt T all (sf.drop (cntD ((⟨dst, op, ty, pos, after, guard⟩ :: l).drop (j + 1)))) (nthD ⟨0, []⟩ hs m) o.op o.guard (get sf d) := by
   intro j b hb h ho
   obtain ⟨d, h1, h2⟩ := chks_spec h j o ho hm hc hbn
   refine ⟨d, h1, fun m h3 h4 h5 => ?_⟩
   rw [List.drop_succ_cons]
   refine h2 m (by rw [show i + 1 + j = i + (j + 1) by omega]; exact h3) (by rw [show i + 1 + j = i + (j + 1) by omega]; exact h4) ?_
   rw [List.take_succ_cons] at h5
   cases hx : isMut cm op <;> simp only [hx, cntM] at hb h5 <;> omega
  simp only [chks] at h
  split at h
  ·rename_i hx
   cases j with
   | zero => simp at ho; subst ho; rw [hx] at hm; cases hm
   | succ j => exact tail j 1 (by rw [hx]) h (by simpa using ho)
  ·rename_i hx
   split at h
   ·rename_i c hcc
    cases j with
    | zero => simp at ho; subst ho; rw [hcc] at hc; cases hc
    | succ j => exact tail j 0 (by rw [hx]) h (by simpa using ho)
   ·split at h
    ·rename_i hbb
     cases j with
     | zero => simp at ho; subst ho; rw [hbb] at hbn; cases hbn
     | succ j => exact tail j 0 (by rw [hx]) h (by simpa using ho)
    split at h
    ·rename_i d
     cases j with
     | zero =>
      simp at ho; subst ho
      refine ⟨d, rfl, fun m h1 h2 h3 => ?_⟩
      simp only [Nat.add_zero] at h1 h2
      have := chkR_spec h.1 m h1 (by omega) (by simpa [cntM] using h3)
      rw [dropS_eq] at this
      simpa [cntD] using this
     | succ j => exact tail j 0 (by rw [hx]) h.2 (by simpa using ho)
    ·exact h.elim

theorem dstOf_at {l : List Oper} {j : Nat} {t : Nat} (h : dstOf l j = some t) : ∃ o, l[j]? = some o ∧ o.dst = some t := by
 rw [dstOf_eq] at h
 cases ho : l[j]? with
 | none => rw [ho] at h; cases h
 | some o => rw [ho] at h; exact ⟨o, rfl, h⟩

theorem mem_dsts {l : List Oper} {j : Nat} {o : Oper} {t : Nat} (h : l[j]? = some o) (hd : o.dst = some t) : t ∈ dstsOf l := dstsOf_mem.2 ⟨o, List.mem_of_getElem? h, hd⟩

def Held (E : Env) (w : World) (all : List Oper) (s sf : Slots) (L : Nat → Prop) (a : Act) : Prop :=
 ∀ t, ((∃ j o, all[j]? = some o ∧ o.dst = some t ∧ L j) → G E w (get sf t) (a.tmps.getD t undef)) ∧
  ((∀ j o, all[j]? = some o → o.dst = some t → ¬ L j) → G E w (get s t) (a.tmps.getD t undef))

def WA (P : Program) (n n0 : Nat) (ops : Array Oper) (Q : Exit → Slots → Heap → Prop) (s : Slots) (H : Heap) : Prop :=
 ∀ (E0 : Env) (w0 : World), E0.nx = n0 → ∀ (E : Env) (w : World) (a : Act), SR E w n s a → RelH E H w → Ext E0 w0 E w →
  wpAny P .any ops (Phys E0 w0 n Q) ops.size (Array.replicate ops.size false) a { w with drawn := w.drawn + 1 }
theorem WA.drawnM (cm : Nat) (hT : TOk P T) {n0 : Nat} {Q : Exit → Slots → Heap → Prop} {s : Slots} {H : Heap} (lo hi : List Nat) (hok : okM cm ops.toList lo hi = true)
  (h : evM cm P T n ops.toList ops.toList s H [] fun sf hs Hf => chks cm T ops.toList sf hs lo hi (cntM cm ops.toList) 0 0 ops.toList ∧ Q .normal sf Hf) : WA P n n0 ops Q s H := by
 intro E0 w0 hn0 E w a hsr hr hx
 have step : ∀ (i : Nat) (o : Oper), ops.toList[i]? = some o → StepOk cm ops.toList lo hi i o (ops.toList.drop (i + 1)) := fun i o ho => by simpa using okGo_spec hok i o ho
 obtain ⟨sf, hs, Hf, ⟨hchk, hQ⟩, hch⟩ := evM_spec hT _ _ _ _ _ h
 have hlast := (chainM_hs hch).2.2
 simp only [List.length_nil, Nat.zero_add] at hlast
 -- one writer each
 have uniq : ∀ (i j : Nat) (o o' : Oper) (t : Nat), ops.toList[i]? = some o → ops.toList[j]? = some o' → o.dst = some t → o'.dst = some t → i = j := by
  have half : ∀ (i j : Nat) (o o' : Oper) (t : Nat), ops.toList[i]? = some o → ops.toList[j]? = some o' → o.dst = some t → o'.dst = some t → ¬ i < j := by
   intro i j o o' t hi hj hd hd' hlt
   refine (step i o hi).fresh t hd (mem_dsts (j := j - (i + 1)) (o := o') ?_ hd')
   rw [List.getElem?_drop, show i + 1 + (j - (i + 1)) = j by omega]; exact hj
  intro i j o o' t h1 h2 h3 h4
  have := half i j o o' t h1 h2 h3 h4
  have := half j i o' o t h2 h1 h4 h3
  omega
 -- what each does
 have fact : ∀ (i : Nat) (o : Oper), ops.toList[i]? = some o → ∃ si lv, (∀ d, o.dst = some d → d < n ∧ get sf d = lv) ∧
   (∀ t, t ∉ dstsOf (ops.toList.drop i) → get sf t = get si t) ∧ (∀ t, t ∉ dstsOf (ops.toList.take i) → get si t = get s t) ∧
   (isMut cm o.op = true → Fact2 P ops (nthD ⟨0, []⟩ hs (cntM cm (ops.toList.take i))) (nthD ⟨0, []⟩ hs (cntM cm (ops.toList.take i) + 1)) si o lv) ∧
   (isMut cm o.op = false → ∀ q, nthD 0 lo i ≤ q → q ≤ nthD (cntM cm ops.toList) hi i → Fact2 P ops (nthD ⟨0, []⟩ hs q) (nthD ⟨0, []⟩ hs q) si o lv) := by
  intro i o ho
  have hlt : i < ops.toList.length := (List.getElem?_eq_some_iff.1 ho).1
  obtain ⟨si, Hi, hsi, hc, hlen, hold⟩ := chainM_at hch (Nat.le_of_lt hlt)
  have hc0 := hc
  have hd : ops.toList.drop i = o :: ops.toList.drop (i + 1) := by
   rw [List.drop_eq_getElem_cons hlt]; congr 1; exact (List.getElem?_eq_some_iff.1 ho).2
  simp only [List.length_nil, Nat.zero_add] at hlen
  rw [hd] at hc
  have hheap := (chainM_hs hc).2.1
  rw [hlen] at hheap
  obtain ⟨lv, H', hn, hf, hc'⟩ := hc
  have hget : ∀ d, o.dst = some d → get sf d = lv := by
   intro d hdd
   have hfr := (step i o ho).fresh d hdd
   split at hc'
   ·rw [chainM_get hc' hfr, hdd]; exact get_cons_eq
   ·rw [chainM_get hc'.2.2 hfr, hdd]; exact get_cons_eq
  refine ⟨si, lv, fun d hdd => ⟨hn d hdd, hget d hdd⟩, fun t ht => chainM_get hc0 ht, hold, fun hmu => ?_, fun hmu q hq1 hq2 => ?_⟩
  ·simp only [hmu] at hc'
   have h2 := (chainM_hs hc').2.1
   rw [snoc_eq, List.length_append, List.length_singleton, hlen] at h2
   rw [nthD_eq, nthD_eq, hheap, h2]
   exact hf
  ·simp only [hmu] at hc'
   obtain ⟨rfl, hcl, hc'⟩ := hc'
   by_cases hq : q = cntM cm (ops.toList.take i)
   ·rw [nthD_eq, hq, hheap]; exact hf
   ·cases hcall : isCall o.op with
    | some c => exact hcl _ (by rw [hcall]; rfl)
    | none =>
     cases hbn : born cm o.op with
     | true => exact hcl _ (by rw [hbn, Bool.or_true])
     | false =>
     obtain ⟨d, hdd, hall⟩ := chks_spec hchk i o ho hmu hcall hbn
     simp only [Nat.zero_add] at hall
     have := hall q hq1 hq2 hq
     rw [← chainM_drop hc0, hget d hdd] at this
     exact chkAt_spec hT this
 have hsz : ops.toList.length = ops.size := by simp
 let Inv : Array Bool → Act → World → Prop := fun listed a w => listed.size = ops.size ∧ a.tmps.size = n ∧ a.defers = [] ∧
  (∀ (j : Nat) (o : Oper) (e : Edge), ops.toList[j]? = some o → listed.getD j true = true → e ∈ o.after.toList → Region.binds .any e = true → listed.getD e.on true = true) ∧
  ∃ E q, q ≤ cntM cm ops.toList ∧ (∀ (i : Nat) (o : Oper), ops.toList[i]? = some o → isMut cm o.op = true → (listed.getD i true = true ↔ cntM cm (ops.toList.take i) < q)) ∧
   (∀ (i : Nat) (o : Oper), ops.toList[i]? = some o → isMut cm o.op = false → listed.getD i true = true → nthD 0 lo i ≤ q) ∧
   RelH E (nthD ⟨0, []⟩ hs q) w ∧ Ext E0 w0 E w ∧ Held E w ops.toList s sf (fun j => listed.getD j true = true) a
 have key : ∀ (fuel : Nat) (listed : Array Bool) (a : Act) (w : World), ((List.range ops.size).filter fun i => !listed.getD i true).length ≤ fuel → Inv listed a w →
   wpAny P .any ops (Phys E0 w0 n Q) fuel listed a w := by
  have fin : ∀ (listed : Array Bool) (a : Act) (w : World), Inv listed a w → Region.ready .any ops listed = [] → Phys E0 w0 n Q .normal a w := by
   intro listed a w ⟨hls, hsz', hdf, hcl, E, q, hq, hmu, hnm, hr, hx, hg⟩ hrd
   have all : ∀ i, i < ops.size → listed.getD i true = true := by
    intro i
    induction i using Nat.strongRecOn with
    | _ i ih =>
     intro hi
     cases hl : listed.getD i true with
     | true => rfl
     | false =>
      exfalso
      have ho : ops.toList[i]? = some ops[i] := by simp [hi]
      have hlt := (step i _ ho).lt
      have : i ∈ Region.ready .any ops listed := by
       simp only [Region.ready, List.mem_filter, List.mem_range, hi, hl, true_and, Bool.not_false, Bool.true_and]
       simp only [Array.getElem?_eq_getElem hi, Option.map_some, Option.getD_some, Array.all_eq_true']
       intro e he
       simp only [Bool.or_eq_true]
       cases hbe : Region.binds .any e with
       | false => exact .inl rfl
       | true =>
       right
       have h1 := hlt e (by simpa using he) hbe
       have h2 := ih e.on (by omega) (by omega)
       have h3 : e.on < listed.size := by rw [hls]; omega
       simpa [Array.getD, h3] using h2
      rw [hrd] at this
      cases this
   have hqk : q = cntM cm ops.toList := by
    rcases Nat.lt_or_ge q (cntM cm ops.toList) with hlt | hge
    ·obtain ⟨i, o, h1, h2, h3⟩ := mut_of_rank ops.toList q hlt
     have := (hmu i o h1 h2).1 (all i (by have := (List.getElem?_eq_some_iff.1 h1).1; omega))
     omega
    ·omega
   rw [hqk, nthD_eq, hlast] at hr
   refine ⟨E, sf, Hf, hQ, ⟨hsz', hdf, fun t => ?_⟩, hr, hx⟩
   by_cases ht : t ∈ dstsOf ops.toList
   ·obtain ⟨o, ho, hd⟩ := dstsOf_mem.1 ht
    obtain ⟨j, hj⟩ := List.getElem?_of_mem ho
    refine (hg t).1 ⟨j, o, hj, hd, all j ?_⟩
    have := (List.getElem?_eq_some_iff.1 hj).1
    simpa using this
   ·rw [chainM_get hch ht]
    exact (hg t).2 fun j o hj hd => absurd (mem_dsts hj hd) ht
  intro fuel
  induction fuel with
  | zero =>
   intro listed a w hc hI
   have hnil : Region.ready .any ops listed = [] := by
    rw [List.eq_nil_iff_forall_not_mem]
    intro i hi
    simp only [Region.ready, List.mem_filter, Bool.and_eq_true] at hi
    have : i ∈ (List.range ops.size).filter fun i => !listed.getD i true := List.mem_filter.2 ⟨hi.1, hi.2.1⟩
    have hz := List.eq_nil_of_length_eq_zero (Nat.le_zero.1 hc)
    rw [hz] at this; cases this
   exact ⟨hnil, fin _ _ _ hI hnil⟩
  | succ fuel ih =>
   intro listed a w hc hI
   refine ⟨fun h0 => fin _ _ _ hI h0, fun i hi => ?_⟩
   obtain ⟨hls, hsz', hdf, hcl, E, q, hq, hmu, hnm, hr, hx, hg⟩ := hI
   simp only [Region.ready, List.mem_filter, List.mem_range, Bool.and_eq_true] at hi
   obtain ⟨hilt, hun, haf⟩ := hi
   have hun' : listed.getD i true = false := by simpa using hun
   have ho : ops.toList[i]? = some ops[i] := by simp [hilt]
   have ho' : ops[i]? = some ops[i] := by simp [hilt]
   rw [ho', Option.map_some, Option.getD_some, Array.all_eq_true'] at haf
   have hso := step i _ ho
   have hdep : ∀ e ∈ ops[i].after.toList, Region.binds .any e = true → listed.getD e.on true = true := by
    intro e he hb
    have hel := hso.lt e he hb
    have hli := haf e (by simpa using he)
    simp only [hb, Bool.not_true, Bool.false_or] at hli
    have h3 : e.on < listed.size := by rw [hls]; omega
    simpa [Array.getD, h3] using hli
   obtain ⟨si, lv, hdst, hsf, hs0, hfm, hfn⟩ := fact i _ ho
   -- the operands
   have hop : ∀ t ∈ looksT ops.toList ops[i], G E w (get si t) (a.tmps.getD t undef) := by
    intro t ht
    by_cases htd : t ∈ dstsOf ops.toList
    ·rcases hso.looks t ht htd with ⟨e, he, hb, hde⟩ | ⟨j, hde, hre⟩
     ·have hel := hso.lt e he hb
      obtain ⟨oe, hoe, hdd⟩ := dstOf_at hde
      rw [← hsf t]
      ·exact (hg t).1 ⟨e.on, oe, hoe, hdd, hdep e he hb⟩
      ·intro hm2
       obtain ⟨o2, h7, h8⟩ := dstsOf_mem.1 hm2
       obtain ⟨k, hk⟩ := List.getElem?_of_mem h7
       rw [List.getElem?_drop] at hk
       have := uniq _ _ _ _ t hoe hk hdd h8
       omega
     ·obtain ⟨oj, hoj, hdd⟩ := dstOf_at hde
      have hij : i < j := by
       have := reachE_spec (all := ops.toList) (i := i) (L := fun x => x = j ∨ x < j) (fun x o e hx hL he hb => by
        have := (step x o hx).lt e he hb
        rcases hL with rfl | hL <;> exact .inr (by omega)) hre (.inl rfl)
       rcases this with rfl | h
       ·-- an operation that comes ahead of itself
        exfalso
        have hself := reachE_spec (all := ops.toList) (i := i) (L := fun x => listed.getD x true = true ∨ (x = i ∧ False) ∨ x = i) (fun x o e hx hL he hb => by
         rcases hL with hL | ⟨_, hf⟩ | rfl
         ·exact .inl (hcl x o e hx hL he hb)
         ·exact hf.elim
         ·rw [ho] at hx; cases hx; exact .inl (hdep e he hb)) hre (.inr (.inr rfl))
        have : ∀ f x, reachE ops.toList i f x = true → i < x := by
         intro f
         induction f with
         | zero => intro x h; cases h
         | succ f ihf =>
          intro x h
          simp only [reachE] at h
          obtain ⟨e, h1, h2⟩ := anyE_spec h
          unfold edgesAt at h1
          split at h1
          ·rename_i o hx
           rw [nth_eq] at hx
           split at h2
           ·rename_i hb
            have hlt := (step x o hx).lt e h1 hb
            split at h2
            ·rename_i hqq; have := Nat.eq_of_beq_eq_true hqq; omega
            ·have := ihf _ h2; omega
           ·cases h2
          ·cases h1
        have := this _ _ hre
        omega
       ·exact h
      have hnl : ¬ listed.getD j true = true := fun hl => by
       have := reachE_spec (all := ops.toList) (i := i) (L := fun x => listed.getD x true = true) (fun x o e hx hL he hb => hcl x o e hx hL he hb) hre hl
       rw [hun'] at this; cases this
      rw [hs0 t]
      ·refine (hg t).2 fun j' o' hj' hd' => ?_
       rw [uniq _ _ _ _ t hj' hoj hd' hdd]; exact hnl
      ·intro hm2
       obtain ⟨o2, h7, h8⟩ := dstsOf_mem.1 hm2
       obtain ⟨k, hk⟩ := List.getElem?_of_mem h7
       rw [List.getElem?_take] at hk
       split at hk
       ·have := uniq _ _ _ _ t hoj hk hdd h8
        omega
       ·cases hk
    ·rw [hs0 t (fun hm2 => htd (by
      obtain ⟨o2, h7, h8⟩ := dstsOf_mem.1 hm2
      exact dstsOf_mem.2 ⟨o2, List.mem_of_mem_take h7, h8⟩))]
     exact (hg t).2 fun j o hj hd => absurd (mem_dsts hj hd) htd
   -- a later list
   have hset : ∀ j, (listed.setIfInBounds i true).getD j true = true ↔ j = i ∨ listed.getD j true = true := by
    intro j
    by_cases hji : j = i
    ·subst hji
     have : j < listed.size := by rw [hls]; exact hilt
     simp [Array.getD, this]
    ·simp only [hji, false_or]
     simp only [Array.getD_eq_getD_getElem?, Array.getElem?_setIfInBounds, Ne.symm hji, if_false]
   have hless : ((List.range ops.size).filter fun j => !(listed.setIfInBounds i true).getD j true).length ≤ fuel := by
    refine Nat.le_of_lt_succ (Nat.lt_of_lt_of_le ?_ hc)
    have hsub : ((List.range ops.size).filter fun j => !(listed.setIfInBounds i true).getD j true) = ((List.range ops.size).filter fun j => !listed.getD j true).filter fun j => j != i := by
     rw [List.filter_filter]
     refine List.filter_congr fun j hj => ?_
     have hjs : j < ops.size := List.mem_range.1 hj
     by_cases hji : j = i
     ·subst hji; simp [Array.getD, hls, hjs]
     ·have hb : (j != i) = true := by simp [hji]
      simp [Array.getD, hls, hjs, hb, Ne.symm hji]
    rw [hsub]
    have hin : i ∈ (List.range ops.size).filter fun j => !listed.getD j true := List.mem_filter.2 ⟨List.mem_range.2 hilt, hun⟩
    exact List.length_filter_lt_length_iff_exists.2 ⟨i, hin, by simp⟩
   have hclosed : ∀ (j : Nat) (o : Oper) (e : Edge), ops.toList[j]? = some o → (listed.setIfInBounds i true).getD j true = true → e ∈ o.after.toList → Region.binds .any e = true → (listed.setIfInBounds i true).getD e.on true = true := by
    intro j o e hj hl he hb
    rw [hset] at hl ⊢
    rcases hl with rfl | hl
    ·rw [ho] at hj; cases hj; exact .inr (hdep e he hb)
    ·exact .inr (hcl j o e hj hl he hb)
   have held : ∀ {v E' w'}, G E' w' lv v → Ext E w E' w' → RelH E (nthD ⟨0, []⟩ hs q) w → Held E' w' ops.toList s sf (fun j => (listed.setIfInBounds i true).getD j true = true) (a.put ops[i].dst v) := by
    intro v E' w' hgv hx' hr t
    by_cases htd : ops[i].dst = some t
    ·obtain ⟨hdn, hgl⟩ := hdst t htd
     have hput : (a.put ops[i].dst v).tmps.getD t undef = v := by rw [htd]; simp [Act.put, Array.getD, hsz', hdn]
     refine ⟨fun _ => by rw [hput, hgl]; exact hgv, fun hno => absurd ((hset i).2 (.inl rfl)) (hno i _ ho htd)⟩
    ·have hput : (a.put ops[i].dst v).tmps.getD t undef = a.tmps.getD t undef := by
      cases hd : ops[i].dst with
      | none => rfl
      | some d =>
       have hne : d ≠ t := fun e => htd (by rw [hd, e])
       simp only [Act.put, Array.getD_eq_getD_getElem?, Array.getElem?_setIfInBounds, hne, if_false]
     rw [hput]
     refine ⟨fun ⟨j, o, hj, hdj, hlj⟩ => ?_, fun hno => ?_⟩
     ·rcases (hset j).1 hlj with rfl | hlj
      ·rw [ho] at hj; cases hj; exact absurd hdj htd
      ·exact ((hg t).1 ⟨j, o, hj, hdj, hlj⟩).ext hr hx'
     ·exact ((hg t).2 fun j o hj hdj hl => hno j o hj hdj ((hset j).2 (.inr hl))).ext hr hx'
   have hlo : nthD 0 lo i ≤ q := by
    rcases hso.low with h0 | ⟨e, he, hb, hcase⟩
    ·omega
    ·have hel := hso.lt e he hb
     have hld := hdep e he hb
     have hoe : ops.toList[e.on]? = some (ops[e.on]'(by omega)) := by simp
     rcases hcase with ⟨r, hrk, hle⟩ | ⟨hrk, hle⟩
     ·rw [ranks_at _ _ _ _ hoe] at hrk
      simp only [Prod.mk.injEq, Nat.zero_add] at hrk
      have := (hmu e.on _ hoe hrk.1).1 hld
      omega
     ·rw [ranks_at _ _ _ _ hoe] at hrk
      have := hnm e.on _ hoe hrk hld
      omega
   have hrank := ranks_at (cm := cm) ops.toList 0 i _ ho
   rw [Nat.zero_add] at hrank
   unfold wpOp
   rw [ho']
   cases hmi : isMut cm ops[i].op with
   | true =>
    rw [hmi] at hrank
    have hqi : q = cntM cm (ops.toList.take i) := by
     have h1 := hso.muts _ hrank
     have h2 : ¬ cntM cm (ops.toList.take i) < q := fun h => by
      have := (hmu i _ ho hmi).2 h
      rw [hun'] at this; cases this
     omega
    rw [hqi] at hr
    have hq1 : cntM cm (ops.toList.take i) + 1 ≤ cntM cm ops.toList := cntM_take_lt _ _ _ ho hmi
    refine hfm hmi E w a _ _ hr hop fun v E' w' hr' hgv hx' => ?_
    refine ih _ _ _ hless ⟨by simp [hls], by cases hd : ops[i].dst <;> simp [Act.put, hsz'], by cases hd : ops[i].dst <;> exact hdf, hclosed, E', cntM cm (ops.toList.take i) + 1, hq1, fun j o hj hmj => ?_, fun j o hj hmj hlj => ?_, hr', hx.trans hx', held hgv hx' (by rw [hqi]; exact hr)⟩
    ·rw [hset]
     constructor
     ·rintro (rfl | hl)
      ·omega
      ·have := (hmu j o hj hmj).1 hl; omega
     ·intro hlt
      by_cases hji : j = i
      ·exact .inl hji
      ·right
       refine (hmu j o hj hmj).2 ?_
       have : cntM cm (ops.toList.take j) ≠ cntM cm (ops.toList.take i) := fun he => hji (rank_inj _ _ _ _ _ hj ho hmj hmi he)
       omega
    ·rw [hset] at hlj
     rcases hlj with rfl | hl
     ·rw [ho] at hj; cases hj; rw [hmi] at hmj; cases hmj
     ·have := hnm j o hj hmj hl; omega
   | false =>
    rw [hmi] at hrank
    -- the last stage at which it may come
    have hhi : ∀ (c j : Nat) (o : Oper), ops.toList.length - j ≤ c → ops.toList[j]? = some o → isMut cm o.op = false → ¬ listed.getD j true = true → q ≤ nthD (cntM cm ops.toList) hi j := by
     intro c
     induction c with
     | zero =>
      intro j o hc hj
      have := (List.getElem?_eq_some_iff.1 hj).1
      omega
     | succ c ihc =>
      intro j o hc hj hmj hnl
      have hrj := ranks_at (cm := cm) ops.toList 0 j o hj
      rw [Nat.zero_add, hmj] at hrj
      rcases (step j o hj).high (by rw [hrj]) with h0 | ⟨p, o', hp, ⟨e, he, hb, heq⟩, hcase⟩
      ·omega
      ·have hpj := (step p o' hp).lt e he hb
       rw [heq] at hpj
       have hnp : ¬ listed.getD p true = true := fun hl => hnl (by rw [← heq]; exact hcl p o' e hp hl he hb)
       have hrp := ranks_at (cm := cm) ops.toList 0 p o' hp
       rw [Nat.zero_add] at hrp
       rcases hcase with ⟨r, hrk, hle⟩ | ⟨hrk, hle⟩
       ·rw [hrp] at hrk
        simp only [Prod.mk.injEq] at hrk
        have : ¬ cntM cm (ops.toList.take p) < q := fun h => hnp ((hmu p o' hp hrk.1).2 h)
        omega
       ·rw [hrp] at hrk
        have := ihc p o' (by have := (List.getElem?_eq_some_iff.1 hp).1; omega) hp hrk hnp
        omega
    have hq2 := hhi _ i _ (Nat.le_refl _) ho hmi (by rw [hun']; exact Bool.false_ne_true)
    refine hfn hmi q hlo hq2 E w a _ _ hr hop fun v E' w' hr' hgv hx' => ?_
    refine ih _ _ _ hless ⟨by simp [hls], by cases hd : ops[i].dst <;> simp [Act.put, hsz'], by cases hd : ops[i].dst <;> exact hdf, hclosed, E', q, hq, fun j o hj hmj => ?_, fun j o hj hmj hlj => ?_, hr', hx.trans hx', held hgv hx' hr⟩
    ·rw [hset]
     constructor
     ·rintro (rfl | hl)
      ·rw [ho] at hj; cases hj; rw [hmi] at hmj; cases hmj
      ·exact (hmu j o hj hmj).1 hl
     ·exact fun hlt => .inr ((hmu j o hj hmj).2 hlt)
    ·rw [hset] at hlj
     rcases hlj with rfl | hl
     ·exact hlo
     ·exact hnm j o hj hmj hl
 have hx0 : Ext E w E { w with drawn := w.drawn + 1 } := ⟨Nat.le_refl _, Nat.le_refl _, fun _ _ _ => rfl, fun _ arr _ fr h => ⟨arr, fr, h, rfl⟩, fun _ _ => .inr rfl, fun _ h => h, fun _ h => .inl h, fun x k s hx h => .inr ⟨x, s, h⟩, rfl, rfl, rfl⟩
 have hnone : ∀ (j : Nat) (o : Oper), ops.toList[j]? = some o → ¬ (Array.replicate ops.size false).getD j true = true := by
  intro j o hj
  have hjs : j < ops.size := by have := (List.getElem?_eq_some_iff.1 hj).1; simpa using this
  simp [Array.getD, hjs]
 have h00 : hs[0]? = some H := by simpa using (chainM_hs hch).2.1
 refine (key _ _ _ _ ?_ ⟨by simp, hsr.size, hsr.defers, fun j o e hj hl _ _ => absurd hl (hnone j o hj), E, 0, Nat.zero_le _, fun i o hi hmi => ?_, fun i o hi _ hl => absurd hl (hnone i o hi), ?_, hx.trans hx0, fun t => ⟨fun ⟨j, o, hj, _, hl⟩ => absurd hl (hnone j o hj), fun _ => (hsr.slot t).ext hr hx0⟩⟩)
 ·exact Nat.le_trans (List.length_filter_le _ _) (by simp)
 ·exact ⟨fun hl => absurd hl (hnone i o hi), fun h => absurd h (Nat.not_lt_zero _)⟩
 ·rw [nthD_eq, h00]; exact hr.still rfl hx0
theorem W.drawnM (cm : Nat) (hT : TOk P T) (hm : P.follows .mixedOrders = true) {n0 id : Nat} {Q : Exit → Slots → Heap → Prop} {s : Slots} {H : Heap} (lo hi : List Nat) (hok : okM cm ops.toList lo hi = true)
  (h : evM cm P T n ops.toList ops.toList s H [] fun sf hs Hf => chks cm T ops.toList sf hs lo hi (cntM cm ops.toList) 0 0 ops.toList ∧ Q .normal sf Hf) : W P n n0 (.region id ops true) Q s H :=
 fun E0 w0 hn0 E w a hsr hr hx => wp_region_any hm (WA.drawnM cm hT lo hi hok h E0 w0 hn0 E w a hsr hr hx)
end
end Go.RX
