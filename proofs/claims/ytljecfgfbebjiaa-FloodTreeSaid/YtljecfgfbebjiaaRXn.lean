/- RX, part n: regions in the text's order; code; a call out of a body. -/
import Derived.Test.YtljecfgfbebjiaaRXm
import Derived.Laws.Cover3
set_option linter.unusedVariables false
namespace Go.RX

section
variable {P : Program} {T : List (Nat × TE)}

def MethodIs (P : Program) (t : Nat) (name : String) (f : FuncId) : Prop :=
 ∀ (v : Value) (w : World), (method (P.types.size + Made.depth) t v name).run P w = .ok (f, v) w

def RecvIs (P : Program) (t : Nat) (name : String) (H : Heap) (v : LV) (f : FuncId) (u : LV) : Prop :=
 ∀ (E : Env) (w : World) (x : Value), RelH E H w → G E w v x → ∃ y, (method (P.types.size + Made.depth) t x name).run P w = .ok (f, y) w ∧ G E w u y
theorem MethodIs.at {t : Nat} {name : String} {f : FuncId} (h : MethodIs P t name f) {H : Heap} {v : LV} : RecvIs P t name H v f v := fun E w x _ hx => ⟨x, h x w, hx⟩
def MethodDe (P : Program) (t : Nat) (name : String) (f : FuncId) (el : Nat) : Prop :=
 ∀ (a : Addr) (w : World), (method (P.types.size + Made.depth) t (.pointer (some a)) name).run P w = (do let u ← loadVar el a; pure (f, u) : Sem (FuncId × Value)).run P w
theorem MethodDe.at {t : Nat} {name : String} {f : FuncId} {el : Nat} (h : MethodDe P t name f el) (hT : TOk P T) {H : Heap} {v u : LV} (hl : loadK T H el v (· = u)) : RecvIs P t name H v f u := fun E w x hr hx => by
 obtain ⟨lv, rfl, hk⟩ := loadK_spec hT hl
 obtain ⟨y, hy, hg⟩ := hk E w x hr hx
 have hp : ∃ a, x = .pointer (some a) := by
  unfold loadK at hl
  split at hl
  ·rename_i b i o
   split at hl
   ·rename_i e sz es hb
    split at hl
    ·rename_i cs hn
     rw [nth_eq] at hn
     rcases hr.row b e sz es hb with ⟨_, hnil⟩ | ⟨k, arr, hφ, _⟩
     ·rw [hnil] at hn; simp at hn
     ·cases hx with
      | ptrDead _ _ _ _ h1 _ => rw [hφ] at h1; cases h1
      | ptr _ _ _ k' sz' h2 => exact ⟨_, rfl⟩
    ·exact hl.elim
   ·exact hl.elim
  ·cases hx; exact ⟨_, rfl⟩
  ·exact hl.elim
 obtain ⟨a, rfl⟩ := hp
 have hy' : (loadVar el a).run P w = .ok y w := by simpa [Instr.loadAt, Instr.sureAddr] using hy
 exact ⟨y, by rw [h a w, Sem.run_bind, hy']; rfl, hg⟩

def isCall : Op → Option Call
 | .call c => match c.callee with
  | .builtin _ => none
  | _ => some c
 | _ => none

def callK (P : Program) (c : Call) (ρ : Operand → LV) (H : Heap) (K : LV → Heap → Prop) : Prop :=
 match c.callee with
 | .value f => match ρ f with
  | .func (.func n) first cap => CallW P n (first ++ c.args.toList.map ρ ++ cap) H K
  | _ => False
 | .invoke x name => match ρ x with
  | .iface t v => ∃ f u, RecvIs P t name H v f u ∧ CallW P f (u :: c.args.toList.map ρ) H K
  | _ => False
 | .builtin _ => False

theorem Gs.append {E : Env} {w : World} : ∀ {l l' : List LV} {v v' : List Value}, Gs E w l v → Gs E w l' v' → Gs E w (l ++ l') (v ++ v')
 | [], l', v, v', h, h' => by have := h.nil; subst this; exact h'
 | x :: r, l', v, v', h, h' => by
  obtain ⟨u, vs, rfl, h1, h2⟩ := h.cons
  have := Gs.append h2 h'
  refine ⟨by simpa using this.1, fun i y z hy hz => ?_⟩
  cases i with
  | zero => simp at hy hz; subst hy; subst hz; exact h1
  | succ i => exact this.2 i y z (by simpa using hy) (by simpa using hz)

theorem Gs.map {E : Env} {w : World} {ρ : Operand → LV} {a : Act} (h : ∀ x, G E w (ρ x) (a.eval x)) (l : List Operand) : Gs E w (l.map ρ) (l.map a.eval) :=
 ⟨by simp, fun i x v hx hv => by
  simp only [List.getElem?_map, Option.map_eq_some_iff] at hx hv
  obtain ⟨q, hq, rfl⟩ := hx
  obtain ⟨q', hq', rfl⟩ := hv
  rw [hq] at hq'; cases hq'
  exact h q⟩

theorem Gs.arr {E : Env} {w : World} {l : List LV} {arr : Array Value} (hl : arr.size = l.length) (h : ∀ i x, l[i]? = some x → G E w x (arr.getD i undef)) : Gs E w l arr.toList :=
 ⟨by simpa using hl, fun i x v hx hv => by
  have := h i x hx
  have hi : i < arr.size := by rw [hl]; exact (List.getElem?_eq_some_iff.1 hx).1
  have hv' : arr[i] = v := by simpa [hi] using hv
  simpa [Array.getD, hi, hv'] using this⟩

theorem enter_run {f : FuncId} (h : Fun P f) (args : Array Value) (w : World) : (callFunc f args).run P w = .ok (.enter f args) w := by
 obtain ⟨fn, h1, h2, h3⟩ := h
 have h2' : fn.name ≠ "runtime.NumGoroutine" := by simpa using h2
 have h3' : fn.body ≠ none := by intro e; rw [e] at h3; simp at h3
 simp [callFunc, h1, h2', h3']

theorem callK_sound {c : Call} {ρ : Operand → LV} {H : Heap} {K : LV → Heap → Prop} (h : callK P c ρ H K) {o : Oper} (ho : o.op = .call c) {E : Env} {w : World} {a : Act}
  (hr : RelH E H w) (hρ : ∀ x, G E w (ρ x) (a.eval x)) {next : Act → World → Prop} {Q : Exit → Act → World → Prop}
  (hn : ∀ lv H' v E' w', K lv H' → RelH E' H' w' → G E' w' lv v → Ext E w E' w' → next (a.put o.dst v) w') : o.wp P a w next Q := by
 have fin : ∀ (f : FuncId) (args : List LV) (vals : List Value), CallW P f args H K → Gs E w args vals → (execOp a.eval o).run P w = .ok (.enter f vals.toArray) w → o.wp P a w next Q := by
  intro f args vals hc hg he
  unfold Oper.wp
  rw [he]
  refine (hc.2 E w vals hr hg).mono fun e w' he => ?_
  cases e with
  | returned v => obtain ⟨E', lv, H', h1, h2, h3, h4⟩ := he; exact hn lv H' v E' w' h1 h2 h3 h4
  | panicked c => exact he.elim
  | outgrown => exact he.elim
 unfold callK at h
 obtain ⟨callee, args, argTypes⟩ := c
 simp only at h
 split at h
 ·rename_i f
  split at h
  ·rename_i n first cap hf
   have hfv := hρ f
   rw [hf] at hfv
   generalize hfe : a.eval f = fv at hfv
   cases hfv with
   | func _ _ _ cf cc hc hd ha hb =>
    have g1 := Gs.arr hc ha
    have g2 := Gs.arr hd hb
    have g3 := (g1.append (Gs.map hρ args.toList)).append g2
    refine fin n _ _ h g3 ?_
    have hrun := enter_run h.1 (cf ++ args.map a.eval ++ cc) w
    simp only [execOp, ho, resolve, hfe, Deferred.ofValue, Sem.run_bind, Sem.run_pure, Result.andThen_ok, invoke, hrun]
    congr 2
    apply Array.ext'
    simp
  ·exact h.elim
 ·rename_i x name
  split at h
  ·rename_i t v hx
   obtain ⟨f, lu, hm, hc⟩ := h
   have hxv := hρ x
   rw [hx] at hxv
   generalize hxe : a.eval x = xv at hxv
   cases hxv with
   | iface _ _ u0 hu0 =>
    obtain ⟨u, hm, hu⟩ := hm E w u0 hr hu0
    have g3 := Gs.map hρ args.toList
    refine fin f _ (u :: args.toList.map a.eval) hc ⟨by simp, fun i y z hy hz => ?_⟩ ?_
    ·cases i with
     | zero => simp at hy hz; subst hy; subst hz; exact hu
     | succ i => exact g3.2 i y z (by simpa using hy) (by simpa using hz)
    ·have hrun := enter_run hc.1 (#[u] ++ args.map a.eval) w
     have hsz : (#[Value.iface t u0] ++ Array.map a.eval args)[0]? = some (Value.iface t u0) := by
      rw [Array.getElem?_append]; simp
     have hex : (#[Value.iface t u0] ++ Array.map a.eval args).extract 1 (#[Value.iface t u0] ++ Array.map a.eval args).size = Array.map a.eval args := by
      apply Array.ext'
      simp only [Array.toList_extract, Array.toList_append, Array.toList_map, List.extract_eq_take_drop, Array.size_append, List.size_toArray, List.length_cons, List.length_nil, Array.size_map, List.cons_append, List.nil_append, List.drop_succ_cons, List.drop_zero]
      rw [List.take_of_length_le]
      simp
     simp only [execOp, ho, resolve, hxe, Sem.run_bind, Sem.run_pure, Result.andThen_ok, invoke, hsz, hex, callMethod, run_program, hm, hrun]
     congr 2
     apply Array.ext'
     simp
  ·exact h.elim
 ·exact h.elim

def inT (t : Nat) : List Nat → Bool
 | [] => false
 | u :: r => match Nat.beq t u with
  | true => true
  | false => inT t r

def opT : List Operand → List Nat
 | [] => []
 | .tmp t :: r => t :: opT r
 | _ :: r => opT r

def gev (s : Slots) (ts : List Nat) : Operand → LV
 | .tmp t => match inT t ts with
  | true => (strip (get s t)).1
  | false => get s t
 | x => ev s x

def sureT : Op → List Nat
 | .pick c _ _ => opT [c]
 | op => opT op.operands.toList

def gcond (s : Slots) (g : Bool) : List Nat → Prop → Prop
 | [], k => k
 | t :: r, k => match get s t with
  | .ite c a b => (g = true → (strip (.ite c a b)).2) ∧ gcond s g r k
  | _ => gcond s g r k

theorem gcond_spec {s : Slots} {g : Bool} {k : Prop} : ∀ {l : List Nat}, gcond s g l k → k ∧ ∀ t, inT t l = true → g = true → (strip (get s t)).2
 | [], h => ⟨h, fun t ht => by simp [inT] at ht⟩
 | u :: r, h => by
  have triv : ∀ v : LV, (∀ c a b, v ≠ .ite c a b) → (strip v).2 := by
   intro v hv
   cases v <;> first | exact trivial | exact absurd rfl (hv _ _ _)
  simp only [gcond] at h
  split at h
  ·rename_i c a b hu
   obtain ⟨h1, h2⟩ := gcond_spec h.2
   refine ⟨h1, fun t ht hg => ?_⟩
   simp only [inT] at ht
   split at ht
   ·rename_i hb; rw [Nat.eq_of_beq_eq_true hb, hu]; exact h.1 hg
   ·exact h2 t ht hg
  ·rename_i hu
   obtain ⟨h1, h2⟩ := gcond_spec h
   refine ⟨h1, fun t ht hg => ?_⟩
   simp only [inT] at ht
   split at ht
   ·rename_i hb; rw [Nat.eq_of_beq_eq_true hb]; exact triv _ (fun c a b e => hu c a b e)
   ·exact h2 t ht hg

def gcallK (P : Program) (c : Call) (ρ : Operand → LV) (g : Bool) (K : LV → Prop) : Prop :=
 match c.callee with
 | .value f => match ρ f with
  | .func (.func n) first cap => ∃ r, (g = true → CallP P n (first ++ c.args.toList.map ρ ++ cap) r) ∧ K r
  | _ => False
 | .invoke x name => match ρ x with
  | .iface t v => ∃ f r, (g = true → MethodIs P t name f ∧ CallP P f (v :: c.args.toList.map ρ) r) ∧ K r
  | _ => False
 | .builtin _ => False

theorem gcallK_spec {c : Call} {ρ : Operand → LV} {g : Bool} {K : LV → Prop} (h : gcallK P c ρ g K) : ∃ r, K r ∧ (g = true → ∀ H, callK P c ρ H fun lv H' => lv = r ∧ H' = H) := by
 obtain ⟨callee, args, argTypes⟩ := c
 cases callee with
 | builtin b => exact h.elim
 | value f =>
  simp only [gcallK] at h
  simp only [callK]
  split at h
  ·rename_i n first cap hf
   obtain ⟨r, h1, h2⟩ := h
   exact ⟨r, h2, fun hg H => h1 hg H⟩
  ·exact h.elim
 | invoke x name =>
  simp only [gcallK] at h
  simp only [callK]
  split at h
  ·rename_i t v hx
   obtain ⟨f, r, h1, h2⟩ := h
   exact ⟨r, h2, fun hg H => ⟨f, v, (h1 hg).1.at, (h1 hg).2 H⟩⟩
  ·exact h.elim

def dstOf : List Oper → Nat → Option Tmp
 | [], _ => none
 | o :: _, 0 => o.dst
 | _ :: r, n + 1 => dstOf r n
theorem dstOf_eq : ∀ (l : List Oper) (n : Nat), dstOf l n = (l[n]?).bind (·.dst)
 | [], n => by simp [dstOf]
 | o :: r, 0 => by simp [dstOf]
 | o :: r, n + 1 => by simp [dstOf, dstOf_eq r n]

def isHp : Op → Bool
 | .box _ _ => true
 | .alloc _ => true
 | .buildSlice _ _ _ => true
 | .store _ _ _ => true
 | .makeSlice _ _ _ => true
 | .makeMap _ _ => true
 | .mapUpdate _ _ _ _ => true
 | .mapEntry _ _ _ => true
 | .entryStore _ _ _ _ => true
 | .call c => match c.callee with
  | .builtin .append => true
  | _ => false
 | _ => false

def stripS (s : Slots) : List Nat → Slots
 | [] => s
 | t :: r => (t, (strip (get s t)).1) :: stripS s r

theorem stripS_spec {E : Env} {w : World} {n : Nat} {s : Slots} {a : Act} (hs : SR E w n s a) : ∀ {ts : List Nat}, (∀ t, inT t ts = true → (strip (get s t)).2) → SR E w n (stripS s ts) a
 | [], _ => hs
 | u :: r, h => by
  have hu : inT u (u :: r) = true := by simp [inT]
  have ih := stripS_spec hs (ts := r) (fun t ht => h t (by simp only [inT]; split <;> first | rfl | exact ht))
  refine ⟨hs.size, hs.defers, fun t => ?_⟩
  simp only [stripS, get]
  cases hb : Nat.beq t u with
  | true =>
   have := Nat.eq_of_beq_eq_true hb; subst this
   exact strip_spec (hs.slot t) (h t hu)
  | false => exact ih.slot t

def undT (s : Slots) : List Nat → Bool
 | [] => false
 | t :: r => match (strip (get s t)).1 with
  | .und => true
  | _ => undT s r

def nilCmp (T : List (Nat × TE)) (op : Op) (ρ : Operand → LV) : Option (List (List LV) × Bool) :=
 match op with
 | .binOp o t x y _ => match (match o with
   | .eql => some true
   | .neq => some false
   | _ => none) with
  | some b => match ρ x, ρ y with
   | .ro _ xs, .nils => match tyq T t with
    | some e => match e.u with
     | .slice _ => some (xs, b)
     | _ => none
    | none => none
   | _, _ => none
  | none => none
 | _ => none

theorem nilCmp_run (hT : TOk P T) {op : Op} {ρ : Operand → LV} {xs : List (List LV)} {b : Bool} (h : nilCmp T op ρ = some (xs, b)) {E : Env} {w : World} {a : Act} (hρ : ∀ x, G E w (ρ x) (a.eval x)) {o : Oper} (ho : o.op = op) :
  ∃ r : Bool, (execOp a.eval o).run P w = .ok (.value (.bool r)) w ∧ (r = (!b) ∨ (r = b ∧ xs = [])) := by
 obtain ⟨dst, op', ty, pos, after, guard⟩ := o
 simp only at ho
 subst ho
 unfold nilCmp at h
 split at h
 ·rename_i o t x y p
  split at h
  ·rename_i b' hb
   split at h
   ·rename_i sz ys hx hy
    split at h
    ·rename_i e he
     obtain ⟨d, hd, hu⟩ := (hT t e he).desc
     split at h
     ·rename_i el hel
      simp only [Option.some.injEq, Prod.mk.injEq] at h
      obtain ⟨rfl, rfl⟩ := h
      rw [hel] at hu
      have := TI.of_slice hu; subst this
      have h1 := hρ x
      have h2 := hρ y
      rw [hx] at h1
      rw [hy] at h2
      generalize hxe : a.eval x = u at h1
      generalize hye : a.eval y = v at h2
      cases h2
      have run : ∀ (s : Option Addr) (l c : Nat), u = .slice s l c → (execOp a.eval ⟨dst, .binOp o t x y p, ty, pos, after, guard⟩).run P w = .ok (.value (.bool (if b' then s.isNone else !s.isNone))) w := by
       intro s l c hs
       subst hs
       have grd : (eqGuard o t x y (.slice s l c) (.slice none 0 0)).run P w = .ok () w := by cases o <;> simp [eqGuard]
       split at hb
       ·cases hb
        simp [execOp, hxe, hye, grd, binOp, run_equal_slice_nil w t el s l c hd]
       ·cases hb
        simp [execOp, hxe, hye, grd, binOp, run_equal_slice_nil w t el s l c hd]
       ·cases hb
      cases h1 with
      | roNil _ => exact ⟨_, run none 0 0 rfl, .inr ⟨by cases b' <;> rfl, rfl⟩⟩
      | roZ _ ad => exact ⟨_, run (some ad) 0 0 rfl, .inl (by cases b' <;> rfl)⟩
      | ro _ _ bb off cap f _ _ _ _ _ _ _ _ => exact ⟨_, run (some ⟨bb, off, none⟩) _ _ rfl, .inl (by cases b' <;> rfl)⟩
     ·cases h
    ·cases h
   ·cases h
  ·cases h
 ·cases h

def markOf (c : Call) : Nat := match c.callee with
 | .value (.func f) => f + 1000000
 | _ => 999999

def fnNs : List LV → List Nat
 | [] => []
 | .func fn a b :: r => slNs a ++ slNs b ++ fnNs r
 | _ :: r => fnNs r

def calNs (c : Call) (ρ : Operand → LV) : List Nat := match c.callee with
 | .value x => slN (ρ x)
 | .invoke x _ => match ρ x with
  | .iface _ (.ptr b _ _) => [b]
  | _ => []
 | _ => []

def cvtOf (mt : List Nat) (s : Slots) : Op → List Nat
 | .store _ _ (.tmp t) => match inT (t + 4000000) mt with
  | true => slN (get s t)
  | false => []
 | .convert _ _ (.tmp t) => match get s t with
  | .sl y _ _ => [y]
  | _ => []
 | .buildSlice _ _ ps => slNs (ps.toList.map fun p => ev s p.2)
 | _ => []

def noPtr : Slots → Slots
 | [] => []
 | (t, v) :: r => match v with
  | .ptr _ _ _ => (t, .any) :: noPtr r
  | v => (t, v) :: noPtr r
theorem noPtr_get : ∀ (s : Slots) (t : Nat), get (noPtr s) t = .any ∨ get (noPtr s) t = get s t
 | [], t => .inr rfl
 | (u, v) :: r, t => by
  have ih := noPtr_get r t
  cases hb : Nat.beq t u with
  | true => cases v <;> simp [noPtr, get, hb]
  | false => cases v <;> simpa [noPtr, get, hb] using ih
def cvtS (mt : List Nat) (s : Slots) : Op → Slots
 | .convert _ _ (.tmp t) => match inT (t + 6000000) mt with
  | true => noPtr s
  | false => s
 | _ => s
theorem SR.cvtS {E : Env} {w : World} {n : Nat} {s : Slots} {a : Act} (h : SR E w n s a) (mt : List Nat) (op : Op) : SR E w n (cvtS mt s op) a := by
 have h1 : ∀ t, get (Go.RX.cvtS mt s op) t = .any ∨ get (Go.RX.cvtS mt s op) t = get s t := fun t => by
  unfold Go.RX.cvtS
  split
  ·split
   ·exact noPtr_get s t
   ·exact .inr rfl
  ·exact .inr rfl
 exact ⟨h.size, h.defers, fun t => by
  rcases h1 t with h2 | h2
  ·rw [h2]; exact .any _
  ·rw [h2]; exact h.slot t⟩

def isHpM (mt : List Nat) (dst : Option Nat) (op : Op) : Bool := match isHp op with
 | true => true
 | false => match dst with
  | some d => inT (d + 8000000) mt
  | none => false
def opM (T : List (Nat × TE)) (mt : List Nat) (dst : Option Tmp) (op : Op) (ρ : Operand → LV) (H : Heap) (K : LV → Heap → Prop) : Prop :=
 match dst with
 | some d => match inT (d + 5000000) mt with
  | true => opX T op ρ H K
  | false => opH T op ρ H K
 | none => match op with
  | .call c => match inT 5999999 mt with
   | true => opX T (.call c) ρ H K
   | false => opH T (.call c) ρ H K
  | o => opH T o ρ H K
theorem opM_sound (hT : TOk P T) {H : Heap} {K : LV → Heap → Prop} {mt : List Nat} {dst : Option Tmp} {ρ : Operand → LV} {o : Oper} (h : opM T mt dst o.op ρ H K) : ∃ lv H', K lv H' ∧ Does P H ρ o lv H' := by
 unfold opM at h
 split at h
 ·split at h
  ·exact opX_sound hT h
  ·exact opH_sound hT h
 ·split at h
  ·rename_i c hc
   rw [← hc] at h
   split at h
   ·exact opX_sound hT h
   ·exact opH_sound hT h
  ·exact opH_sound hT h
def wpr (P : Program) (T : List (Nat × TE)) (n : Nat) (mt : List Nat) (all : List Oper) : List Oper → Slots → Heap → (Slots → Heap → Prop) → Prop
 | [], s, H, K => K s H
 | ⟨dst, op, ty, pos, after, guard⟩ :: r, s, H, K => match guard with
  | none => match isCall op with
   | some c => match inT (markOf c) mt with
    | true => frz (match inT (markOf c + 1000000) mt with | true => fnNs (c.args.toList.map (ev s)) | false => []) s H fun s H => callK P c (ev s) H fun v H' => putK n s dst v fun s' => wpr P T n mt all r s' H' K
    | false => frzB mt (slNs (c.args.toList.map (ev s)) ++ calNs c (ev s)) s H fun s H => callK P c (ev s) H fun v H' => putK n s dst v fun s' => wpr P T n mt all r s' H' K
   | none => match nilCmp T op (ev s) with
    | some (xs, b) => (xs = [] → putK n s dst (.bool b) fun s' => wpr P T n mt all r s' H K) ∧ putK n s dst (.bool (!b)) fun s' => wpr P T n mt all r s' H K
    | none => frz (cvtOf mt s op) (cvtS mt s op) H fun s H => opM T mt dst op (ev s) H fun v H' => forceH (isHp op) H' fun H' => putK n s dst v fun s' => wpr P T n mt all r s' H' K
  | some (j, want) => match dstOf all j with
   | some d => match wantB want (get s d) with
    | some g => gcond s g (sureT op) (match undT s (sureT op) with
     | true => g = false ∧ putK n s dst .und fun s' => wpr P T n mt all r s' H K
     | false => match isHpM mt dst op with
     | true => (g = true → frz (cvtOf mt (stripS s (sureT op)) op) (stripS s (sureT op)) H fun s1 H1 => opH T op (ev s1) H1 fun v H' => putK n s1 dst v fun s' => wpr P T n mt all r s' H' K) ∧
      (g = false → putK n s dst .und fun s' => wpr P T n mt all r s' H K)
     | false => match isCall op with
      | some c => match slNs (c.args.toList.map (gev s (sureT op))) ++ calNs c (gev s (sureT op)) with
       | [] => gcallK P c (gev s (sureT op)) g fun v => putK n s dst (.ite g v .und) fun s' => wpr P T n mt all r s' H K
       | y :: ys => (g = true → frzB mt (match inT (markOf c) mt with | true => [] | false => y :: ys) (stripS s (sureT op)) H fun s1 H1 => callK P c (ev s1) H1 fun v H' => putK n s1 dst v fun s' => wpr P T n mt all r s' H' K) ∧
        (g = false → putK n s dst .und fun s' => wpr P T n mt all r s' H K)
      | none => opP T op (gev s (sureT op)) H (fun p => g = true → p) fun v => putK n s dst (.ite g v .und) fun s' => wpr P T n mt all r s' H K)
    | none => False
   | none => False

theorem putK_spec {n : Nat} {s : Slots} {dst : Option Tmp} {lv : LV} {k : Slots → Prop} (h : putK n s dst lv k) {E : Env} {w : World} {a : Act} (hs : SR E w n s a) {v : Value} (hv : G E w lv v) :
  ∃ s', k s' ∧ SR E w n s' (a.put dst v) := by
 unfold putK at h
 split at h
 ·exact ⟨s, h, hs⟩
 ·split at h
  ·rename_i d hb
   rw [force_eq] at h
   exact ⟨_, h, hs.put hv (Nat.le_of_ble_eq_true hb)⟩
  ·exact h.elim

theorem wpr_sound (hT : TOk P T) {n : Nat} {mt : List Nat} {ops : Array Oper} {Q : Exit → Act → World → Prop} {E0 : Env} {w0 : World} {K : Slots → Heap → Prop} :
  ∀ (l : List Oper) (s : Slots) (H : Heap) (E : Env) (w : World) (a : Act), wpr P T n mt ops.toList l s H K → SR E w n s a → RelH E H w → Ext E0 w0 E w →
   (∀ E s H a w, K s H → SR E w n s a → RelH E H w → Ext E0 w0 E w → Q .normal a w) → wpList P ops Q l a w
 | [], s, H, E, w, a, h, hs, hr, hx, hQ => hQ E s H a w h hs hr hx
 | ⟨dst, op, ty, pos, after, guard⟩ :: r, s, H, E, w, a, h, hs, hr, hx, hQ => by
  unfold wpList
  simp only [wpr] at h
  split at h
  ·-- no guard
   simp only [Region.wanted, if_true]
   refine .inl ?_
   split at h
   ·rename_i c hc
    have hop : op = .call c := by
     unfold isCall at hc
     split at hc
     ·split at hc
      ·cases hc
      ·exact congrArg Op.call (Option.some.inj hc)
     ·cases hc
    split at h
    ·obtain ⟨s1, H1, h1, h2⟩ := frz_spec h
     obtain ⟨E1, hr1, hs1, hx1⟩ := h2 E w n a hr hs
     refine callK_sound h1 hop hr1 (fun x => hs1.ev x) (fun lv H' v E' w' hk hr' hg hx' => ?_)
     obtain ⟨s2, hk2, hs2⟩ := putK_spec hk (hs1.ext hr1 hx') hg
     exact wpr_sound hT r s2 H' E' w' _ hk2 hs2 hr' ((hx.trans hx1).trans hx') hQ
    ·obtain ⟨s1, H1, h1, h2⟩ := frzB_spec h
     obtain ⟨E1, hr1, hs1, hx1⟩ := h2 E w n a hr hs
     refine callK_sound h1 hop hr1 (fun x => hs1.ev x) (fun lv H' v E' w' hk hr' hg hx' => ?_)
     obtain ⟨s2, hk2, hs2⟩ := putK_spec hk (hs1.ext hr1 hx') hg
     exact wpr_sound hT r s2 H' E' w' _ hk2 hs2 hr' ((hx.trans hx1).trans hx') hQ
   ·split at h
    ·rename_i xs b hnc
     obtain ⟨rb, hrun, hcase⟩ := nilCmp_run hT hnc (fun x => hs.ev x) (o := ⟨dst, op, ty, pos, after, none⟩) rfl
     unfold Oper.wp
     rw [hrun]
     rcases hcase with rfl | ⟨rfl, hnil⟩
     ·obtain ⟨s2, hk2, hs2⟩ := putK_spec h.2 hs (.bool _)
      exact wpr_sound hT r s2 H E w _ hk2 hs2 hr hx hQ
     ·obtain ⟨s2, hk2, hs2⟩ := putK_spec (h.1 hnil) hs (.bool _)
      exact wpr_sound hT r s2 H E w _ hk2 hs2 hr hx hQ
    obtain ⟨s1, H1, h1, h2⟩ := frz_spec h
    obtain ⟨E1, hr1, hs1, hx1⟩ := h2 E w n a hr (hs.cvtS mt op)
    obtain ⟨lv, H', hk, hd⟩ := opM_sound (o := ⟨dst, op, ty, pos, after, none⟩) hT h1
    simp only [forceH_eq] at hk
    obtain ⟨v, w', E', hrun, hr', hg, hx'⟩ := hd E1 w a hr1 (fun x => hs1.ev x)
    obtain ⟨s2, hk2, hs2⟩ := putK_spec hk (hs1.ext hr1 hx') hg
    unfold Oper.wp
    rcases hrun with hrun | ⟨hrun, rfl⟩
    ·rw [hrun]; exact wpr_sound hT r s2 H' E' w' _ hk2 hs2 hr' ((hx.trans hx1).trans hx') hQ
    ·rw [hrun]; exact wpr_sound hT r s2 H' E' w' _ hk2 hs2 hr' ((hx.trans hx1).trans hx') hQ
  ·rename_i j want
   split at h
   ·rename_i d hd
    split at h
    ·rename_i g hw
     obtain ⟨h, hst⟩ := gcond_spec h
     have hwant : Region.wanted ⟨dst, op, ty, pos, after, some (j, want)⟩ (yielded ops a.tmps) = g := by
      have := wantB_spec hw (hs.slot d)
      rw [dstOf_eq] at hd
      simp only [Region.wanted, yielded]
      have hd' : (ops[j]?).bind (·.dst) = some d := by simpa using hd
      rw [hd', Option.bind_some]
      rw [← this]
      simp only [Array.getD_eq_getD_getElem?]
      cases ht : a.tmps[d]? with
      | none => simp [undef]
      | some u => cases u <;> rfl
     have hgev : g = true → ∀ x, G E w (gev s (sureT op) x) (a.eval x) := by
      intro hg x
      cases x with
      | tmp t =>
       simp only [gev]
       split
       ·rename_i hin
        exact strip_spec (hs.slot t) (hst t hin hg)
       ·exact hs.slot t
      | const v => exact hs.ev (.const v)
      | global g => exact hs.ev (.global g)
      | func f => exact hs.ev (.func f)
     rw [hwant]
     have opc : ∀ {c : Call}, isCall op = some c → op = .call c := by
      intro c hc
      unfold isCall at hc
      split at hc
      ·split at hc
       ·cases hc
       ·exact congrArg Op.call (Option.some.inj hc)
      ·cases hc
     split at h
     ·obtain ⟨hgf, hput⟩ := h
      subst hgf
      simp only [Bool.false_eq_true, if_false]
      obtain ⟨s2, hk2, hs2⟩ := putK_spec hput hs .und
      exact wpr_sound hT r s2 H E w _ hk2 hs2 hr hx hQ
     split at h
     ·cases g with
      | false =>
       simp only [Bool.false_eq_true, if_false]
       obtain ⟨s2, hk2, hs2⟩ := putK_spec (h.2 rfl) hs .und
       exact wpr_sound hT r s2 H E w _ hk2 hs2 hr hx hQ
      | true =>
       simp only [if_true]
       refine .inl ?_
       have hs0 := stripS_spec hs (fun t ht => hst t ht rfl)
       obtain ⟨s1, H1, h1, h2⟩ := frz_spec (h.1 rfl)
       obtain ⟨E1, hr1, hs1, hx1⟩ := h2 E w n a hr hs0
       obtain ⟨lv, H', hk, hdo⟩ := opH_sound (o := ⟨dst, op, ty, pos, after, some (j, want)⟩) hT h1
       obtain ⟨v, w', E', hrun, hr', hg, hx'⟩ := hdo E1 w a hr1 (fun x => hs1.ev x)
       obtain ⟨s2, hk2, hs2⟩ := putK_spec hk (hs1.ext hr1 hx') hg
       unfold Oper.wp
       rcases hrun with hrun | ⟨hrun, rfl⟩
       ·rw [hrun]; exact wpr_sound hT r s2 H' E' w' _ hk2 hs2 hr' ((hx.trans hx1).trans hx') hQ
       ·rw [hrun]; exact wpr_sound hT r s2 H' E' w' _ hk2 hs2 hr' ((hx.trans hx1).trans hx') hQ
     ·split at h
      ·rename_i c hc
       split at h
       ·cases g with
        | false =>
         simp only [Bool.false_eq_true, if_false]
         obtain ⟨lv, hk, _⟩ := gcallK_spec h
         obtain ⟨s2, hk2, hs2⟩ := putK_spec hk hs (.iteF _ _ _ .und)
         exact wpr_sound hT r s2 H E w _ hk2 hs2 hr hx hQ
        | true =>
         simp only [if_true]
         refine .inl ?_
         obtain ⟨lv, hk, hcall⟩ := gcallK_spec h
         refine callK_sound (hcall rfl H) (opc hc) hr (hgev rfl) (fun lv' H' v E' w' hk' hr' hg hx' => ?_)
         obtain ⟨rfl, rfl⟩ := hk'
         obtain ⟨s2, hk2, hs2⟩ := putK_spec hk (hs.ext hr hx') (.iteT _ _ _ hg)
         exact wpr_sound hT r s2 _ E' w' _ hk2 hs2 hr' (hx.trans hx') hQ
       ·cases g with
        | false =>
         simp only [Bool.false_eq_true, if_false]
         obtain ⟨s2, hk2, hs2⟩ := putK_spec (h.2 rfl) hs .und
         exact wpr_sound hT r s2 H E w _ hk2 hs2 hr hx hQ
        | true =>
         simp only [if_true]
         refine .inl ?_
         have hs0 := stripS_spec hs (fun t ht => hst t ht rfl)
         obtain ⟨s1, H1, h1, h2⟩ := frzB_spec (h.1 rfl)
         obtain ⟨E1, hr1, hs1, hx1⟩ := h2 E w n a hr hs0
         refine callK_sound h1 (opc hc) hr1 (fun x => hs1.ev x) (fun lv H' v E' w' hk hr' hg hx' => ?_)
         obtain ⟨s2, hk2, hs2⟩ := putK_spec hk (hs1.ext hr1 hx') hg
         exact wpr_sound hT r s2 H' E' w' _ hk2 hs2 hr' ((hx.trans hx1).trans hx') hQ
      ·cases g with
       | false =>
        simp only [Bool.false_eq_true, if_false]
        obtain ⟨lv, hk, _⟩ := opP_sound (o := ⟨dst, op, ty, pos, after, some (j, want)⟩) (gd := False) hT (fun p _ hf => hf.elim) h
        obtain ⟨s2, hk2, hs2⟩ := putK_spec hk hs (.iteF _ _ _ .und)
        exact wpr_sound hT r s2 H E w _ hk2 hs2 hr hx hQ
       | true =>
        simp only [if_true]
        refine .inl ?_
        obtain ⟨lv, hk, hrd⟩ := opP_sound (o := ⟨dst, op, ty, pos, after, some (j, want)⟩) (gd := True) hT (fun p hp _ => hp rfl) h
        obtain ⟨v, hrun, hg⟩ := hrd trivial E w a hr (hgev rfl)
        obtain ⟨s2, hk2, hs2⟩ := putK_spec hk hs (.iteT _ _ _ hg)
        unfold Oper.wp
        rw [hrun]
        exact wpr_sound hT r s2 H E w _ hk2 hs2 hr hx hQ
    ·exact h.elim
   ·exact h.elim
end
end Go.RX
