/- RX, part s: a region whose order is drawn, where nothing is written. -/
import Derived.Test.YtljecfgfbebjiaaRXq
import Derived.Orders
set_option linter.unusedVariables false
namespace Go.RX

def dstsOf : List Oper → List Nat
 | [] => []
 | o :: r => match o.dst with
  | some d => d :: dstsOf r
  | none => dstsOf r

def looksT (all : List Oper) (o : Oper) : List Nat := match o.guard with
 | some (j, _) => match dstOf all j with
  | some d => d :: opT o.op.operands.toList
  | none => opT o.op.operands.toList
 | none => opT o.op.operands.toList

def edgeTo (all : List Oper) (t : Nat) : List Edge → Bool
 | [] => false
 | e :: r => match Region.binds .any e, dstOf all e.on with
  | true, some d => match Nat.beq d t with
   | true => true
   | false => edgeTo all t r
  | _, _ => edgeTo all t r

def looksOk (all : List Oper) (ds : List Nat) (es : List Edge) : List Nat → Bool
 | [] => true
 | t :: r => match inT t ds with
  | true => match edgeTo all t es with
   | true => looksOk all ds es r
   | false => false
  | false => looksOk all ds es r

def edgesLt (i : Nat) : List Edge → Bool
 | [] => true
 | e :: r => match Region.binds .any e with
  | true => match Nat.ble (e.on + 1) i with
   | true => edgesLt i r
   | false => false
  | false => edgesLt i r

def ssaGo (all : List Oper) (ds : List Nat) : Nat → List Oper → Bool
 | _, [] => true
 | i, o :: r => match o.dst with
  | some d => match inT d (dstsOf r), edgesLt i o.after.toList, looksOk all ds o.after.toList (looksT all o) with
   | false, true, true => ssaGo all ds (i + 1) r
   | _, _, _ => false
  | none => false

def ssa (all : List Oper) : Bool := ssaGo all (dstsOf all) 0 all

theorem inT_iff : ∀ {l : List Nat} {t : Nat}, inT t l = true ↔ t ∈ l
 | [], t => by simp [inT]
 | u :: r, t => by
  simp only [inT]
  cases hb : Nat.beq t u with
  | true => simp [Nat.eq_of_beq_eq_true hb]
  | false =>
   have : t ≠ u := fun h => by rw [h, Nat.beq_refl] at hb; cases hb
   simp [inT_iff (l := r), this]

theorem dstsOf_mem : ∀ {l : List Oper} {t : Nat}, t ∈ dstsOf l ↔ ∃ o ∈ l, o.dst = some t
 | [], t => by simp [dstsOf]
 | o :: r, t => by
  simp only [dstsOf]
  split
  ·rename_i d hd
   simp only [List.mem_cons, dstsOf_mem (l := r)]
   constructor
   ·rintro (rfl | ⟨o', h1, h2⟩)
    ·exact ⟨o, .inl rfl, hd⟩
    ·exact ⟨o', .inr h1, h2⟩
   ·rintro ⟨o', rfl | h1, h2⟩
    ·rw [hd] at h2; exact .inl (Option.some.inj h2).symm
    ·exact .inr ⟨o', h1, h2⟩
  ·rename_i hd
   simp only [List.mem_cons, dstsOf_mem (l := r)]
   constructor
   ·rintro ⟨o', h1, h2⟩; exact ⟨o', .inr h1, h2⟩
   ·rintro ⟨o', rfl | h1, h2⟩
    ·rw [hd] at h2; cases h2
    ·exact ⟨o', h1, h2⟩

theorem edgeTo_spec {all : List Oper} {t : Nat} : ∀ {es : List Edge}, edgeTo all t es = true → ∃ e ∈ es, Region.binds .any e = true ∧ dstOf all e.on = some t
 | [], h => by cases h
 | e :: r, h => by
  simp only [edgeTo] at h
  split at h
  ·rename_i d hb hd
   split at h
   ·rename_i hq; have := Nat.eq_of_beq_eq_true hq; subst this; exact ⟨e, List.mem_cons_self, hb, hd⟩
   ·obtain ⟨e', h1, h2⟩ := edgeTo_spec h; exact ⟨e', List.mem_cons_of_mem _ h1, h2⟩
  ·obtain ⟨e', h1, h2⟩ := edgeTo_spec h; exact ⟨e', List.mem_cons_of_mem _ h1, h2⟩

theorem looksOk_spec {all : List Oper} {ds : List Nat} {es : List Edge} : ∀ {l : List Nat}, looksOk all ds es l = true → ∀ t ∈ l, t ∈ ds → ∃ e ∈ es, Region.binds .any e = true ∧ dstOf all e.on = some t
 | [], h, t, ht, _ => by cases ht
 | u :: r, h, t, ht, hd => by
  simp only [looksOk] at h
  rcases List.mem_cons.1 ht with rfl | ht'
  ·rw [inT_iff.2 hd] at h
   simp only at h
   split at h
   ·rename_i he; exact edgeTo_spec he
   ·cases h
  ·split at h
   ·split at h
    ·exact looksOk_spec h t ht' hd
    ·cases h
   ·exact looksOk_spec h t ht' hd

theorem edgesLt_spec {i : Nat} : ∀ {es : List Edge}, edgesLt i es = true → ∀ e ∈ es, Region.binds .any e = true → e.on < i
 | [], h, e, he, _ => by cases he
 | x :: r, h, e, he, hb => by
  simp only [edgesLt] at h
  rcases List.mem_cons.1 he with rfl | he'
  ·rw [hb] at h
   simp only at h
   split at h
   ·rename_i hb; exact Nat.le_of_ble_eq_true hb
   ·cases h
  ·split at h
   ·split at h
    ·exact edgesLt_spec h e he' hb
    ·cases h
   ·exact edgesLt_spec h e he' hb

theorem ssaGo_spec {all : List Oper} {ds : List Nat} : ∀ {l : List Oper} {i : Nat}, ssaGo all ds i l = true → ∀ (j : Nat) (o : Oper), l[j]? = some o →
  (∃ d, o.dst = some d ∧ d ∉ dstsOf (l.drop (j + 1))) ∧ (∀ e ∈ o.after.toList, Region.binds .any e = true → e.on < i + j) ∧ ∀ t ∈ looksT all o, t ∈ ds → ∃ e ∈ o.after.toList, Region.binds .any e = true ∧ dstOf all e.on = some t
 | [], i, h, j, o, ho => by simp at ho
 | x :: r, i, h, j, o, ho => by
  simp only [ssaGo] at h
  split at h
  ·rename_i d hd
   split at h
   ·rename_i h1 h2 h3
    cases j with
    | zero =>
     simp at ho; subst ho
     refine ⟨⟨d, hd, fun hm => ?_⟩, fun e he hb => by simpa using edgesLt_spec h2 e he hb, looksOk_spec h3⟩
     rw [List.drop_succ_cons, List.drop_zero] at hm
     rw [inT_iff.2 hm] at h1; cases h1
    | succ j =>
     have := ssaGo_spec h j o (by simpa using ho)
     refine ⟨by simpa using this.1, fun e he hb => ?_, this.2.2⟩
     have := this.2.1 e he hb
     omega
   ·cases h
  ·cases h

def dev (s : Slots) (sure all : List Nat) : Operand → LV
 | .tmp t => match inT t sure with
  | true => (strip (get s t)).1
  | false => match inT t all with
   | true => get s t
   | false => .any
 | x => ev s x

def wprD (P : Program) (T : List (Nat × TE)) (n : Nat) (all : List Oper) (H : Heap) : List Oper → Slots → (Slots → Prop) → Prop
 | [], s, K => K s
 | ⟨dst, op, ty, pos, after, guard⟩ :: r, s, K => match guard with
  | none => match isCall op with
   | some c => gcallK P c (dev s [] (opT op.operands.toList)) true fun v => putK n s dst v fun s' => wprD P T n all H r s' K
   | none => opP T op (dev s [] (opT op.operands.toList)) H id fun v => putK n s dst v fun s' => wprD P T n all H r s' K
  | some (j, want) => match dstOf all j with
   | some d => match wantB want (get s d) with
    | some g => gcond s g (sureT op) (match isCall op with
     | some c => gcallK P c (dev s (sureT op) (opT op.operands.toList)) g fun v => putK n s dst (.ite g v .und) fun s' => wprD P T n all H r s' K
     | none => opP T op (dev s (sureT op) (opT op.operands.toList)) H (fun p => g = true → p) fun v => putK n s dst (.ite g v .und) fun s' => wprD P T n all H r s' K)
    | none => False
   | none => False

section
variable {P : Program} {T : List (Nat × TE)} {n : Nat} {ops : Array Oper} {H : Heap}

def Fact (P : Program) (ops : Array Oper) (H : Heap) (s : Slots) (o : Oper) (lv : LV) : Prop :=
 ∀ (E : Env) (w : World) (a : Act) (next : Act → World → Prop) (Q : Exit → Act → World → Prop), RelH E H w → (∀ t ∈ looksT ops.toList o, G E w (get s t) (a.tmps.getD t undef)) →
  (∀ v E' w', RelH E' H w' → G E' w' lv v → Ext E w E' w' → next (a.put o.dst v) w') →
  if Region.wanted o (yielded ops a.tmps) then o.wp P a w next Q ∨ (o.asks P a w ∧ LetsOut Q) else next (a.put o.dst undef) w

def Chain (P : Program) (n : Nat) (ops : Array Oper) (H : Heap) : List Oper → Slots → Slots → Prop
 | [], s, sf => s = sf
 | o :: r, s, sf => ∃ d lv, o.dst = some d ∧ d < n ∧ Fact P ops H s o lv ∧ Chain P n ops H r ((d, lv) :: s) sf

theorem dev_spec {E : Env} {w : World} {s : Slots} {sure all : List Nat} {a : Act} (h : ∀ t ∈ all, G E w (get s t) (a.tmps.getD t undef)) (hsub : ∀ t, inT t sure = true → t ∈ all) (hst : ∀ t, inT t sure = true → (strip (get s t)).2) (x : Operand) :
  G E w (dev s sure all x) (a.eval x) := by
 cases x with
 | tmp t =>
  simp only [dev]
  split
  ·rename_i hin; exact strip_spec (h t (hsub t hin)) (hst t hin)
  ·split
   ·rename_i hin; exact h t (inT_iff.1 hin)
   ·exact .any _
 | const v => exact G.lvOf E w v
 | global g => exact .any _
 | func f => exact .func _ _ _ #[] #[] rfl rfl (fun i x h => by simp at h) (fun i x h => by simp at h)

theorem sureT_sub {op : Op} {t : Nat} (h : inT t (sureT op) = true) : t ∈ opT op.operands.toList := by
 rw [inT_iff] at h
 unfold sureT at h
 split at h
 ·rename_i c x y
  have : ∀ {l l' : List Operand}, t ∈ opT l → t ∈ opT (l ++ l') := by
   intro l
   induction l with
   | nil => intro l' h; simp [opT] at h
   | cons z r ih =>
    intro l' h
    cases z <;> simp only [List.cons_append, opT] at h ⊢ <;> first | exact ih h | (rcases List.mem_cons.1 h with rfl | h <;> first | exact List.mem_cons_self | exact List.mem_cons_of_mem _ (ih h))
  exact this (l' := [x, y]) h
 ·exact h

theorem opOf {op : Op} {c : Call} (hc : isCall op = some c) : op = .call c := by
 unfold isCall at hc
 split at hc
 ·split at hc
  ·cases hc
  ·exact congrArg Op.call (Option.some.inj hc)
 ·cases hc

theorem wprD_spec (hT : TOk P T) : ∀ (l : List Oper) (s : Slots) (K : Slots → Prop), (∀ o ∈ l, ∃ d, o.dst = some d) → wprD P T n ops.toList H l s K → ∃ sf, K sf ∧ Chain P n ops H l s sf
 | [], s, K, _, h => ⟨s, h, rfl⟩
 | ⟨dst, op, ty, pos, after, guard⟩ :: r, s, K, hd, h => by
  obtain ⟨d, hdd⟩ := hd _ List.mem_cons_self
  simp only at hdd; subst hdd
  have put : ∀ (lv : LV), putK n s (some d) lv (fun s' => wprD P T n ops.toList H r s' K) → Fact P ops H s ⟨some d, op, ty, pos, after, guard⟩ lv →
    ∃ sf, K sf ∧ Chain P n ops H (⟨some d, op, ty, pos, after, guard⟩ :: r) s sf := by
   intro lv hp hf
   simp only [putK] at hp
   split at hp
   ·rename_i hb
    rw [force_eq] at hp
    obtain ⟨sf, h1, h2⟩ := wprD_spec hT r _ K (fun o ho => hd o (List.mem_cons_of_mem _ ho)) hp
    exact ⟨sf, h1, d, lv, rfl, Nat.le_of_ble_eq_true hb, hf, h2⟩
   ·exact hp.elim
  simp only [wprD] at h
  split at h
  ·split at h
   ·rename_i c hc
    obtain ⟨lv, hk, hcall⟩ := gcallK_spec h
    refine put lv hk fun E w a next Q hr hl hn => ?_
    simp only [Region.wanted, if_true]
    refine .inl (callK_sound (hcall rfl H) (opOf hc) hr (dev_spec hl (fun t ht => by simp [inT] at ht) (fun t ht => by simp [inT] at ht)) (fun lv' H' v E' w' hk' hr' hg hx' => ?_))
    obtain ⟨rfl, rfl⟩ := hk'
    exact hn v E' w' hr' hg hx'
   ·obtain ⟨lv, hk, hrd⟩ := opP_sound (o := ⟨some d, op, ty, pos, after, none⟩) (gd := True) hT (fun p hp _ => hp) h
    refine put lv hk fun E w a next Q hr hl hn => ?_
    simp only [Region.wanted, if_true]
    obtain ⟨v, hrun, hg⟩ := hrd trivial E w a hr (dev_spec hl (fun t ht => by simp [inT] at ht) (fun t ht => by simp [inT] at ht))
    refine .inl ?_
    unfold Oper.wp
    rw [hrun]
    exact hn v E w hr hg (Ext.refl E w)
  ·rename_i j want
   split at h
   ·rename_i dd hdd
    split at h
    ·rename_i g hw
     obtain ⟨h, hst⟩ := gcond_spec h
     have looks : looksT ops.toList ⟨some d, op, ty, pos, after, some (j, want)⟩ = dd :: opT op.operands.toList := by simp only [looksT, hdd]
     have hwant : ∀ (E : Env) (w : World) (a : Act), G E w (get s dd) (a.tmps.getD dd undef) → Region.wanted ⟨some d, op, ty, pos, after, some (j, want)⟩ (yielded ops a.tmps) = g := by
      intro E w a hg
      have := wantB_spec hw hg
      rw [dstOf_eq] at hdd
      simp only [Region.wanted, yielded]
      have hd' : (ops[j]?).bind (·.dst) = some dd := by simpa using hdd
      rw [hd', Option.bind_some]
      rw [← this]
      simp only [Array.getD_eq_getD_getElem?]
      cases ht : a.tmps[dd]? with
      | none => simp [undef]
      | some u => cases u <;> rfl
     cases g with
     | false =>
      split at h
      ·obtain ⟨lv, hk, _⟩ := gcallK_spec h
       refine put _ hk fun E w a next Q hr hl hn => ?_
       rw [hwant E w a (hl dd (by rw [looks]; exact List.mem_cons_self))]
       simp only [Bool.false_eq_true, if_false]
       exact hn undef E w hr (.iteF _ _ _ .und) (Ext.refl E w)
      ·obtain ⟨lv, hk, _⟩ := opP_sound (o := ⟨some d, op, ty, pos, after, some (j, want)⟩) (gd := False) hT (fun p _ hf => hf.elim) h
       refine put _ hk fun E w a next Q hr hl hn => ?_
       rw [hwant E w a (hl dd (by rw [looks]; exact List.mem_cons_self))]
       simp only [Bool.false_eq_true, if_false]
       exact hn undef E w hr (.iteF _ _ _ .und) (Ext.refl E w)
     | true =>
      split at h
      ·rename_i c hc
       obtain ⟨lv, hk, hcall⟩ := gcallK_spec h
       refine put _ hk fun E w a next Q hr hl hn => ?_
       rw [hwant E w a (hl dd (by rw [looks]; exact List.mem_cons_self))]
       simp only [if_true]
       refine .inl (callK_sound (hcall rfl H) (opOf hc) hr (dev_spec (fun t ht => hl t (by rw [looks]; exact List.mem_cons_of_mem _ ht)) (fun t ht => sureT_sub ht) (fun t ht => hst t ht rfl)) (fun lv' H' v E' w' hk' hr' hg hx' => ?_))
       obtain ⟨rfl, rfl⟩ := hk'
       exact hn v E' w' hr' (.iteT _ _ _ hg) hx'
      ·obtain ⟨lv, hk, hrd⟩ := opP_sound (o := ⟨some d, op, ty, pos, after, some (j, want)⟩) (gd := True) hT (fun p hp _ => hp rfl) h
       refine put _ hk fun E w a next Q hr hl hn => ?_
       rw [hwant E w a (hl dd (by rw [looks]; exact List.mem_cons_self))]
       simp only [if_true]
       obtain ⟨v, hrun, hg⟩ := hrd trivial E w a hr (dev_spec (fun t ht => hl t (by rw [looks]; exact List.mem_cons_of_mem _ ht)) (fun t ht => sureT_sub ht) (fun t ht => hst t ht rfl))
       refine .inl ?_
       unfold Oper.wp
       rw [hrun]
       exact hn v E w hr (.iteT _ _ _ hg) (Ext.refl E w)
    ·exact h.elim
   ·exact h.elim

theorem get_cons_ne {d t : Nat} {lv : LV} {s : Slots} (h : t ≠ d) : get ((d, lv) :: s) t = get s t := by
 simp only [get]
 cases hb : Nat.beq t d with
 | true => exact absurd (Nat.eq_of_beq_eq_true hb) h
 | false => rfl
theorem get_cons_eq {d : Nat} {lv : LV} {s : Slots} : get ((d, lv) :: s) d = lv := by
 simp only [get, Nat.beq_refl]

theorem chain_get : ∀ {l : List Oper} {s sf : Slots} {t : Nat}, Chain P n ops H l s sf → t ∉ dstsOf l → get sf t = get s t
 | [], s, sf, t, h, _ => by rw [h]
 | o :: r, s, sf, t, ⟨d, lv, hd, hn, hf, hc⟩, ht => by
  simp only [dstsOf, hd, List.mem_cons, not_or] at ht
  rw [chain_get hc ht.2, get_cons_ne ht.1]

theorem chain_at : ∀ {l : List Oper} {s sf : Slots} {i : Nat} {o : Oper}, Chain P n ops H l s sf → (∀ (j : Nat) (o : Oper) (d : Nat), l[j]? = some o → o.dst = some d → d ∉ dstsOf (l.drop (j + 1))) → l[i]? = some o →
  ∃ si d, o.dst = some d ∧ d < n ∧ Fact P ops H si o (get sf d) ∧ ∀ t, t ∉ dstsOf (l.drop i) → get si t = get sf t
 | [], s, sf, i, o, h, _, ho => by simp at ho
 | x :: r, s, sf, i, o, ⟨d, lv, hd, hn, hf, hc⟩, hnd, ho => by
  cases i with
  | zero =>
   simp at ho; subst ho
   have : d ∉ dstsOf r := by simpa using hnd 0 x d rfl hd
   refine ⟨s, d, hd, hn, ?_, fun t ht => ?_⟩
   ·rw [chain_get hc this, get_cons_eq]; exact hf
   ·simp only [List.drop_zero, dstsOf, hd, List.mem_cons, not_or] at ht
    rw [chain_get hc ht.2, get_cons_ne ht.1]
  | succ i =>
   obtain ⟨si, d', h1, h2, h3, h4⟩ := chain_at hc (fun j o d hj hd => by simpa using hnd (j + 1) o d (by simpa using hj) hd) (by simpa using ho)
   exact ⟨si, d', h1, h2, h3, fun t ht => h4 t (by simpa using ht)⟩

theorem RelH.still {E : Env} {w w' : World} (hr : RelH E H w) (hh : w'.heap = w.heap) (hx : Ext E w E w') : RelH E H w' := by
 have gm : ∀ {l v}, G E w l v → G E w' l v := fun h => h.ext hr hx
 refine ⟨hr.nx, fun x e sz es hl => ?_, fun x es hl => ?_, hr.none, hr.lt, hr.inj, fun x k s h => ?_, fun b hb => ?_⟩
 ·rcases hr.row x e sz es hl with h1 | ⟨k, arr, h1, h2, h3, h4, h5⟩
  ·exact .inl h1
  ·exact .inr ⟨k, arr, h1, by rw [hh]; exact h2, h3, h4, fun i cs hi => ⟨(h5 i cs hi).1, fun j y hj => gm ((h5 i cs hi).2 j y hj)⟩⟩
 ·obtain ⟨k, en, cl, h1, h2, h3, h4, h5, h6⟩ := hr.mp x es hl
  refine ⟨k, en, cl, h1, by rw [hh]; exact h2, h3, h4, h5, fun i p hp => ?_⟩
  obtain ⟨en', h7, h8, h9⟩ := h6 i p hp
  exact ⟨en', h7, gm h8, gm h9⟩
 ·rw [hh]; exact hr.nok x k s h
 ·rw [hh]; exact hr.okl b hb

theorem W.drawn (hT : TOk P T) (hm : P.follows .mixedOrders = true) {n0 id : Nat} {Q : Exit → Slots → Heap → Prop} {s : Slots} (hs : ssa ops.toList = true)
  (h : wprD P T n ops.toList H ops.toList s fun s' => Q .normal s' H) : W P n n0 (.region id ops true) Q s H := by
 intro E0 w0 hn0 E w a hsr hr hx
 have hssa := ssaGo_spec (i := 0) hs
 obtain ⟨sf, hQ, hch⟩ := wprD_spec hT ops.toList s _ (fun o ho => by
  obtain ⟨j, hj⟩ := List.getElem?_of_mem ho
  obtain ⟨⟨d, hd, _⟩, _⟩ := hssa j o hj
  exact ⟨d, hd⟩) h
 have hnd : ∀ (j : Nat) (o : Oper) (d : Nat), ops.toList[j]? = some o → o.dst = some d → d ∉ dstsOf (ops.toList.drop (j + 1)) := fun j o d hj hd => by
  obtain ⟨⟨d', hd', hn⟩, _⟩ := hssa j o hj
  rw [hd] at hd'; cases hd'; exact hn
 let Inv : Array Bool → Act → World → Prop := fun listed a w => listed.size = ops.size ∧ a.tmps.size = n ∧ a.defers = [] ∧ ∃ E, RelH E H w ∧ Ext E0 w0 E w ∧
  ∀ t, (t ∉ dstsOf ops.toList ∨ ∃ j o, ops.toList[j]? = some o ∧ o.dst = some t ∧ listed.getD j true = true) → G E w (get sf t) (a.tmps.getD t undef)
 have key : ∀ (fuel : Nat) (listed : Array Bool) (a : Act) (w : World), ((List.range ops.size).filter fun i => !listed.getD i true).length ≤ fuel → Inv listed a w →
   wpAny P .any ops (Phys E0 w0 n Q) fuel listed a w := by
  have fin : ∀ (listed : Array Bool) (a : Act) (w : World), Inv listed a w → Region.ready .any ops listed = [] → Phys E0 w0 n Q .normal a w := by
   intro listed a w ⟨hls, hsz, hdf, E, hr, hx, hg⟩ hrd
   have all : ∀ i, i < ops.size → listed.getD i true = true := by
    intro i
    induction i using Nat.strongRecOn with
    | _ i ih =>
     intro hi
     cases hl : listed.getD i true with
     | true => rfl
     | false =>
      exfalso
      have ho : ops.toList[i]? = some ops[i] := by simp [hi]
      obtain ⟨_, hlt, _⟩ := hssa i _ ho
      have : i ∈ Region.ready .any ops listed := by
       simp only [Region.ready, List.mem_filter, List.mem_range, hi, hl, true_and, Bool.not_false, Bool.true_and]
       simp only [Array.getElem?_eq_getElem hi, Option.map_some, Option.getD_some, Array.all_eq_true']
       intro e he
       simp only [Bool.or_eq_true]
       cases hbe : Region.binds .any e with
       | false => exact .inl rfl
       | true =>
       right
       have h1 := hlt e (by simpa using he) hbe
       have h2 := ih e.on (by omega) (by omega)
       have h3 : e.on < listed.size := by rw [hls]; omega
       simpa [Array.getD, h3] using h2
      rw [hrd] at this
      cases this
   refine ⟨E, sf, H, hQ, ⟨hsz, hdf, fun t => hg t ?_⟩, hr, hx⟩
   by_cases ht : t ∈ dstsOf ops.toList
   ·obtain ⟨o, ho, hd⟩ := dstsOf_mem.1 ht
    obtain ⟨j, hj⟩ := List.getElem?_of_mem ho
    refine .inr ⟨j, o, hj, hd, all j ?_⟩
    have := (List.getElem?_eq_some_iff.1 hj).1
    simpa using this
   ·exact .inl ht
  intro fuel
  induction fuel with
  | zero =>
   intro listed a w hc hI
   have hnil : Region.ready .any ops listed = [] := by
    rw [List.eq_nil_iff_forall_not_mem]
    intro i hi
    simp only [Region.ready, List.mem_filter, Bool.and_eq_true] at hi
    have : i ∈ (List.range ops.size).filter fun i => !listed.getD i true := List.mem_filter.2 ⟨hi.1, hi.2.1⟩
    have hz := List.eq_nil_of_length_eq_zero (Nat.le_zero.1 hc)
    rw [hz] at this; cases this
   exact ⟨hnil, fin _ _ _ hI hnil⟩
  | succ fuel ih =>
   intro listed a w hc hI
   refine ⟨fun h0 => fin _ _ _ hI h0, fun i hi => ?_⟩
   obtain ⟨hls, hsz, hdf, E, hr, hx, hg⟩ := hI
   simp only [Region.ready, List.mem_filter, List.mem_range, Bool.and_eq_true] at hi
   obtain ⟨hilt, hun, haf⟩ := hi
   have ho : ops.toList[i]? = some ops[i] := by simp [hilt]
   have ho' : ops[i]? = some ops[i] := by simp [hilt]
   rw [ho', Option.map_some, Option.getD_some, Array.all_eq_true'] at haf
   obtain ⟨⟨d, hd, hdn⟩, hlt, hlk⟩ := hssa i _ ho
   obtain ⟨si, d', hd', hdlt, hfact, hsi⟩ := chain_at hch hnd ho
   rw [hd] at hd'; cases hd'
   have hop : ∀ t ∈ looksT ops.toList ops[i], G E w (get si t) (a.tmps.getD t undef) := by
    intro t ht
    by_cases htd : t ∈ dstsOf ops.toList
    ·obtain ⟨e, he, hb, hde⟩ := hlk t ht htd
     have hel := hlt e he hb
     rw [dstOf_eq] at hde
     have hj : e.on < ops.size := by omega
     have hoj : ops.toList[e.on]? = some ops[e.on] := by simp [hj]
     rw [hoj, Option.bind_some] at hde
     have hli := haf e (by simpa using he)
     simp only [hb, Bool.not_true, Bool.false_or] at hli
     have h3 : e.on < listed.size := by rw [hls]; exact hj
     have h5 := hg t (.inr ⟨e.on, _, hoj, hde, by simpa [Array.getD, h3] using hli⟩)
     rw [hsi t]
     ·exact h5
     ·have h6 := hnd e.on _ t hoj hde
      intro hm2
      apply h6
      rw [dstsOf_mem] at hm2 ⊢
      obtain ⟨o2, h7, h8⟩ := hm2
      obtain ⟨k, hk⟩ := List.getElem?_of_mem h7
      rw [List.getElem?_drop] at hk
      refine ⟨o2, ?_, h8⟩
      refine List.mem_of_getElem? (i := i + k - (e.on + 1)) ?_
      rw [List.getElem?_drop, show e.on + 1 + (i + k - (e.on + 1)) = i + k by omega]
      exact hk
    ·rw [hsi t (fun hm2 => htd (by
      rw [dstsOf_mem] at hm2 ⊢
      obtain ⟨o2, h7, h8⟩ := hm2
      exact ⟨o2, List.mem_of_mem_drop h7, h8⟩))]
     exact hg t (.inl htd)
   unfold wpOp
   rw [ho']
   refine hfact E w a _ _ hr hop fun v E' w' hr' hgv hx' => ?_
   refine ih _ _ _ ?_ ⟨by simp [hls], by simp [Act.put, hd, hsz], by rw [hd]; exact hdf, E', hr', hx.trans hx', fun t ht => ?_⟩
   ·refine Nat.le_of_lt_succ (Nat.lt_of_lt_of_le ?_ hc)
    have hsub : ((List.range ops.size).filter fun j => !(listed.setIfInBounds i true).getD j true) = ((List.range ops.size).filter fun j => !listed.getD j true).filter fun j => j != i := by
     rw [List.filter_filter]
     refine List.filter_congr fun j hj => ?_
     have hjs : j < ops.size := List.mem_range.1 hj
     by_cases hji : j = i
     ·subst hji; simp [Array.getD, hls, hjs]
     ·have hb : (j != i) = true := by simp [hji]
      simp [Array.getD, hls, hjs, hb, Ne.symm hji]
    rw [hsub]
    have hin : i ∈ (List.range ops.size).filter fun j => !listed.getD j true := List.mem_filter.2 ⟨List.mem_range.2 hilt, hun⟩
    exact List.length_filter_lt_length_iff_exists.2 ⟨i, hin, by simp⟩
   ·rw [hd]
    by_cases htd : t = d
    ·subst htd
     have : (a.put (some t) v).tmps.getD t undef = v := by simp [Act.put, Array.getD, hsz, hdlt]
     rw [this]; exact hgv
    ·have hne : (a.put (some d) v).tmps.getD t undef = a.tmps.getD t undef := by
      simp only [Act.put, Array.getD_eq_getD_getElem?, Array.getElem?_setIfInBounds, Ne.symm htd, if_false]
     rw [hne]
     refine (hg t ?_).ext hr hx'
     rcases ht with h1 | ⟨j, o, hj, hdj, hlj⟩
     ·exact .inl h1
     ·by_cases hji : j = i
      ·subst hji
       rw [ho] at hj; cases hj
       rw [hd] at hdj; cases hdj; exact absurd rfl htd
      ·refine .inr ⟨j, o, hj, hdj, ?_⟩
       have hjs : j < ops.size := by have := (List.getElem?_eq_some_iff.1 hj).1; simpa using this
       simpa [Array.getD, hls, hjs, Array.getElem_setIfInBounds, Ne.symm hji] using hlj
 have hx0 : Ext E w E { w with drawn := w.drawn + 1 } := ⟨Nat.le_refl _, Nat.le_refl _, fun _ _ _ => rfl, fun _ arr _ fr h => ⟨arr, fr, h, rfl⟩, fun _ _ => .inr rfl, fun _ h => h, fun _ h => .inl h, fun x k s hx h => .inr ⟨x, s, h⟩, rfl, rfl, rfl⟩
 refine wp_region_any hm (key _ _ _ _ ?_ ⟨by simp, hsr.size, hsr.defers, E, hr.still rfl hx0, hx.trans hx0, fun t ht => ?_⟩)
 ·exact Nat.le_trans (List.length_filter_le _ _) (by simp)
 ·rcases ht with h1 | ⟨j, o, hj, hdj, hlj⟩
  ·rw [chain_get hch h1]; exact (hsr.slot t).ext hr hx0
  ·have hjs : j < ops.size := by have := (List.getElem?_eq_some_iff.1 hj).1; simpa using this
   simp [Array.getD, hjs] at hlj
end
end Go.RX
