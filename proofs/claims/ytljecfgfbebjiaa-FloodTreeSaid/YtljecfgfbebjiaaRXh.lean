/- RX, part h: builtins that only read, and all reading operations as one. -/
import Derived.Test.YtljecfgfbebjiaaRXga
import Derived.Laws.Cover1
set_option linter.unusedVariables false
namespace Go.RX

section
variable {P : Program} {T : List (Nat × TE)} {gd : Prop} {C : Prop → Prop} {H : Heap} {K : LV → Prop}

def lenK (T : List (Nat × TE)) (H : Heap) (t : Nat) (x : LV) (K : LV → Prop) : Prop :=
  match tyq T t with
  | some e => match e.u, x with
    | .slice _, .ro _ xs => K (.int .i64 xs.length)
    | .slice _, .sl y _ len => match look H.live y with
      | some (.row _ _ _) => K (.int .i64 len)
      | _ => False
    | .slice _, .nils => K (.int .i64 0)
    | .str, .str s => K (.int .i64 s.size)
    | .map _ _, .map y => match look H.live y with
      | some (.mp es) => K (.int .i64 es.length)
      | _ => False
    | _, _ => False
  | none => False

theorem lenK_spec (hT : TOk P T) {t : Nat} {x : LV} (h : lenK T H t x K) :
    ∃ lv, K lv ∧ ∀ (E : Env) (w : World) (u : Value) (ty : TypeId), RelH E H w → G E w x u → Ans P E w (Builtin.len_ #[t] ty #[u]) lv := by
  unfold lenK at h
  split at h
  · rename_i e he
    obtain ⟨d, hd, hof⟩ := (hT _ _ he).desc
    split at h
    · rename_i el sz xs hel
      rw [hel] at hof
      have := TI.of_slice hof; subst this
      refine ⟨_, h, fun E w u ty hr hu => ?_⟩
      cases hu with
      | roNil => exact ⟨_, by simp [Builtin.len_, run_underlying hd, goInt], .int _ _⟩
      | roZ => exact ⟨_, by simp [Builtin.len_, run_underlying hd, goInt], .int _ _⟩
      | ro => exact ⟨_, by simp [Builtin.len_, run_underlying hd, goInt], .int _ _⟩
    · rename_i el y off len hel
      rw [hel] at hof
      have := TI.of_slice hof; subst this
      split at h
      · rename_i e0 sz0 es0 hl
        refine ⟨_, h, fun E w u ty hr hu => ?_⟩
        obtain ⟨kb, szb, hφ⟩ := alive hr hl
        cases hu with
        | slDead _ _ _ _ hx _ => rw [hφ] at hx; cases hx
        | sl => exact ⟨_, by simp [Builtin.len_, run_underlying hd, goInt], .int _ _⟩
        | slV => exact ⟨_, by simp [Builtin.len_, run_underlying hd, goInt], .int _ _⟩
      · exact h.elim
    · rename_i el hel
      rw [hel] at hof
      have := TI.of_slice hof; subst this
      refine ⟨_, h, fun E w u ty hr hu => ?_⟩
      cases hu
      exact ⟨_, by simp [Builtin.len_, run_underlying hd, goInt], .int _ _⟩
    · rename_i s hel
      rw [hel] at hof
      have := TI.of_str hof; subst this
      refine ⟨_, h, fun E w u ty hr hu => ?_⟩
      cases hu
      exact ⟨_, by simp [Builtin.len_, run_underlying hd, goInt], .int _ _⟩
    · rename_i kt et y hel
      rw [hel] at hof
      have := TI.of_map hof; subst this
      split at h
      · rename_i es hl
        refine ⟨_, h, fun E w u ty hr hu => ?_⟩
        obtain ⟨k, en, cl, h1, h2, h3, h4, h5, h6⟩ := hr.mp y es hl
        have hu' : u = .map (some k) := by
          cases hu with
          | mapDead _ _ hφ _ => rw [h1] at hφ; cases hφ
          | map _ k' sz hφ => rw [h1] at hφ; cases hφ; rfl
        subst hu'
        refine ⟨_, by simp [Builtin.len_, run_underlying hd, getObj_map h2, goInt, h3], .int _ _⟩
      · exact h.elim
    · exact h.elim
  · exact h.elim

def mn (x y : Int) : Int := if y < x then y else x
def mx (x y : Int) : Int := if y > x then y else x

def mnxK (b : Builtin) (xs : List LV) (K : LV → Prop) : Prop :=
  match b, xs with
  | .min, [.int k x, .int _ y] => K (.int k (mn x y))
  | .max, [.int k x, .int _ y] => K (.int k (mx x y))
  | .min, [.int k x, .int _ y, .int _ z] => K (.int k (mn (mn x y) z))
  | .max, [.int k x, .int _ y, .int _ z] => K (.int k (mx (mx x y) z))
  | _, _ => False

def Gs (E : Env) (w : World) (l : List LV) (vs : List Value) : Prop := vs.length = l.length ∧ ∀ (i : Nat) (x : LV) (v : Value), l[i]? = some x → vs[i]? = some v → G E w x v

theorem Gs.nil {E : Env} {w : World} {vs : List Value} (h : Gs E w [] vs) : vs = [] := List.eq_nil_of_length_eq_zero h.1
theorem Gs.cons {E : Env} {w : World} {x : LV} {l : List LV} {vs : List Value} (h : Gs E w (x :: l) vs) : ∃ v r, vs = v :: r ∧ G E w x v ∧ Gs E w l r := by
  cases vs with
  | nil => have := h.1; simp at this
  | cons v r => exact ⟨v, r, rfl, h.2 0 x v rfl rfl, by simpa using h.1, fun i y u h1 h2 => h.2 (i + 1) y u (by simpa using h1) (by simpa using h2)⟩

theorem mnxK_spec {b : Builtin} {xs : List LV} (h : mnxK b xs K) :
    ∃ lv, K lv ∧ ∀ (E : Env) (w : World) (vs : List Value) (ts : Array TypeId) (ty : TypeId) (cs : Array Bool), Gs E w xs vs → ∃ v, (builtin b ts ty cs vs.toArray).run P w = .ok (.value v) w ∧ G E w lv v := by
  unfold mnxK at h
  split at h
  all_goals first
    | exact h.elim
    | (refine ⟨_, h, fun E w vs ts ty cs hg => ?_⟩
       obtain ⟨v1, r1, rfl, g1, hg⟩ := hg.cons
       obtain ⟨v2, r2, rfl, g2, hg⟩ := hg.cons
       have := hg.nil; subst this
       cases g1; cases g2
       exact ⟨_, by simp [builtin, run_min_int2, run_max_int2]; rfl, .int _ _⟩)
    | (refine ⟨_, h, fun E w vs ts ty cs hg => ?_⟩
       obtain ⟨v1, r1, rfl, g1, hg⟩ := hg.cons
       obtain ⟨v2, r2, rfl, g2, hg⟩ := hg.cons
       obtain ⟨v3, r3, rfl, g3, hg⟩ := hg.cons
       have := hg.nil; subst this
       cases g1; cases g2; cases g3
       exact ⟨_, by simp [builtin, run_min_int3, run_max_int3]; rfl, .int _ _⟩)

def indexK (T : List (Nat × TE)) (t : Nat) (x i : LV) (C : Prop → Prop) (K : LV → Prop) : Prop :=
  match tyq T t with
  | some e => match e.u, x, i with
    | .str, .str s, .int _ n => ∃ b, C (0 ≤ n ∧ s[n.toNat]? = some b) ∧ K (.int .u8 b.toNat)
    | .arr m el, .agg cs, .int _ n => match tyq T el with
      | some e' => C (0 ≤ n ∧ n < m) ∧ partK T el cs (n.toNat * e'.size) K
      | none => False
    | _, _, _ => False
  | none => False

theorem takeK_mono : ∀ (n : Nat) (l : List LV) (k k' : List LV → Prop), (∀ m, k m → k' m) → takeK n l k → takeK n l k'
  | 0, _, _, _, hk, h => hk _ h
  | _ + 1, [], _, _, _, h => h.elim
  | n + 1, _ :: r, _, _, hk, h => takeK_mono n r _ _ (fun m hm => hk _ hm) h

theorem takeK_fix : ∀ (n : Nat) (l : List LV) (k : List LV → Prop), takeK n l k → ∃ m, k m ∧ takeK n l (· = m)
  | 0, _, _, h => ⟨[], h, rfl⟩
  | _ + 1, [], _, h => h.elim
  | n + 1, c :: r, k, h => by
    obtain ⟨m, h1, h2⟩ := takeK_fix n r _ h
    exact ⟨c :: m, h1, takeK_mono n r _ _ (fun m hm => by rw [hm]) h2⟩

theorem partK_fix {t : Nat} {cs : List LV} {o : Nat} (h : partK T t cs o K) : ∃ lv, K lv ∧ partK T t cs o (· = lv) := by
  unfold partK at h ⊢
  cases hq : tyq T t with
  | none => rw [hq] at h; exact h.elim
  | some e =>
    rw [hq] at h
    simp only at h ⊢
    cases ha : e.u.isAgg with
    | true =>
      rw [ha] at h
      simp only at h ⊢
      obtain ⟨m, h1, h2⟩ := takeK_fix _ _ _ h
      exact ⟨_, h1, takeK_mono _ _ _ _ (fun m hm => by rw [hm]) h2⟩
    | false =>
      rw [ha] at h
      simp only at h ⊢
      cases hd : dropN o cs with
      | nil => rw [hd] at h; exact h.elim
      | cons c r => rw [hd] at h; exact ⟨c, h, rfl⟩

theorem indexK_spec (hT : TOk P T) (hC : ∀ p, C p → gd → p) {t : Nat} {x i : LV} (h : indexK T t x i C K) :
    ∃ lv, K lv ∧ (gd → ∀ (E : Env) (w : World) (u v : Value), G E w x u → G E w i v → Ans P E w (Instr.index t u v) lv) := by
  unfold indexK at h
  split at h
  · rename_i e he
    obtain ⟨d, hd, hof⟩ := (hT _ _ he).desc
    split at h
    · rename_i s k n hel
      rw [hel] at hof
      have := TI.of_str hof; subst this
      obtain ⟨b, h1, h2⟩ := h
      refine ⟨_, h2, fun hg E w u v hu hv => ?_⟩
      obtain ⟨hn, hb⟩ := hC _ h1 hg
      cases hu; cases hv
      exact ⟨_, by simp [Instr.index, asIntOf, run_underlying hd, hn, hb], .int _ _⟩
    · rename_i m el cs k n hel
      rw [hel] at hof
      have := TI.of_arr hof; subst this
      split at h
      · rename_i e' he'
        obtain ⟨lv, h1, h2⟩ := partK_fix h.2
        refine ⟨lv, h1, fun hg E w u v hu hv => ?_⟩
        obtain ⟨hn0, hn1⟩ := hC _ h.1 hg
        cases hv
        cases hu with
        | agg _ arr hl hone hgs =>
          obtain ⟨_, rfl, v, hv, hgv⟩ := partK_part hT h2 hl hone hgs
          exact ⟨v, by simp [Instr.index, asIntOf, run_underlying hd, hn0, hn1, run_size (hT _ _ he'), hv], hgv⟩
      · exact h.elim
    · exact h.elim
  · exact h.elim

def fldK (T : List (Nat × TE)) (t : Nat) (x : LV) (f : Nat) (K : LV → Prop) : Prop :=
  match tyq T t with
  | some e => match e.u, x with
    | .struct fs, .agg cs => match nth fs f with
      | some (off, ty, _) => partK T ty cs off K
      | none => False
    | _, _ => False
  | none => False

theorem fldK_spec (hT : TOk P T) {t f : Nat} {x : LV} (h : fldK T t x f K) :
    ∃ lv, K lv ∧ ∀ (E : Env) (w : World) (u : Value), G E w x u → Ans P E w (Instr.field t u f) lv := by
  unfold fldK at h
  split at h
  · rename_i e he
    obtain ⟨d, hd, hof⟩ := (hT _ _ he).desc
    split at h
    · rename_i fs cs hel
      rw [hel] at hof
      obtain ⟨gs, rfl, hgs⟩ := TI.of_struct hof
      split at h
      · rename_i off ty cc hn
        rw [nth_eq, ← hgs, List.getElem?_map, Option.map_eq_some_iff] at hn
        obtain ⟨fd, hfd, he⟩ := hn
        simp only [Prod.mk.injEq] at he
        obtain ⟨rfl, rfl, _⟩ := he
        have hfd' : gs[f]? = some fd := by simpa using hfd
        obtain ⟨lv, h1, h2⟩ := partK_fix h
        refine ⟨lv, h1, fun E w u hu => ?_⟩
        cases hu with
        | agg _ arr hl hone hgs =>
          obtain ⟨_, rfl, v, hv, hgv⟩ := partK_part hT h2 hl hone hgs
          exact ⟨v, by simp [Instr.field, run_underlying hd, hfd', asAgg, hv], hgv⟩
      · exact h.elim
    · exact h.elim
  · exact h.elim

def assertK (T : List (Nat × TE)) (x : LV) (at_ : Nat) (ok : Bool) (K : LV → Prop) : Prop :=
  match tyq T at_ with
  | some e => match e.u with
    | .iface _ => False
    | _ => match x with
      | .iface t v => match Nat.beq t at_ with
        | true => match ok with
          | true => K (.tup [v, .bool true])
          | false => K v
        | false => match ok with
          | true => K (.tup [lvOf e.zero, .bool false])
          | false => False
      | .nili => match ok with
          | true => K (.tup [lvOf e.zero, .bool false])
          | false => False
      | _ => False
  | none => False

theorem G.pair {E : Env} {w : World} {a b : LV} {u v : Value} (ha : G E w a u) (hb : G E w b v) : G E w (.tup [a, b]) (.tuple #[u, v]) :=
  .tup _ _ rfl fun i x hx => by
    match i, hx with
    | 0, hx => simp at hx; subst hx; exact ha
    | 1, hx => simp at hx; subst hx; exact hb
    | i + 2, hx => simp at hx

theorem assertK_spec (hT : TOk P T) {x : LV} {at_ : Nat} {ok : Bool} (h : assertK T x at_ ok K) :
    ∃ lv, K lv ∧ ∀ (E : Env) (w : World) (u : Value) (xt : TypeId), G E w x u → Ans P E w (Instr.typeAssert u xt at_ ok) lv := by
  unfold assertK at h
  split at h
  · rename_i e he
    have hte := hT _ _ he
    obtain ⟨d, hd, hof⟩ := hte.desc
    split at h
    · exact h.elim
    · rename_i hne
      have hni : ∀ ms, d ≠ .interface ms := by
        intro ms h'; subst h'
        exact hne _ hof.symm
      split at h
      · rename_i t v
        have run : ∀ (w : World) (xt : TypeId) (u : Value), (Instr.typeAssert (.iface t u) xt at_ ok).run P w =
            (if t = at_ then (pure (if ok then .tuple #[u, .bool true] else u) : Sem Value) else (do if ok then pure (.tuple #[← zeroValue at_, .bool false]) else runtimePanic (.typeAssertion (some xt) (some t) at_ ""))).run P w := by
          intro w xt u
          simp only [Instr.typeAssert, Sem.run_bind, run_underlying hd, Result.andThen_ok]
        split at h
        · rename_i hb
          have hte := Nat.eq_of_beq_eq_true hb
          split at h
          · refine ⟨_, h, fun E w u xt hu => ?_⟩
            cases hu with
            | iface _ _ u hu => exact ⟨_, by rw [run]; simp [hte], hu.pair (.bool _)⟩
          · refine ⟨_, h, fun E w u xt hu => ?_⟩
            cases hu with
            | iface _ _ u hu => exact ⟨_, by rw [run]; simp [hte], hu⟩
        · rename_i hb
          have htn : t ≠ at_ := fun e => by subst e; simp at hb
          split at h
          · refine ⟨_, h, fun E w u xt hu => ?_⟩
            cases hu with
            | iface _ _ u hu => exact ⟨_, by rw [run]; simp [htn, run_zero hte], (G.lvOf E w _).pair (.bool _)⟩
          · exact h.elim
      · split at h
        · refine ⟨_, h, fun E w u xt hu => ?_⟩
          cases hu
          refine ⟨_, ?_, (G.lvOf E w _).pair (.bool _)⟩
          simp only [Instr.typeAssert, Sem.run_bind, run_underlying hd, Result.andThen_ok]
          cases d <;> first | exact absurd rfl (hni _) | (simp [run_zero hte])
        · exact h.elim
      · exact h.elim
  · exact h.elim

def nilK (H : Heap) (x : LV) (K : LV → Prop) : Prop :=
  match x with
  | .ptr y i o => match look H.live y with
    | some _ => K (.ptr y i o)
    | none => False
  | .rptr cs => K (.rptr cs)
  | .func (.func f) a b => K (.func (.func f) a b)
  | _ => False

def opP (T : List (Nat × TE)) (op : Op) (ρ : Operand → LV) (H : Heap) (C : Prop → Prop) (K : LV → Prop) : Prop :=
  match op with
  | .move x => K (ρ x)
  | .assign x => K (ρ x)
  | .pick c a b => pickK (ρ c) (ρ a) (ρ b) C K
  | .fieldAddr s x f => fieldK T H s (ρ x) f K
  | .indexAddr t x i => idxAddrK T H t (ρ x) (ρ i) C K
  | .index t x i => indexK T t (ρ x) (ρ i) C K
  | .load t a => loadK T H t (ρ a) K
  | .binOp op t x y _ => binK T op t (ρ x) (ρ y) C K
  | .unOp op _ x => unK op (ρ x) K
  | .convert s d x => convK T s d (ρ x) K
  | .makeInterface t x => ifaceK T t (ρ x) K
  | .extract x i => extrK (ρ x) i K
  | .build t ps => buildK T H t (ps.toList.map fun p => (p.1, ρ p.2)) K
  | .makeFunc fn a b => K (.func fn (a.toList.map ρ) (b.toList.map ρ))
  | .field t x f => fldK T t (ρ x) f K
  | .slice t x lo hi mx => sliceK T H t (ρ x) (lo.map ρ) (hi.map ρ) (mx.map ρ) C K
  | .nilCheck x => nilK H (ρ x) K
  | .typeAssert x _ at_ ok => assertK T (ρ x) at_ ok K
  | .lookup t m x ok => lookK T H t (ρ m) (ρ x) ok C K
  | .call c => match c.callee with
    | .builtin b => match b with
      | .len => match c.argTypes.toList, c.args.toList with
        | [t], [x] => lenK T H t (ρ x) K
        | _, _ => False
      | b => mnxK b (c.args.toList.map ρ) K
    | _ => False
  | _ => False

/-- The operation answers a value of that kind, and changes nothing. -/
def Reads (P : Program) (H : Heap) (ρ : Operand → LV) (o : Oper) (lv : LV) : Prop :=
  ∀ (E : Env) (w : World) (a : Act), RelH E H w → (∀ x, G E w (ρ x) (a.eval x)) → ∃ v, (execOp a.eval o).run P w = .ok (.value v) w ∧ G E w lv v

theorem opP_sound (hT : TOk P T) (hC : ∀ p, C p → gd → p) {ρ : Operand → LV} {o : Oper} (h : opP T o.op ρ H C K) : ∃ lv, K lv ∧ (gd → Reads P H ρ o lv) := by
  obtain ⟨dst, op, ty, pos, after, guard⟩ := o
  have fin : ∀ {E : Env} {w : World} {s : Sem Value} {lv : LV}, Ans P E w s lv → ∃ v, ((do pure (.value (← s)) : Sem Next)).run P w = .ok (.value v) w ∧ G E w lv v := by
    intro E w s lv ⟨v, h1, h2⟩
    exact ⟨v, by simp [h1], h2⟩
  unfold opP at h
  simp only at h
  split at h
  · exact ⟨_, h, fun hg E w a hr hρ => ⟨_, by simp [execOp], hρ _⟩⟩
  · exact ⟨_, h, fun hg E w a hr hρ => ⟨_, by simp [execOp], hρ _⟩⟩
  · rename_i c a b
    obtain ⟨lv, h1, h2⟩ := pickK_spec hC h
    refine ⟨lv, h1, fun hg E w ac hr hρ => ?_⟩
    obtain ⟨t, ht, hG⟩ := h2 hg E w _ _ _ (hρ c) (hρ a) (hρ b)
    exact ⟨_, by simp [execOp, ht, asBool], hG⟩
  · obtain ⟨lv, h1, h2⟩ := fieldK_spec hT h
    exact ⟨lv, h1, fun hg E w a hr hρ => fin (h2 E w _ hr (hρ _))⟩
  · obtain ⟨lv, h1, h2⟩ := idxAddrK_spec hT hC h
    exact ⟨lv, h1, fun hg E w a hr hρ => fin (h2 hg E w _ _ hr (hρ _) (hρ _))⟩
  · obtain ⟨lv, h1, h2⟩ := indexK_spec hT hC h
    exact ⟨lv, h1, fun hg E w a hr hρ => fin (h2 hg E w _ _ (hρ _) (hρ _))⟩
  · obtain ⟨lv, h1, h2⟩ := loadK_spec hT h
    exact ⟨lv, h1, fun hg E w a hr hρ => fin (h2 E w _ hr (hρ _))⟩
  · obtain ⟨lv, h1, h2⟩ := binK_spec hT hC h
    exact ⟨lv, h1, fun hg E w a hr hρ => fin (h2 hg E w _ _ _ _ (hρ _) (hρ _))⟩
  · obtain ⟨lv, h1, h2⟩ := unK_spec (P := P) h
    exact ⟨lv, h1, fun hg E w a hr hρ => fin (h2 E w _ (hρ _))⟩
  · obtain ⟨lv, h1, h2⟩ := convK_spec hT h
    exact ⟨lv, h1, fun hg E w a hr hρ => fin (h2 E w _ (hρ _))⟩
  · obtain ⟨lv, h1, h2⟩ := ifaceK_spec hT h
    exact ⟨lv, h1, fun hg E w a hr hρ => fin (h2 E w _ (hρ _))⟩
  · obtain ⟨lv, h1, h2⟩ := extrK_spec (P := P) h
    exact ⟨lv, h1, fun hg E w a hr hρ => fin (h2 E w _ (hρ _))⟩
  · rename_i t ps
    obtain ⟨lv, h1, h2⟩ := buildK_spec hT h
    refine ⟨lv, h1, fun hg E w a hr hρ => fin ?_⟩
    have := h2 E w (ps.toList.map fun p => (p.1, a.eval p.2)) hr (by simp) (fun i p v hp hv => by
      simp only [List.getElem?_map, Option.map_eq_some_iff] at hp hv
      obtain ⟨q, hq, rfl⟩ := hp
      obtain ⟨q', hq', rfl⟩ := hv
      rw [hq] at hq'; cases hq'
      exact hρ _)
    have e : (List.map (fun p : Nat × Operand => (p.1, a.eval p.2)) ps.toList).toArray = ps.map fun (x : Nat × Operand) => (x.1, a.eval x.2) := by
      rw [← List.map_toArray]
    rw [e] at this
    exact this
  · rename_i fn a b
    refine ⟨_, h, fun hg E w ac hr hρ => ⟨_, by simp [execOp, Instr.makeFunc]; rfl, ?_⟩⟩
    refine .func fn _ _ _ _ (by simp) (by simp) (fun i x hx => ?_) (fun i x hx => ?_)
    · simp only [List.getElem?_map, Option.map_eq_some_iff] at hx
      obtain ⟨q, hq, rfl⟩ := hx
      have hi : i < a.size := by have := (List.getElem?_eq_some_iff.1 hq).1; simpa using this
      have hq' : a[i] = q := by simpa [hi] using hq
      simpa [Array.getD, hi, hq'] using hρ q
    · simp only [List.getElem?_map, Option.map_eq_some_iff] at hx
      obtain ⟨q, hq, rfl⟩ := hx
      have hi : i < b.size := by have := (List.getElem?_eq_some_iff.1 hq).1; simpa using this
      have hq' : b[i] = q := by simpa [hi] using hq
      simpa [Array.getD, hi, hq'] using hρ q
  · obtain ⟨lv, h1, h2⟩ := fldK_spec hT h
    exact ⟨lv, h1, fun hg E w a hr hρ => fin (h2 E w _ (hρ _))⟩
  · rename_i t x lo hi mx
    obtain ⟨lv, h1, h2⟩ := sliceK_spec hT hC h
    refine ⟨lv, h1, fun hg E w a hr hρ => fin (h2 hg E w _ _ _ _ hr (hρ _) ?_ ?_ ?_)⟩
    all_goals
      refine ⟨by simp, fun l v hl hv => ?_⟩
      simp only [Option.map_eq_some_iff] at hl hv
      obtain ⟨q, hq, rfl⟩ := hl
      obtain ⟨q', hq', rfl⟩ := hv
      rw [hq] at hq'; cases hq'
      exact hρ q
  · rename_i x
    unfold nilK at h
    split at h
    · rename_i y i o hx
      split at h
      · rename_i blk hb
        refine ⟨_, h, fun hg E w a hr hρ => ?_⟩
        have := hρ x
        rw [hx] at this
        obtain ⟨k, sz, hφ⟩ := alive hr hb
        simp only [execOp]
        generalize a.eval x = u at this ⊢
        cases this with
        | ptrDead _ _ _ _ h1 _ => rw [hφ] at h1; cases h1
        | ptr _ _ _ k' sz' h1 => exact ⟨_, by simp, .ptr y i o k' sz' h1⟩
      · exact h.elim
    · rename_i cs hx
      refine ⟨_, h, fun hg E w a hr hρ => ?_⟩
      have := hρ x
      rw [hx] at this
      simp only [execOp]
      generalize a.eval x = u at this ⊢
      cases this with
      | rptr _ b off f hok hb hnl hc h1 hg => exact ⟨_, by simp, .rptr cs b off f hok hb hnl hc h1 hg⟩
    · rename_i f c d hx
      refine ⟨_, h, fun hg E w a hr hρ => ?_⟩
      have := hρ x
      rw [hx] at this
      simp only [execOp]
      generalize a.eval x = u at this ⊢
      cases this with
      | func _ _ _ c' d' h1 h2 h3 h4 => exact ⟨_, by simp, .func _ _ _ c' d' h1 h2 h3 h4⟩
    · exact h.elim
  · obtain ⟨lv, h1, h2⟩ := assertK_spec hT h
    exact ⟨lv, h1, fun hg E w a hr hρ => fin (h2 E w _ _ (hρ _))⟩
  · obtain ⟨lv, h1, h2⟩ := lookK_spec hT hC h
    exact ⟨lv, h1, fun hg E w a hr hρ => fin (h2 hg E w _ _ hr (hρ _) (hρ _))⟩
  · rename_i c
    obtain ⟨callee, args, argTypes⟩ := c
    simp only at h
    split at h
    · rename_i b
      split at h
      · split at h
        · rename_i t x hts hxs
          obtain ⟨lv, h1, h2⟩ := lenK_spec hT h
          refine ⟨lv, h1, fun hg E w a hr hρ => ?_⟩
          obtain ⟨v, h3, h4⟩ := h2 E w (a.eval x) ty hr (hρ _)
          have e1 : argTypes = #[t] := by rw [← Array.toArray_toList (xs := argTypes), hts]
          have e2 : args = #[x] := by rw [← Array.toArray_toList (xs := args), hxs]
          subst e1; subst e2
          exact ⟨v, by simp [execOp, resolve, invoke, builtin, h3], h4⟩
        · exact h.elim
      · obtain ⟨lv, h1, h2⟩ := mnxK_spec (P := P) h
        refine ⟨lv, h1, fun hg E w a hr hρ => ?_⟩
        obtain ⟨v, h3, h4⟩ := h2 E w (args.toList.map a.eval) argTypes ty (args.map fun | .const _ => true | _ => false) ⟨by simp, fun i x u hx hu => by
          simp only [List.getElem?_map, Option.map_eq_some_iff] at hx hu
          obtain ⟨q, hq, rfl⟩ := hx
          obtain ⟨q', hq', rfl⟩ := hu
          rw [hq] at hq'; cases hq'
          exact hρ q⟩
        have e : (List.map a.eval args.toList).toArray = args.map a.eval := by rw [← List.map_toArray]
        rw [e] at h3
        exact ⟨v, by simp only [execOp, resolve, invoke, Sem.run_bind, Sem.run_pure, Result.andThen_ok]; exact h3, h4⟩
    · exact h.elim
  · exact h.elim
end
end Go.RX
