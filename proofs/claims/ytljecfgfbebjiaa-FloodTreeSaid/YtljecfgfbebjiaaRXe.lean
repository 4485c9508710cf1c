/- RX, part e: more operations that only read. -/
import Derived.Test.YtljecfgfbebjiaaRXd
import Derived.Laws.IdiomStrings
set_option linter.unusedVariables false
namespace Go.RX

def idxAddrK (T : List (Nat × TE)) (H : Heap) (t : Nat) (x i : LV) (C : Prop → Prop) (K : LV → Prop) : Prop :=
 match tyq T t with
 | some e => match e.u with
  | .slice el => match tyq T el with
   | some e' => match i with
    | .int _ n => match x with
     | .ro sz xs => match Nat.beq sz e'.size with
      | true => ∃ cs, C (0 ≤ n ∧ xs[n.toNat]? = some cs) ∧ K (.rptr cs)
      | false => False
     | .sl y off len => match look H.live y with
      | some (.row _ sz _) => match Nat.beq sz e'.size with
       | true => C (0 ≤ n ∧ n < len) ∧ K (.ptr y (off + n.toNat) 0)
       | false => False
      | _ => False
     | _ => False
    | _ => False
   | none => False
  | .arr m el => match tyq T el with
   | some e' => match i with
    | .int _ n => match x with
     | .ptr b j o => match look H.live b with
      | some (.row _ sz _) => match Nat.beq sz e'.size with
       | true => C (0 ≤ n ∧ n < m) ∧ K (.ptr b (j + n.toNat) o)
       | false => C (0 ≤ n ∧ n < m) ∧ K (.ptr b j (o + n.toNat * e'.size))
      | _ => False
     | .rptr cs => C (0 ≤ n ∧ n < m) ∧ K (.rptr (dropN (n.toNat * e'.size) cs))
     | _ => False
    | _ => False
   | none => False
  | _ => False
 | none => False

section
variable {P : Program} {T : List (Nat × TE)} {gd : Prop} {C : Prop → Prop} {H : Heap} {K : LV → Prop}

theorem elem_of {t e : Nat} (hd : P.underlying t = some (.slice e)) : P.elem t = e := by simp [Program.elem, hd]

theorem idxAddrK_spec (hT : TOk P T) (hC : ∀ p, C p → gd → p) {t : Nat} {x i : LV} (h : idxAddrK T H t x i C K) :
  ∃ lv, K lv ∧ (gd → ∀ (E : Env) (w : World) (u v : Value), RelH E H w → G E w x u → G E w i v → Ans P E w (Instr.indexAt t u v) lv) := by
 unfold idxAddrK at h
 cases hq : tyq T t with
 | none => rw [hq] at h; exact h.elim
 | some e =>
  rw [hq] at h
  obtain ⟨d, hd, hof⟩ := (hT t e hq).desc
  simp only at h
  split at h
  ·rename_i el hel
   rw [hel] at hof
   have := TI.of_slice hof; subst this
   have hel' := elem_of hd
   split at h
   ·rename_i e' hq'
    have he' := hT _ e' hq'
    have run : ∀ (w : World) (b o len cap : Nat) (k : IntKind) (n : Int), 0 ≤ n → n < len →
      (Instr.indexAt t (.slice (some ⟨b, o, none⟩) len cap) (.int k n)).run P w = .ok (.pointer (some ⟨b, o + n.toNat * e'.size, none⟩)) w := by
     intro w b o len cap k n h0 h1
     simp [Instr.indexAt, asIntOf, run_underlying hd, h0, h1, run_size he', addr_add]
    split at h
    ·rename_i k n
     split at h
     ·rename_i sz xs
      split at h
      ·rename_i hb
       have hsz := Nat.eq_of_beq_eq_true hb
       obtain ⟨cs, h1, h2⟩ := h
       refine ⟨_, h2, fun hg E w u v hr hu hv => ?_⟩
       obtain ⟨h0, hcs⟩ := hC _ h1 hg
       have hlt : n.toNat < xs.length := (List.getElem?_eq_some_iff.1 hcs).1
       cases hv
       cases hu with
       | roNil => simp at hcs
       | roZ => simp at hcs
       | ro _ _ b off cap f hok hbl hcap hlen hnl hc h1 hgx =>
        refine ⟨_, run w b off xs.length cap k n h0 (by omega), ?_⟩
        rw [← hsz]
        refine .rptr cs b _ (f n.toNat) hok hbl (fun j x hj => hnl _ cs j x hcs hj) (fun j x hj => ?_) (fun j => h1 _ _) (fun j x hj => hgx n.toNat cs j x hcs hj)
        have hj' : j < sz := by rw [← hlen _ cs hcs]; exact (List.getElem?_eq_some_iff.1 hj).1
        exact hc n.toNat j hlt hj'
      ·exact h.elim
     ·rename_i y off len
      split at h
      ·rename_i e0 sz es hl
       split at h
       ·rename_i hb
        have hsz := Nat.eq_of_beq_eq_true hb
        refine ⟨_, h.2, fun hg E w u v hr hu hv => ?_⟩
        obtain ⟨h0, h1⟩ := hC _ h.1 hg
        obtain ⟨kb, szb, hφ⟩ := alive hr hl
        have hszb : szb = sz := by rcases hr.row y e0 sz es hl with ⟨h1, _⟩ | ⟨_, _, h1, _⟩ <;> (rw [hφ] at h1; cases h1; rfl)
        subst hszb
        cases hv
        cases hu with
        | slDead _ _ _ _ hx _ => rw [hφ] at hx; cases hx
        | sl _ _ _ cap k' sz' arr' t' fr hx hlc hcm hk hcap =>
         rw [hφ] at hx
         obtain ⟨hkk, rfl⟩ := Prod.mk.inj (Option.some.inj hx)
         subst hkk
         refine ⟨_, run w k' _ len cap k n h0 h1, ?_⟩
         have := G.ptr (E := E) (w := w) y (off + n.toNat) 0 k' szb hφ
         rw [Nat.add_mul, Nat.add_zero] at this
         rw [← hsz]
         exact this
        | slV _ _ hx => simp at h1; omega
       ·exact h.elim
      ·exact h.elim
     ·exact h.elim
    ·exact h.elim
   ·exact h.elim
  ·rename_i m el hel
   rw [hel] at hof
   have := TI.of_arr hof; subst this
   split at h
   ·rename_i e' hq'
    have he' := hT _ e' hq'
    have run : ∀ (w : World) (b o : Nat) (k : IntKind) (n : Int), 0 ≤ n → n < m →
      (Instr.indexAt t (.pointer (some ⟨b, o, none⟩)) (.int k n)).run P w = .ok (.pointer (some ⟨b, o + n.toNat * e'.size, none⟩)) w := by
     intro w b o k n h0 h1
     simp [Instr.indexAt, asIntOf, run_underlying hd, Instr.sureAddr, h0, h1, run_size he', addr_add]
    split at h
    ·rename_i k n
     split at h
     ·rename_i b j o
      split at h
      ·rename_i e0 sz es hb
       split at h
       ·rename_i hbq
        have hsz := Nat.eq_of_beq_eq_true hbq
        refine ⟨_, h.2, fun hg E w u v hr hu hv => ?_⟩
        obtain ⟨h0, h1⟩ := hC _ h.1 hg
        obtain ⟨kb, szb, hφ⟩ := alive hr hb
        have hszb : szb = sz := by rcases hr.row b e0 sz es hb with ⟨h1, _⟩ | ⟨_, _, h1, _⟩ <;> (rw [hφ] at h1; cases h1; rfl)
        cases hv
        cases hu with
        | ptrDead _ _ _ _ hx _ => rw [hφ] at hx; cases hx
        | ptr _ _ _ k' sz' hx =>
         have hq : sz' = e'.size := by rw [hφ] at hx; cases hx; rw [hszb, hsz]
         refine ⟨_, run w _ _ k n h0 h1, ?_⟩
         have := G.ptr (E := E) (w := w) b (j + n.toNat) o k' sz' hx
         have e1 : (j + n.toNat) * sz' + o = j * sz' + o + n.toNat * e'.size := by rw [Nat.add_mul, hq]; omega
         rw [e1] at this
         exact this
       ·refine ⟨_, h.2, fun hg E w u v hr hu hv => ?_⟩
        obtain ⟨h0, h1⟩ := hC _ h.1 hg
        obtain ⟨kb, szb, hφ⟩ := alive hr hb
        cases hv
        cases hu with
        | ptrDead _ _ _ _ hx _ => rw [hφ] at hx; cases hx
        | ptr _ _ _ k' sz' hx =>
         refine ⟨_, run w _ _ k n h0 h1, ?_⟩
         rw [Nat.add_assoc]
         exact .ptr b j _ k' sz' hx
      ·exact h.elim
     ·rename_i cs
      refine ⟨_, h.2, fun hg E w u v hr hu hv => ?_⟩
      obtain ⟨h0, h1⟩ := hC _ h.1 hg
      cases hv
      cases hu with
      | rptr _ b o g hok hb hnl hc h1' hg' =>
       refine ⟨_, run w _ _ k n h0 h1, ?_⟩
       refine .rptr _ b _ (fun j => g (n.toNat * e'.size + j)) hok hb (fun j x hj => by rw [dropN_get] at hj; exact hnl _ x hj) (fun j x hj => ?_) (fun j => h1' _) (fun j x hj => ?_)
       ·rw [dropN_get] at hj; rw [Nat.add_assoc]; exact hc _ x hj
       ·rw [dropN_get] at hj; exact hg' _ x hj
     ·exact h.elim
    ·exact h.elim
   ·exact h.elim
  ·exact h.elim

def sameK (k k' : IntKind) : Bool :=
 match k, k' with
 | .i64, .i64 => true
 | .u8, .u8 => true
 | .u32, .u32 => true
 | .i32, .i32 => true
 | .u64, .u64 => true
 | .u16, .u16 => true
 | .i16, .i16 => true
 | .i8, .i8 => true
 | _, _ => false
theorem sameK_eq {k k' : IntKind} (h : sameK k k' = true) : k = k' := by cases k <;> cases k' <;> simp_all [sameK]

def binK (T : List (Nat × TE)) (op : BinOp) (t : Nat) (x y : LV) (C : Prop → Prop) (K : LV → Prop) : Prop :=
 match x, y with
 | .int k a, .int k' b => match shI op k a b with
  | some r => C (0 ≤ b) ∧ K (.int k r)
  | none => match sameK k k' with
   | true => match cmpI op a b with
    | some r => K (.bool r)
    | none => match arI op k a b with
     | some (r, p) => C p ∧ K (.int k r)
     | none => False
   | false => False
 | .str a, .str b => match op with
  | .eql => K (.bool (a == b))
  | .neq => K (.bool (a != b))
  | .add => C (a.size + b.size ≤ 9223372036854775807) ∧ K (.str (a ++ b))
  | _ => False
 | x, y => match op with
  | .eql => match eqL T 10 t x y with
   | some r => K (.bool r)
   | none => False
  | .neq => match eqL T 10 t x y with
   | some r => K (.bool (!r))
   | none => False
  | _ => False

theorem eqL_nonstr {x y : LV} {t d : Nat} {r : Bool} (h : eqL T d t x y = some r) : (∃ a b, x = .bool a ∧ y = .bool b) ∨ (∃ k a k' b, x = .int k a ∧ y = .int k' b) ∨ (∃ a b, x = .str a ∧ y = .str b) ∨
  ∃ a b e, x = .agg a ∧ y = .agg b ∧ tyq T t = some e ∧ e.u.isAgg = true := by
 cases d with
 | zero => simp [eqL] at h
 | succ d =>
  simp only [eqL] at h
  split at h
  ·rename_i e he
   split at h
   ·split at h
    ·exact .inl ⟨_, _, rfl, rfl⟩
    ·cases h
   ·split at h
    ·exact .inr (.inl ⟨_, _, _, _, rfl, rfl⟩)
    ·cases h
   ·split at h
    ·exact .inr (.inr (.inl ⟨_, _, rfl, rfl⟩))
    ·cases h
   ·rename_i fs hfs
    split at h
    ·exact .inr (.inr (.inr ⟨_, _, e, rfl, rfl, he, by rw [hfs]; rfl⟩))
    ·cases h
   ·rename_i n el hfs
    split at h
    ·exact .inr (.inr (.inr ⟨_, _, e, rfl, rfl, he, by rw [hfs]; rfl⟩))
    ·cases h
   ·cases h
  ·cases h

theorem binK_spec (hT : TOk P T) (hC : ∀ p, C p → gd → p) {op : BinOp} {t : Nat} {x y : LV} (h : binK T op t x y C K) :
  ∃ lv, K lv ∧ (gd → ∀ (E : Env) (w : World) (xo yo : Operand) (u v : Value), G E w x u → G E w y v → Ans P E w (do eqGuard op t xo yo u v; binOp op t u v) lv) := by
 unfold binK at h
 split at h
 ·rename_i k a k' b
  have grd : ∀ (w : World) (xo yo : Operand), (eqGuard op t xo yo (.int k a) (.int k' b)).run P w = .ok () w := by
   intro w xo yo; cases op <;> simp [eqGuard]
  split at h
  ·rename_i r hs
   refine ⟨_, h.2, fun hg E w xo yo u v hu hv => ?_⟩
   cases hu; cases hv
   refine ⟨_, ?_, .int _ _⟩
   simp only [Sem.run_bind, grd, Result.andThen_ok]
   exact shI_run hs (hC _ h.1 hg)
  ·split at h
   ·rename_i hk
    have := sameK_eq hk; subst this
    split at h
    ·rename_i r hc
     refine ⟨_, h, fun hg E w xo yo u v hu hv => ?_⟩
     cases hu; cases hv
     refine ⟨_, ?_, .bool _⟩
     simp only [Sem.run_bind, grd, Result.andThen_ok]
     exact cmpI_run hc
    ·split at h
     ·rename_i r p ha
      refine ⟨_, h.2, fun hg E w xo yo u v hu hv => ?_⟩
      cases hu; cases hv
      refine ⟨_, ?_, .int _ _⟩
      simp only [Sem.run_bind, grd, Result.andThen_ok]
      exact arI_run ha (hC _ h.1 hg)
     ·exact h.elim
   ·exact h.elim
 ·rename_i a b
  have grd : ∀ (w : World) (xo yo : Operand), (eqGuard op t xo yo (.string a) (.string b)).run P w = .ok () w := by
   intro w xo yo; cases op <;> simp [eqGuard]
  split at h
  ·refine ⟨_, h, fun hg E w xo yo u v hu hv => ?_⟩
   cases hu; cases hv
   refine ⟨_, ?_, .bool _⟩
   simp only [Sem.run_bind, grd, Result.andThen_ok]
   simp [binOp, Op.stringOp, beq_toListBytes]
  ·refine ⟨_, h, fun hg E w xo yo u v hu hv => ?_⟩
   cases hu; cases hv
   refine ⟨_, ?_, .bool _⟩
   simp only [Sem.run_bind, grd, Result.andThen_ok]
   simp [binOp, Op.stringOp, bne, beq_toListBytes]
  ·refine ⟨_, h.2, fun hg E w xo yo u v hu hv => ?_⟩
   have hsz := hC _ h.1 hg
   cases hu; cases hv
   refine ⟨_, ?_, .str _⟩
   simp only [Sem.run_bind, grd, Result.andThen_ok]
   have : ¬ (((a.size + b.size : Nat) : Int) > IntKind.i64.max) := by
    show ¬ (((a.size + b.size : Nat) : Int) > 9223372036854775807)
    omega
   simp only [binOp, Op.stringOp, if_neg this]
   rfl
  ·exact h.elim
 ·rename_i hni hns
  have key : ∀ r, eqL T 10 t x y = some r → ∀ (E : Env) (w : World) (xo yo : Operand) (u v : Value), G E w x u → G E w y v → ∀ op : BinOp, op = .eql ∨ op = .neq →
    (eqGuard op t xo yo u v).run P w = .ok () w ∧ (binOp op t u v).run P w = .ok (.bool (if op = .eql then r else !r)) w := by
   intro r hr E w xo yo u v hu hv op hop
   have heq := eqL_run (P := P) hT 10 t x y r u v hr hu hv 10000 (by decide)
   rcases eqL_nonstr hr with ⟨a, b, rfl, rfl⟩ | ⟨k, a, k', b, rfl, rfl⟩ | ⟨a, b, rfl, rfl⟩ | ⟨a, b, e, rfl, rfl, he, hfs⟩
   ·cases hu; cases hv
    rcases hop with rfl | rfl
    ·exact ⟨by simp [eqGuard], by simp [binOp, Op.equal, Op.maxDepth, heq]⟩
    ·exact ⟨by simp [eqGuard], by simp [binOp, Op.equal, Op.maxDepth, heq]⟩
   ·exact absurd rfl (hni _ _ _ _ rfl)
   ·exact absurd rfl (hns _ _ rfl)
   ·cases hu with
    | agg _ ax _ _ _ =>
    cases hv with
    | agg _ ay _ _ _ =>
    refine ⟨run_eqGuard_agg w op t xo yo ax ay ((hT t e he).guard hfs), ?_⟩
    rcases hop with rfl | rfl
    ·rw [run_eql_struct, heq]; rfl
    ·rw [run_neq_struct, heq]; rfl
  split at h
  ·split at h
   ·rename_i r hr
    refine ⟨_, h, fun hg E w xo yo u v hu hv => ?_⟩
    obtain ⟨h1, h2⟩ := key r hr E w xo yo u v hu hv .eql (.inl rfl)
    refine ⟨_, ?_, .bool _⟩
    simp only [Sem.run_bind, h1, Result.andThen_ok]
    simpa using h2
   ·exact h.elim
  ·split at h
   ·rename_i r hr
    refine ⟨_, h, fun hg E w xo yo u v hu hv => ?_⟩
    obtain ⟨h1, h2⟩ := key r hr E w xo yo u v hu hv .neq (.inr rfl)
    refine ⟨_, ?_, .bool _⟩
    simp only [Sem.run_bind, h1, Result.andThen_ok]
    simpa using h2
   ·exact h.elim
  ·exact h.elim

def unK (op : UnOp) (x : LV) (K : LV → Prop) : Prop :=
 match op, x with
 | .not, .bool b => K (.bool (!b))
 | .neg, .int k n => K (.int k (k.wrap (0 - n)))
 | _, _ => False

theorem unK_spec {op : UnOp} {x : LV} (h : unK op x K) : ∃ lv, K lv ∧ ∀ (E : Env) (w : World) (u : Value), G E w x u → Ans P E w (Op.unary op u) lv := by
 unfold unK at h
 split at h
 ·refine ⟨_, h, fun E w u hu => ?_⟩
  cases hu
  exact ⟨_, by simp [Op.unary], .bool _⟩
 ·refine ⟨_, h, fun E w u hu => ?_⟩
  cases hu
  exact ⟨_, by simp [Op.unary, Op.intArith], .int _ _⟩
 ·exact h.elim

def byL (s : ByteArray) : List (List LV) := s.data.toList.map fun b => [LV.int .u8 (b.toNat : Int)]

theorem byL_len (s : ByteArray) : (byL s).length = s.size := by
 unfold byL
 rw [List.length_map, Array.length_toList]
 rfl

def convK (T : List (Nat × TE)) (s d : Nat) (x : LV) (K : LV → Prop) : Prop :=
 match tyq T s, tyq T d with
 | some es, some ed => match ed.u with
  | .int k => match x with
   | .int _ n => match es.u with
    | .int _ => K (.int k (k.wrap n))
    | _ => False
   | _ => False
  | .str => match es.u with
   | .slice el => match tyq T el with
    | some e' => match e'.u with
     | .int k => match sameK k .u8 with
      | true => match x with
       | .ro sz xs => sz = 1 ∧ ∃ r, xs = byL r ∧ K (.str r)
       | _ => False
      | false => False
     | _ => False
    | none => False
   | _ => False
  | _ => False
 | _, _ => False

theorem convK_spec (hT : TOk P T) {s d : Nat} {x : LV} (h : convK T s d x K) : ∃ lv, K lv ∧ ∀ (E : Env) (w : World) (u : Value), G E w x u → Ans P E w (convert s d u) lv := by
 unfold convK at h
 split at h
 ·rename_i es ed hs hd
  obtain ⟨ds, h1, h2⟩ := (hT _ _ hs).desc
  obtain ⟨dd, h3, h4⟩ := (hT _ _ hd).desc
  split at h
  ·rename_i k hk
   split at h
   ·rename_i k' n
    split at h
    ·rename_i k2 hk2
     rw [hk] at h4
     rw [hk2] at h2
     have := TI.of_int h4; subst this
     have := TI.of_int h2; subst this
     refine ⟨_, h, fun E w u hu => ?_⟩
     cases hu
     exact ⟨_, by simp [convert, run_underlying h1, run_underlying h3, Conv.intToInt], .int _ _⟩
    ·exact h.elim
   ·exact h.elim
  ·rename_i hk
   split at h
   ·rename_i el hel
    split at h
    ·rename_i e' he'
     obtain ⟨de, h5, h6⟩ := (hT _ _ he').desc
     split at h
     ·rename_i k hk'
      split at h
      ·rename_i hku
       have := sameK_eq hku; subst this
       split at h
       ·rename_i sz xs
        obtain ⟨rfl, r, rfl, h⟩ := h
        rw [hk] at h4
        rw [hel] at h2
        rw [hk'] at h6
        have := TI.of_str h4; subst this
        have := TI.of_slice h2; subst this
        have := TI.of_int h6; subst this
        refine ⟨_, h, fun E w u hu => ?_⟩
        generalize hxs : byL r = xs at hu
        cases hu with
        | roNil _ =>
         refine ⟨.string .empty, by simp [convert, run_underlying h1, run_underlying h3, run_underlying h5, Conv.bytesToString], ?_⟩
         have hr : r = ByteArray.empty := by
          cases r with | mk d =>
          have : d.toList = [] := by simpa [byL] using hxs
          have : d = #[] := by simpa using this
          rw [this]; rfl
         rw [hr]
         exact .str _
        | roZ _ a =>
         refine ⟨.string .empty, by simp [convert, run_underlying h1, run_underlying h3, run_underlying h5, Conv.bytesToString, loadCells, loadCellsFrom], ?_⟩
         have hr : r = ByteArray.empty := by
          cases r with | mk d =>
          have : d.toList = [] := by simpa [byL] using hxs
          have : d = #[] := by simpa using this
          rw [this]; rfl
         rw [hr]
         exact .str _
        | ro _ _ b off cap f hok hb hcap hsz hn hc hone hg =>
         have hl : (byL r).length = r.data.toList.length := by simp [byL]
         have hrun := run_convert_bytes_back (P := P) w s d el ⟨b, off, none⟩ cap r.data.toList h1 h5 h3 (fun j hj => by
          have hj' : j < xs.length := by rw [← hxs, hl]; exact hj
          have h7 := hc j 0 hj' (by decide)
          have h8 : xs[j]? = some [LV.int .u8 (r.data.toList[j].toNat : Int)] := by rw [← hxs]; simp [byL, List.getElem?_eq_getElem hj]
          have h9 := hg j _ 0 _ h8 rfl
          have h10 : ∀ (z : Value) (n : Int), G E w (.int .u8 n) z → z = .int .u8 n := fun z n h => by cases h; rfl
          rw [h10 _ _ h9] at h7
          have h11 : (⟨b, off, none⟩ : Addr).add j = ⟨b, off + j, none⟩ := by
           unfold Addr.add
           first | rfl | (split <;> simp_all)
          rw [h11]
          simpa using h7)
         refine ⟨_, ?_, .str r⟩
         rw [← hxs, hl, hrun]
       ·exact h.elim
      ·exact h.elim
     ·exact h.elim
    ·exact h.elim
   ·exact h.elim
  ·exact h.elim
 ·exact h.elim

def ifaceK (T : List (Nat × TE)) (t : Nat) (x : LV) (K : LV → Prop) : Prop :=
 match tyq T t with
 | some e => match e.u with
  | .iface _ => False
  | _ => K (.iface t x)
 | none => False

theorem ifaceK_spec (hT : TOk P T) {t : Nat} {x : LV} (h : ifaceK T t x K) : ∃ lv, K lv ∧ ∀ (E : Env) (w : World) (u : Value), G E w x u → Ans P E w (Instr.makeInterface t u) lv := by
 unfold ifaceK at h
 split at h
 ·rename_i e he
  obtain ⟨d, h1, h2⟩ := (hT _ _ he).desc
  split at h
  ·exact h.elim
  ·rename_i hne
   refine ⟨_, h, fun E w u hu => ⟨.iface t u, ?_, .iface t x u hu⟩⟩
   simp only [Instr.makeInterface, Sem.run_bind, run_underlying h1, Result.andThen_ok]
   cases d <;> first | rfl | (simp [TI.of] at h2; exact (hne _ h2.symm).elim)
 ·exact h.elim

def extrK (x : LV) (i : Nat) (K : LV → Prop) : Prop :=
 match x with
 | .tup vs => match nth vs i with
  | some v => K v
  | none => False
 | _ => False

theorem extrK_spec {x : LV} {i : Nat} (h : extrK x i K) : ∃ lv, K lv ∧ ∀ (E : Env) (w : World) (u : Value), G E w x u → Ans P E w (Instr.extract u i) lv := by
 unfold extrK at h
 split at h
 ·rename_i vs
  split at h
  ·rename_i v hv
   rw [nth_eq] at hv
   refine ⟨_, h, fun E w u hu => ?_⟩
   cases hu with
   | tup _ arr hl hg =>
    have hi : i < arr.size := by rw [hl]; exact (List.getElem?_eq_some_iff.1 hv).1
    refine ⟨arr.getD i undef, ?_, hg i v hv⟩
    simp [Instr.extract, Array.getD, hi]
  ·exact h.elim
 ·exact h.elim

end
end Go.RX
