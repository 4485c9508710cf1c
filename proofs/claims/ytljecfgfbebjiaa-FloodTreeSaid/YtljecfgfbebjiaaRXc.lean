/- RX, part c: operations that only read. -/
import Derived.Test.YtljecfgfbebjiaaRXb
import Derived.ChangeKeysEq
set_option linter.unusedVariables false
namespace Go.RX

def lv1 : Value → LV
  | .bool b => .bool b
  | .int k n => .int k n
  | .string s => .str s
  | .pointer none => .nilp
  | .slice none 0 0 => .nils
  | .map none => .nilm
  | .nilFunc => .nilf
  | .nilIface => .nili
  | _ => .any

def lvOf : Value → LV
  | .agg cs => match cs.toList.all one with
    | true => .agg (cs.toList.map lv1)
    | false => .any
  | v => lv1 v

theorem G.lv1 (E : Env) (w : World) (v : Value) : G E w (lv1 v) v := by
  unfold RX.lv1
  split <;> constructor

theorem one_eq (v : Value) : one v = v.oneCell' := by cases v <;> rfl

theorem G.lvOf (E : Env) (w : World) (v : Value) : G E w (lvOf v) v := by
  unfold RX.lvOf
  split
  · rename_i cs
    split
    · rename_i h
      refine .agg _ _ (by simp) (fun i hi => ?_) (fun i x hx => ?_)
      · have h2 := List.all_eq_true.1 h (cs[i]) (by simp)
        rw [one_eq] at h2
        simpa [Array.getD, hi] using h2
      · simp only [List.getElem?_map, Option.map_eq_some_iff] at hx
        obtain ⟨v, hv, rfl⟩ := hx
        have hi : i < cs.size := by
          have := (List.getElem?_eq_some_iff.1 hv).1
          simpa using this
        have : cs.getD i undef = v := by
          simp only [Array.getElem?_toList, Array.getElem?_eq_getElem hi, Option.some.injEq] at hv
          simpa [Array.getD, hi] using hv
        rw [this]
        exact G.lv1 E w v
    · exact .any _
  · exact G.lv1 E w _

def get : List (Nat × LV) → Nat → LV
  | [], _ => .any
  | (j, v) :: r, i => match Nat.beq i j with
    | true => v
    | false => get r i

def ev (s : List (Nat × LV)) : Operand → LV
  | .tmp t => get s t
  | .const v => lvOf v
  | .func f => .func (.func f) [] []
  | .global _ => .any

/-- Is it one cell for sure? -/
def solid (H : Heap) : LV → Bool
  | .bool _ | .int _ _ | .str _ | .nilp | .nils | .nilm | .nilf | .nili => true
  | .func _ _ _ | .iface _ _ | .rptr _ | .ro _ _ => true
  | .ptr x _ _ | .sl x _ _ | .map x => (look H.live x).isSome
  | .ite _ a b => solid H a && solid H b
  | _ => false

theorem G.solid {E : Env} {w : World} {H : Heap} (hr : RelH E H w) {l : LV} {v : Value} (h : G E w l v) (hs : solid H l = true) : v.oneCell' = true := by
  have alive : ∀ x, (look H.live x).isSome = true → E.φ x ≠ none := by
    intro x hx hn
    cases hl : look H.live x with
    | none => rw [hl] at hx; cases hx
    | some b =>
      cases b with
      | row e sz es => rcases hr.row x e sz es hl with ⟨h1, _⟩ | ⟨k, _, h1, _⟩ <;> (rw [h1] at hn; cases hn)
      | mp es => obtain ⟨k, _, _, h1, _⟩ := hr.mp x es hl; rw [h1] at hn; cases hn
  induction h with
  | ptrDead x i o v h _ => exact absurd h (alive x hs)
  | slDead x off len v h _ => exact absurd h (alive x hs)
  | mapDead x v h _ => exact absurd h (alive x hs)
  | iteT a b v _ ih => simp only [RX.solid, Bool.and_eq_true] at hs; exact ih hs.1
  | iteF a b v _ ih => simp only [RX.solid, Bool.and_eq_true] at hs; exact ih hs.2
  | _ => first | rfl | (simp [RX.solid] at hs)

/-- The cells of a value. -/
def cellsK (H : Heap) (l : LV) (k : List LV → Prop) : Prop :=
  match l with
  | .agg cs => k cs
  | l => match solid H l with
    | true => k [l]
    | false => False

theorem cellsK_spec {H : Heap} {l : LV} {k : List LV → Prop} (h : cellsK H l k) : ∃ cs, k cs ∧ ∀ (E : Env) (w : World) (v : Value), RelH E H w → G E w l v →
    v.cells.size = cs.length ∧ (∀ i, i < v.cells.size → (v.cells.getD i undef).oneCell' = true) ∧ ∀ i x, cs[i]? = some x → G E w x (v.cells.getD i undef) := by
  unfold cellsK at h
  split at h
  · rename_i cs
    refine ⟨cs, h, fun E w v _ hv => ?_⟩
    cases hv with
    | agg _ arr hl h1 h2 => exact ⟨hl, h1, h2⟩
  · cases hs : solid H l with
    | false => rw [hs] at h; exact h.elim
    | true =>
      rw [hs] at h
      refine ⟨[l], h, fun E w v hr hv => ?_⟩
      have ho := hv.solid hr hs
      have hc : v.cells = #[v] := by cases v <;> first | rfl | (simp [Value.oneCell'] at ho)
      rw [hc]
      refine ⟨rfl, fun i hi => ?_, fun i x hx => ?_⟩
      · have : i = 0 := by simpa using hi
        subst this; simpa using ho
      · cases i with
        | zero => simp at hx; subst hx; simpa using hv
        | succ i => simp at hx

/-! Comparison. -/
def cmpI : BinOp → Int → Int → Option Bool
  | .eql, a, b => some (decide (a = b))
  | .neq, a, b => some (!decide (a = b))
  | .lss, a, b => some (decide (a < b))
  | .leq, a, b => some (decide (a ≤ b))
  | .gtr, a, b => some (decide (b < a))
  | .geq, a, b => some (decide (b ≤ a))
  | _, _, _ => none

def bitI (op : BinOp) (k : IntKind) (a b : Int) : Int :=
  match op with
  | .and => k.wrap ((BitVec.ofInt k.bits a &&& BitVec.ofInt k.bits b).toNat : Int)
  | .or => k.wrap ((BitVec.ofInt k.bits a ||| BitVec.ofInt k.bits b).toNat : Int)
  | .xor => k.wrap ((BitVec.ofInt k.bits a ^^^ BitVec.ofInt k.bits b).toNat : Int)
  | _ => k.wrap ((BitVec.ofInt k.bits a &&& ~~~ BitVec.ofInt k.bits b).toNat : Int)

def arI : BinOp → IntKind → Int → Int → Option (Int × Prop)
  | .add, k, a, b => some (k.wrap (a + b), True)
  | .sub, k, a, b => some (k.wrap (a - b), True)
  | .mul, k, a, b => some (k.wrap (a * b), True)
  | .quo, k, a, b => some (k.wrap (a.tdiv b), b ≠ 0)
  | .rem, _, a, b => some (a.tmod b, b ≠ 0)
  | .and, k, a, b => some (bitI .and k a b, True)
  | .or, k, a, b => some (bitI .or k a b, True)
  | .xor, k, a, b => some (bitI .xor k a b, True)
  | .andNot, k, a, b => some (bitI .andNot k a b, True)
  | _, _, _, _ => none

def shI : BinOp → IntKind → Int → Int → Option Int
  | .shl, k, a, b => some (k.wrap (a * 2 ^ (min b.toNat k.bits)))
  | .shr, k, a, b => some (a.fdiv (2 ^ (min b.toNat k.bits)))
  | _, _, _, _ => none

theorem cmpI_run {P : Program} {w : World} {op : BinOp} {k : IntKind} {t : TypeId} {a b : Int} {r : Bool} (h : cmpI op a b = some r) :
    (binOp op t (.int k a) (.int k b)).run P w = .ok (.bool r) w := by
  cases op <;> simp only [cmpI, Option.some.injEq, reduceCtorEq] at h <;> subst h <;> simp [binOp, Op.intCmp] <;> rfl

theorem arI_run {P : Program} {w : World} {op : BinOp} {k : IntKind} {t : TypeId} {a b r : Int} {p : Prop} (h : arI op k a b = some (r, p)) (hp : p) :
    (binOp op t (.int k a) (.int k b)).run P w = .ok (.int k r) w := by
  cases op <;> simp only [arI, Option.some.injEq, Prod.mk.injEq, reduceCtorEq] at h <;> obtain ⟨h, h'⟩ := h <;> subst h <;> subst h'
  all_goals first
    | (simp [binOp, Op.intArith]; done)
    | (have hb : ¬ b = 0 := hp
       simp [binOp, Op.intDiv, hb]; done)
    | (simp [binOp, Op.intBits, bitI]; done)

theorem shI_run {P : Program} {w : World} {op : BinOp} {k k' : IntKind} {t : TypeId} {a b r : Int} (h : shI op k a b = some r) (hp : 0 ≤ b) :
    (binOp op t (.int k a) (.int k' b)).run P w = .ok (.int k r) w := by
  have hb : ¬ b < 0 := by omega
  cases op <;> simp [shI] at h <;> subst h <;> simp [binOp, Op.shift, hb]

/-! '==' of two values of a type: field by field. -/
def takeO : Nat → List LV → Option (List LV)
  | 0, _ => some []
  | n + 1, c :: r => match takeO n r with
    | some l => some (c :: l)
    | none => none
  | _ + 1, [] => none

def partO (T : List (Nat × TE)) (t : Nat) (cs : List LV) (off : Nat) : Option LV :=
  match tyq T t with
  | some e => match e.u.isAgg with
    | true => match takeO e.size (dropN off cs) with
      | some l => some (.agg l)
      | none => none
    | false => match dropN off cs with
      | c :: _ => some c
      | [] => none
  | none => none

theorem takeO_K : ∀ (n : Nat) (l m : List LV) (k : List LV → Prop), takeO n l = some m → k m → takeK n l k
  | 0, _, m, k, h, hk => by simp [takeO] at h; subst h; exact hk
  | n + 1, [], m, k, h, hk => by simp [takeO] at h
  | n + 1, c :: r, m, k, h, hk => by
    simp only [takeO] at h
    cases hr : takeO n r with
    | none => rw [hr] at h; cases h
    | some l => rw [hr] at h; cases h; exact takeO_K n r l _ hr hk

theorem partO_K {T : List (Nat × TE)} {t : Nat} {cs : List LV} {off : Nat} {lv : LV} (h : partO T t cs off = some lv) : partK T t cs off (· = lv) := by
  unfold partO at h
  unfold partK
  cases hq : tyq T t with
  | none => rw [hq] at h; cases h
  | some e =>
    rw [hq] at h
    simp only at h ⊢
    cases ha : e.u.isAgg with
    | true =>
      rw [ha] at h
      simp only at h ⊢
      cases ht : takeO e.size (dropN off cs) with
      | none => rw [ht] at h; cases h
      | some l => rw [ht] at h; cases h; exact takeO_K _ _ l _ ht rfl
    | false =>
      rw [ha] at h
      simp only at h ⊢
      cases hd : dropN off cs with
      | nil => rw [hd] at h; cases h
      | cons c r => rw [hd] at h; cases h; rfl

def eqFs (T : List (Nat × TE)) (rec : Nat → LV → LV → Option Bool) (xs ys : List LV) : List (Nat × Nat × Bool) → Option Bool
  | [] => some true
  | (off, ty, c) :: r => match c with
    | true => match partO T ty xs off, partO T ty ys off with
      | some x, some y => match rec ty x y, eqFs T rec xs ys r with
          | some a, some b => some (a && b)
          | _, _ => none
      | _, _ => none
    | false => eqFs T rec xs ys r

def eqIs (T : List (Nat × TE)) (rec : LV → LV → Option Bool) (el sz : Nat) (xs ys : List LV) : List Nat → Option Bool
  | [] => some true
  | i :: r => match partO T el xs (i * sz), partO T el ys (i * sz) with
    | some x, some y => match rec x y, eqIs T rec el sz xs ys r with
      | some a, some b => some (a && b)
      | _, _ => none
    | _, _ => none

def eqL (T : List (Nat × TE)) : Nat → Nat → LV → LV → Option Bool
  | 0, _, _, _ => none
  | d + 1, t, x, y => match tyq T t with
    | some e => match e.u with
      | .bool => match x, y with
        | .bool a, .bool b => some (a == b)
        | _, _ => none
      | .int _ => match x, y with
        | .int k a, .int k' b => if k = k' then some (decide (a = b)) else none
        | _, _ => none
      | .str => match x, y with
        | .str a, .str b => some (a == b)
        | _, _ => none
      | .struct fs => match x, y with
        | .agg xs, .agg ys => eqFs T (eqL T d) xs ys fs
        | _, _ => none
      | .arr n el => match x, y with
        | .agg xs, .agg ys => match tyq T el with
          | some e' => eqIs T (eqL T d el) el e'.size xs ys (List.range n)
          | none => none
        | _, _ => none
      | _ => none
    | none => none

theorem eqL_run {P : Program} {T : List (Nat × TE)} {E : Env} {w : World} (hT : TOk P T) : ∀ (d t : Nat) (x y : LV) (r : Bool) (u v : Value), eqL T d t x y = some r → G E w x u → G E w y v →
    ∀ d', d ≤ d' → (Op.equalIn d' t u v).run P w = .ok r w := by
  intro d
  induction d with
  | zero => intro t x y r u v h; simp [eqL] at h
  | succ d ih =>
    intro t x y r u v h hu hv d' hd'
    obtain ⟨d', rfl⟩ : ∃ m, d' = m + 1 := ⟨d' - 1, by omega⟩
    simp only [eqL] at h
    cases hq : tyq T t with
    | none => rw [hq] at h; cases h
    | some e =>
      rw [hq] at h
      have he := hT t e hq
      obtain ⟨ds, hd, hof⟩ := he.desc
      simp only at h
      split at h
      · rename_i heu
        rw [heu] at hof
        have := TI.of_bool hof; subst this
        split at h
        · cases hu; cases hv
          simp only [Option.some.injEq] at h; subst h
          exact run_equalIn_bool w d' t _ _ hd
        · cases h
      · rename_i k heu
        rw [heu] at hof
        have := TI.of_int hof; subst this
        split at h
        · rename_i k1 a k2 b
          cases hu; cases hv
          split at h
          · rename_i hk
            subst hk
            simp only [Option.some.injEq] at h; subst h
            rw [run_equalIn_int w d' t _ _ _ _ hd]
            rfl
          · cases h
        · cases h
      · rename_i heu
        rw [heu] at hof
        have := TI.of_str hof; subst this
        split at h
        · cases hu; cases hv
          simp only [Option.some.injEq] at h; subst h
          rw [run_equalIn_string w d' t _ _ hd, beq_toListBytes]
        · cases h
      · rename_i fs heu
        rw [heu] at hof
        obtain ⟨gs, rfl, hgs⟩ := TI.of_struct hof
        split at h
        · rename_i xs ys
          cases hu with
          | agg _ ax hlx h1x hgx =>
          cases hv with
          | agg _ ay hly h1y hgy =>
          have hf : P.fieldsOf t = gs := by simp [Program.fieldsOf, hd]
          rw [run_equalIn_struct w d' t ax ay (by rw [hf]; exact hd) he.held, hf]
          clear hd hof heu hq
          revert r
          rw [← hgs]
          generalize gs.toList = gl
          induction gl with
          | nil => intro r h; simp [eqFs] at h; subst h; simp [Op.eqFields]
          | cons f fl ihf =>
            intro r h
            simp only [List.map_cons, eqFs] at h
            split at h
            · rename_i hc
              have hn : f.name ≠ "_" := by simpa using hc
              split at h
              · rename_i x y hx hy
                split at h
                · rename_i a b ha hb
                  simp only [Option.some.injEq] at h; subst h
                  obtain ⟨_, rfl, p, hp, gp⟩ := partK_part hT (partO_K hx) hlx h1x hgx
                  obtain ⟨_, rfl, q, hq, gq⟩ := partK_part hT (partO_K hy) hly h1y hgy
                  have hr := ih f.type _ _ a p q ha gp gq d' (by omega)
                  simp only [Op.eqFields, if_pos hn, Sem.run_bind, hp, hq, hr, Result.andThen_ok]
                  cases a
                  · simp
                  · simpa using ihf b hb
                · cases h
              · cases h
            · rename_i hc
              have hn : ¬ f.name ≠ "_" := by simpa using hc
              simp only [Op.eqFields, if_neg hn]
              exact ihf r h
        · cases h
      · rename_i n el heu
        rw [heu] at hof
        have := TI.of_arr hof; subst this
        split at h
        · rename_i xs ys
          cases hu with
          | agg _ ax hlx h1x hgx =>
          cases hv with
          | agg _ ay hly h1y hgy =>
          split at h
          · rename_i e' he'
            obtain ⟨info, hi, hiz, his, hib⟩ := (hT _ _ he').inf
            have hsz : P.cellsOf el = e'.size := by simp [Program.cellsOf, hi, his]
            rw [run_equalIn_array w d' ax ay hd hi, hsz]
            revert r
            generalize List.range n = is
            induction is with
            | nil => intro r h; simp [eqIs] at h; subst h; simp [Op.eqItems]
            | cons i is ihf =>
              intro r h
              simp only [eqIs] at h
              split at h
              · rename_i x y hx hy
                split at h
                · rename_i a b ha hb
                  simp only [Option.some.injEq] at h; subst h
                  obtain ⟨_, rfl, p, hp, gp⟩ := partK_part hT (partO_K hx) hlx h1x hgx
                  obtain ⟨_, rfl, q, hq, gq⟩ := partK_part hT (partO_K hy) hly h1y hgy
                  have hr := ih el _ _ a p q ha gp gq d' (by omega)
                  simp only [Op.eqItems, Sem.run_bind, hp, hq, hr, Result.andThen_ok]
                  cases a
                  · simp
                  · simpa using ihf b hb
                · cases h
              · cases h
          · cases h
        · cases h
      · cases h

end Go.RX
