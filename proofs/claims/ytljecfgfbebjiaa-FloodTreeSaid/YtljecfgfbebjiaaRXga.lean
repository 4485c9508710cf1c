/- RX, part ga: keys of maps, and what a look at a map answers. -/
import Derived.Test.YtljecfgfbebjiaaRXg
import Derived.MapKept
set_option linter.unusedVariables false
namespace Go.RX

theorem bytes_refl (s : ByteArray) : (s == s) = true := by rw [beq_toListBytes]; simp

mutual
def pur : LV → Nat → Bool
 | .bool _, _ => true
 | .int _ _, _ => true
 | .str _, _ => true
 | .agg cs, n => match n with
  | 0 => false
  | n + 1 => purs cs n
 | _, _ => false
def purs : List LV → Nat → Bool
 | [], _ => true
 | x :: r, n => match pur x n with
  | true => purs r n
  | false => false
end

theorem purs_get : ∀ {l : List LV} {n i : Nat} {x : LV}, purs l n = true → l[i]? = some x → pur x n = true
 | [], n, i, x, _, h => by simp at h
 | a :: r, n, 0, x, hp, h => by
  simp at h; subst h
  simp only [purs] at hp
  split at hp
  ·assumption
  ·cases hp
 | a :: r, n, i + 1, x, hp, h => by
  simp only [purs] at hp
  split at hp
  ·exact purs_get hp (by simpa using h)
  ·cases hp

theorem pur_det {E : Env} {w : World} : ∀ (n : Nat) {x : LV} {u v : Value}, pur x n = true → G E w x u → G E w x v → u = v := by
 intro n
 induction n with
 | zero =>
  intro x u v hp hu hv
  cases x <;> simp only [pur] at hp <;> first | (cases hp; done) | (cases hu; cases hv; rfl)
 | succ n ih =>
  intro x u v hp hu hv
  cases x with
  | agg cs =>
   simp only [pur] at hp
   cases hu with
   | agg _ a hla h1a ha =>
   cases hv with
   | agg _ b hlb h1b hb =>
   congr 1
   refine Array.ext (by rw [hla, hlb]) fun i h1 h2 => ?_
   have hi : i < cs.length := by omega
   have hx : cs[i]? = some cs[i] := List.getElem?_eq_getElem hi
   have := ih (purs_get hp hx) (ha i _ hx) (hb i _ hx)
   simpa [Array.getD, h1, h2] using this
  | _ => simp only [pur] at hp <;> first | (cases hp; done) | (cases hu; cases hv; rfl)

theorem same_refl {E : Env} {w : World} : ∀ (n : Nat) {x : LV} {u : Value} {m : Nat}, pur x n = true → G E w x u → n ≤ m → Instr.sameBits m u u = true := by
 intro n
 induction n with
 | zero =>
  intro x u m hp hu hm
  cases x <;> simp only [pur] at hp <;> first | (cases hp; done) | (cases hu; simp [Instr.sameBits]; done) | (cases hu; unfold Instr.sameBits; exact bytes_refl _)
 | succ n ih =>
  intro x u m hp hu hm
  cases x with
  | agg cs =>
   simp only [pur] at hp
   cases hu with
   | agg _ a hla h1a ha =>
   obtain ⟨m, rfl⟩ : ∃ k, m = k + 1 := ⟨m - 1, by omega⟩
   simp only [Instr.sameBits, beq_self_eq_true, Bool.true_and, List.all_eq_true]
   intro p hp2
   obtain ⟨i, hi, he⟩ := List.getElem_of_mem hp2
   simp only [List.length_zip, Array.length_toList, Nat.min_self] at hi
   rw [List.getElem_zip] at he
   subst he
   simp only [Array.getElem_toList]
   have hic : i < cs.length := by omega
   have hx : cs[i]? = some cs[i] := List.getElem?_eq_getElem hic
   have hg := ha i _ hx
   have e : a.getD i undef = a[i] := by simp [Array.getD, hi]
   rw [e] at hg
   exact ih (purs_get hp hx) hg (by omega)
  | _ => simp only [pur] at hp <;> first | (cases hp; done) | (cases hu; simp [Instr.sameBits]; done) | (cases hu; unfold Instr.sameBits; exact bytes_refl _)

def keyF (T : List (Nat × TE)) (rec : Nat → LV → Bool) (xs : List LV) : List (Nat × Nat × Bool) → Bool
 | [] => true
 | (off, ty, c) :: r => match c, partO T ty xs off with
  | true, some y => match rec ty y with
   | true => keyF T rec xs r
   | false => false
  | _, _ => false

def keyS (T : List (Nat × TE)) : Nat → Nat → LV → Bool
 | 0, _, _ => false
 | d + 1, t, x => match tyq T t with
  | some e => match e.u with
   | .bool => match x with
    | .bool _ => true
    | _ => false
   | .int _ => match x with
    | .int _ _ => true
    | _ => false
   | .str => match x with
    | .str _ => true
    | _ => false
   | .struct fs => match x with
    | .agg xs => keyF T (keyS T d) xs fs
    | _ => false
   | _ => false
  | none => false

theorem keyS_eq {T : List (Nat × TE)} : ∀ (d t : Nat) (x : LV), keyS T d t x = true → eqL T d t x x = some true
 | 0, t, x, h => by simp [keyS] at h
 | d + 1, t, x, h => by
  simp only [keyS] at h
  simp only [eqL]
  split at h
  ·rename_i e he
   rw [he]
   simp only
   split at h
   ·rename_i hu
    rw [hu]
    simp only
    split at h
    ·simp
    ·cases h
   ·rename_i k hu
    rw [hu]
    simp only
    split at h
    ·simp
    ·cases h
   ·rename_i hu
    rw [hu]
    simp only
    split at h
    ·rename_i s
     simp only [bytes_refl]
    ·cases h
   ·rename_i fs hu
    rw [hu]
    simp only
    split at h
    ·rename_i xs
     simp only
     clear hu
     induction fs with
     | nil => rfl
     | cons f r ih =>
      obtain ⟨off, ty, c⟩ := f
      simp only [keyF] at h
      simp only [eqFs]
      split at h
      ·rename_i y hp
       split at h
       ·rename_i hk
        simp only
        rw [hp]
        simp only
        rw [keyS_eq d ty y hk, ih h]
        rfl
       ·cases h
      ·cases h
    ·cases h
   ·cases h
  ·cases h

section
variable {P : Program} {T : List (Nat × TE)}

theorem checkKey_run (hT : TOk P T) {E : Env} {w : World} : ∀ (d t : Nat) (x : LV) (u : Value) (em : Bool) (m : Nat), keyS T d t x = true → G E w x u → d ≤ m → (Instr.checkKey em m t u).run P w = .ok () w
 | 0, t, x, u, em, m, h, _, _ => by simp [keyS] at h
 | d + 1, t, x, u, em, m, h, hu, hm => by
  obtain ⟨m, rfl⟩ : ∃ k, m = k + 1 := ⟨m - 1, by omega⟩
  simp only [keyS] at h
  split at h
  ·rename_i e he
   obtain ⟨ds, hd, hof⟩ := (hT t e he).desc
   rw [Instr.checkKey]
   simp only [Sem.run_bind, run_underlying hd, Result.andThen_ok]
   split at h
   ·rename_i heu
    rw [heu] at hof
    have := TI.of_bool hof; subst this
    rfl
   ·rename_i k heu
    rw [heu] at hof
    have := TI.of_int hof; subst this
    rfl
   ·rename_i heu
    rw [heu] at hof
    have := TI.of_str hof; subst this
    rfl
   ·rename_i fs heu
    rw [heu] at hof
    obtain ⟨gs, rfl, hgs⟩ := TI.of_struct hof
    split at h
    ·rename_i xs
     cases hu with
     | agg _ ax hlx h1x hgx =>
     simp only
     rw [← Array.forIn_toList]
     rw [← hgs] at h
     clear hd hof heu hgs
     generalize gs.toList = gl at h
     induction gl with
     | nil => simp
     | cons f fl ih =>
      simp only [List.map_cons, keyF] at h
      split at h
      ·rename_i y hc hp
       have hn : f.name ≠ "_" := by simpa using hc
       split at h
       ·rename_i hk
        obtain ⟨_, rfl, p, hpart, gp⟩ := partK_part hT (partO_K hp) hlx h1x hgx
        have h2 := checkKey_run hT d f.type _ p em m hk gp (by omega)
        simp only [List.forIn_cons, Sem.run_bind, hn, ne_eq, not_false_eq_true, if_true, Result.andThen_ok, hpart, h2, Sem.run_pure]
        have h3 := ih h
        rw [Sem.run_bind] at h3
        exact h3
       ·cases h
      ·cases h
    ·cases h
   ·cases h
  ·cases h

def Finds (T : List (Nat × TE)) (kt : Nat) (es : List (LV × LV)) (x : LV) : Option (Nat × LV) → Prop
 | none => ∀ (j : Nat) (p : LV × LV), es[j]? = some p → eqL T 8 kt x p.1 = some false
 | some (i, v) => es[i]? = some (x, v) ∧ ∀ (j : Nat) (p : LV × LV), j < i → es[j]? = some p → eqL T 8 kt x p.1 = some false

theorem sameNow_eq {P : Program} {T : List (Nat × TE)} (hT : TOk P T) {E : Env} {w : World} {kt : Nat} {x y : LV} {u v : Value} {b b' : Bool} {ds : TypeDesc} (hd : P.underlying kt = some ds) (h : eqL T 8 kt x y = some b) (hu : G E w x u) (hv : G E w y v)
  (hs : Instr.sameNow ds u v = some b') : b' = b := by
 have hr := eqL_run hT 8 kt x y b u v h hu hv 8 (Nat.le_refl _)
 have : (Op.equalIn 8 kt u v).run P w = .ok b' w := by
  unfold Instr.sameNow at hs
  split at hs
  ·rename_i q k a k' c
   split at hs
   ·rename_i hk
    subst hk
    simp only [Option.some.injEq] at hs; subst hs
    rw [run_equalIn_int w 7 kt _ _ _ _ hd]
   ·cases hs
  ·simp only [Option.some.injEq] at hs; subst hs
   rw [run_equalIn_string w 7 kt _ _ hd, beq_toListBytes]
  ·simp only [Option.some.injEq] at hs; subst hs
   exact run_equalIn_bool w 7 kt _ _ hd
  ·cases hs
 rw [hr] at this
 injection this with h1 h2
 exact h1.symm

def foundV (es : List MapEntry) : Option (Nat × LV) → Option (Nat × Value)
 | none => none
 | some (i, _) => (es[i]?).map fun e => (i, e.val)

theorem findKey_run (hT : TOk P T) {E : Env} {w : World} {kt : Nat} {x : LV} {u : Value} (hk : keyS T 8 kt x = true) (hu : G E w x u) {ls : List (LV × LV)} {es : List MapEntry} (hlen : es.length = ls.length)
  (hG : ∀ (i : Nat) (p : LV × LV) (e : MapEntry), ls[i]? = some p → es[i]? = some e → G E w p.1 e.key ∧ G E w p.2 e.val) {r : Option (Nat × LV)} (hF : Finds T kt ls x r) :
  (Instr.findKey kt u es).run P w = .ok (foundV es r) w := by
 obtain ⟨ds, hd⟩ : ∃ ds, P.underlying kt = some ds := by
  simp only [keyS] at hk
  split at hk
  ·rename_i e he
   obtain ⟨ds, hd, _⟩ := (hT kt e he).desc
   exact ⟨ds, hd⟩
  ·cases hk
 -- what each entry's key is to it
 have eqs : ∀ (i : Nat) (e : MapEntry) (p : LV × LV) (b : Bool), ls[i]? = some p → es[i]? = some e → eqL T 8 kt x p.1 = some b → (Op.equal kt u e.key).run P w = .ok b w ∧ ∀ b', Instr.sameNow ds u e.key = some b' → b' = b := by
  intro i e p b hp he hb
  have hg := (hG i p e hp he).1
  exact ⟨eqL_run hT 8 kt x p.1 b u e.key hb hu hg _ (by decide), fun b' hs => sameNow_eq hT hd hb hu hg hs⟩
 have core : ∀ (n off : Nat) (l : List MapEntry), l.length = n → (∀ j, l[j]? = es[off + j]?) → (∀ i v, r = some (i, v) → off ≤ i) →
   (Instr.findAsking kt u l off).run P w = .ok (foundV es r) w ∧
   (Instr.findNow ds u l off = none ∨ Instr.findNow ds u l off = some (foundV es r)) := by
  intro n
  induction n with
  | zero =>
   intro off l hl hle hr
   have : l = [] := List.eq_nil_of_length_eq_zero hl
   subst this
   have hno : r = none := by
    cases hr2 : r with
    | none => rfl
    | some q =>
     obtain ⟨i, v⟩ := q
     have h1 := hr i v hr2
     rw [hr2] at hF
     have h2 := hle (i - off)
     rw [show off + (i - off) = i by omega] at h2
     have h3 := (List.getElem?_eq_some_iff.1 hF.1).1
     have h4 : es[i]? = none := by rw [← h2]; simp
     rw [List.getElem?_eq_none_iff] at h4
     omega
   subst hno
   exact ⟨by simp [Instr.findAsking, foundV], .inr (by simp [Instr.findNow, foundV])⟩
  | succ n ih =>
   intro off l hl hle hr
   cases l with
   | nil => simp at hl
   | cons e l =>
    have he : es[off]? = some e := by have := hle 0; simpa using this.symm
    have hlt : off < ls.length := by rw [← hlen]; exact (List.getElem?_eq_some_iff.1 he).1
    have hp : ls[off]? = some ls[off] := List.getElem?_eq_getElem hlt
    by_cases hhit : ∃ v, r = some (off, v)
    ·obtain ⟨v, rfl⟩ := hhit
     have hx := hF.1
     rw [hp] at hx
     have hx1 : (ls[off]).1 = x := by rw [Option.some.inj hx]
     have heq := keyS_eq 8 kt x hk
     obtain ⟨h1, h2⟩ := eqs off e _ true hp he (by rw [hx1]; exact heq)
     refine ⟨by simp [Instr.findAsking, h1, he, foundV], ?_⟩
     simp only [Instr.findNow]
     cases hs : Instr.sameNow ds u e.key with
     | none => exact .inl rfl
     | some b' =>
      have := h2 b' hs
      subst this
      exact .inr (by simp [he, foundV])
    ·have hfalse : eqL T 8 kt x (ls[off]).1 = some false := by
      cases r with
      | none => exact hF off _ hp
      | some q =>
       obtain ⟨i, v⟩ := q
       have h1 := hr i v rfl
       have hne : i ≠ off := fun h => hhit ⟨v, by rw [h]⟩
       exact hF.2 off _ (by omega) hp
     obtain ⟨h1, h2⟩ := eqs off e _ false hp he hfalse
     obtain ⟨i1, i2⟩ := ih (off + 1) l (by simpa using hl) (fun j => by
      have := hle (j + 1)
      simpa [Nat.add_assoc, Nat.add_comm 1 j] using this) (fun i v hr2 => by
      have h3 := hr i v hr2
      have hne : i ≠ off := fun h => hhit ⟨v, by rw [hr2, h]⟩
      omega)
     refine ⟨by simp [Instr.findAsking, h1, i1], ?_⟩
     simp only [Instr.findNow]
     cases hs : Instr.sameNow ds u e.key with
     | none => exact .inl rfl
     | some b' =>
      have := h2 b' hs
      subst this
      exact i2
 obtain ⟨h1, h2⟩ := core es.length 0 es rfl (fun j => by simp) (fun i v _ => Nat.zero_le _)
 simp only [Instr.findKey, Sem.run_bind, run_underlying hd, Result.andThen_ok]
 rcases h2 with h2 | h2
 ·rw [h2]; exact h1
 ·rw [h2]; simp

def resM (z : Value) (ok : Bool) : Option (Nat × LV) → LV
 | none => match ok with
  | true => .tup [lvOf z, .bool false]
  | false => lvOf z
 | some (_, v) => match ok with
  | true => .tup [v, .bool true]
  | false => v

def lookK (T : List (Nat × TE)) (H : Heap) (t : Nat) (m x : LV) (ok : Bool) (C : Prop → Prop) (K : LV → Prop) : Prop :=
 match tyq T t with
 | some e => match e.u with
  | .map kt et => match keyS T 8 kt x, tyq T et with
   | true, some e' => match m with
    | .nilm => K (resM e'.zero ok none)
    | .map y => match look H.live y with
     | some (.mp es) => ∃ r, C (Finds T kt es x r) ∧ K (resM e'.zero ok r)
     | _ => False
    | _ => False
   | _, _ => False
  | _ => False
 | none => False

theorem G.pair' {E : Env} {w : World} {a b : LV} {u v : Value} (ha : G E w a u) (hb : G E w b v) : G E w (.tup [a, b]) (.tuple #[u, v]) := by
 refine .tup _ _ rfl fun i x hi => ?_
 match i with
 | 0 => simp at hi; subst hi; exact ha
 | 1 => simp at hi; subst hi; exact hb
 | i + 2 => simp at hi

theorem getObj_map {P : Program} {w : World} {r : Nat} {es : Array MapEntry} {clock : Nat} (hb : w.heap[r]? = some (.map es clock)) : (getObj r).run P w = .ok (.map es clock) w := by
 simp [getObj, Sem.run, hb]

theorem lookK_spec (hT : TOk P T) {gd : Prop} {C : Prop → Prop} (hC : ∀ p, C p → gd → p) {H : Heap} {K : LV → Prop} {t : Nat} {m x : LV} {ok : Bool} (h : lookK T H t m x ok C K) :
  ∃ lv, K lv ∧ (gd → ∀ (E : Env) (w : World) (u v : Value), RelH E H w → G E w m u → G E w x v → Ans P E w (Instr.lookup t u v ok) lv) := by
 unfold lookK at h
 split at h
 ·rename_i e he
  obtain ⟨ds, hd, hof⟩ := (hT t e he).desc
  split at h
  ·rename_i kt et heu
   rw [heu] at hof
   have := TI.of_map hof; subst this
   split at h
   ·rename_i e' hk het
    have hte := hT _ _ het
    have fin : ∀ (E : Env) (w : World) (v : Value) (r : Option (Nat × LV)), (match r with | none => True | some (_, lv) => G E w lv v) → G E w (resM e'.zero ok r) (if ok then .tuple #[(match r with | none => e'.zero | some _ => v), .bool r.isSome] else (match r with | none => e'.zero | some _ => v)) := by
     intro E w v r hr
     cases r with
     | none =>
      cases ok
      ·exact G.lvOf E w _
      ·exact (G.lvOf E w _).pair' (.bool _)
     | some q =>
      obtain ⟨i, lv⟩ := q
      cases ok
      ·exact hr
      ·exact G.pair' hr (.bool _)
    split at h
    ·refine ⟨_, h, fun hg E w u v hr hm hx => ?_⟩
     cases hm
     have hc := checkKey_run hT 8 kt x v true 10000 hk hx (by decide)
     refine ⟨_, ?_, fin E w undef none trivial⟩
     obtain ⟨ks, hks⟩ : ∃ ks, P.underlying kt = some ks := by
      have hk2 := hk
      simp only [keyS] at hk2
      split at hk2
      ·rename_i ke hke
       obtain ⟨ks, hks, _⟩ := (hT kt ke hke).desc
       exact ⟨ks, hks⟩
      ·cases hk2
     simp [Instr.lookup, run_underlying hd, hc, run_zero hte, Instr.findKey, run_underlying hks, Instr.findNow]
    ·rename_i y
     split at h
     ·rename_i es hl
      obtain ⟨r, hF, hK⟩ := h
      refine ⟨_, hK, fun hg E w u v hr hm hx => ?_⟩
      have hF := hC _ hF hg
      obtain ⟨k, en, cl, h1, h2, h3, h4, h5, h6⟩ := hr.mp y es hl
      have hu : u = .map (some k) := by
       cases hm with
       | mapDead _ _ hφ _ => rw [h1] at hφ; cases hφ
       | map _ k' sz hφ => rw [h1] at hφ; cases hφ; rfl
      subst hu
      have hc := checkKey_run hT 8 kt x v en.isEmpty 10000 hk hx (by decide)
      have hf := findKey_run (es := en.toList) hT hk hx (by simp [h3]) (fun i p e hp hep => by
       obtain ⟨e2, h7, h8, h9⟩ := h6 i p hp
       have : en[i]? = some e := by simpa using hep
       rw [h7] at this; cases this
       exact ⟨h8, h9⟩) hF
      cases r with
      | none =>
       refine ⟨_, ?_, fin E w undef none trivial⟩
       simp [Instr.lookup, run_underlying hd, getObj_map h2, hc, hf, run_zero hte, foundV]
      | some q =>
       obtain ⟨i, lv⟩ := q
       obtain ⟨e2, h7, h8, h9⟩ := h6 i _ hF.1
       have h7' : en.toList[i]? = some e2 := by simpa using h7
       refine ⟨_, ?_, fin E w e2.val (some (i, lv)) h9⟩
       have hfv : foundV en.toList (some (i, lv)) = some (i, e2.val) := by simp only [foundV, h7', Option.map_some]
       rw [hfv] at hf
       simp [Instr.lookup, run_underlying hd, getObj_map h2, hc, hf]
     ·exact h.elim
    ·exact h.elim
   ·exact h.elim
  ·exact h.elim
 ·exact h.elim
end
end Go.RX
