/- RX, part a: logical values, and how they stand to the machine's values and worlds. No program in sight. -/
import Derived.WalkKit
import Derived.Laws.StructEq
set_option linter.unusedVariables false
namespace Go.RX

inductive LV where
 | any
 | und
 | bool (b : Bool)
 | int (k : IntKind) (n : Int)
 | str (s : ByteArray)
 | agg (cs : List LV)
 | tup (vs : List LV)
 | nilp
 | ptr (x i o : Nat)
 | rptr (cs : List LV)
 | sl (x off len : Nat)
 | ro (sz : Nat) (xs : List (List LV))
 | nils
 | map (x : Nat)
 | nilm
 | func (fn : Fn) (first captured : List LV)
 | nilf
 | iface (t : TypeId) (v : LV)
 | nili
 | ite (c : Bool) (a b : LV)

mutual
def NL : LV → Prop
 | .ptr _ _ _ | .sl _ _ _ | .map _ => False
 | .agg cs => NLs cs
 | .tup vs => NLs vs
 | .func _ a b => NLs a ∧ NLs b
 | .iface _ v => NL v
 | .ite _ a b => NL a ∧ NL b
 | _ => True
def NLs : List LV → Prop
 | [] => True
 | x :: r => NL x ∧ NLs r
end

theorem NLs.get : ∀ {l : List LV} {i : Nat} {x : LV}, NLs l → l[i]? = some x → NL x
 | [], i, x, _, h => by simp at h
 | a :: r, 0, x, hn, h => by simp at h; subst h; simp only [NLs] at hn; exact hn.1
 | a :: r, i + 1, x, hn, h => by simp only [NLs] at hn; exact NLs.get hn.2 (by simpa using h)

inductive Blk where
 | row (e sz : Nat) (es : List (List LV))
 | mp (es : List (LV × LV))

structure Heap where
 nx : Nat
 live : List (Nat × Blk)

structure Env where
 nx : Nat
 φ : Nat → Option (Option Nat × Nat)
 ok : Nat → Prop

inductive G (E : Env) (w : World) : LV → Value → Prop where
 | any (v : Value) : G E w .any v
 | und : G E w .und undef
 | bool (b : Bool) : G E w (.bool b) (.bool b)
 | int (k : IntKind) (n : Int) : G E w (.int k n) (.int k n)
 | str (s : ByteArray) : G E w (.str s) (.string s)
 | agg (cs : List LV) (arr : Array Value) (hl : arr.size = cs.length) (h1 : ∀ i, i < arr.size → (arr.getD i undef).oneCell' = true)
   (h : ∀ i x, cs[i]? = some x → G E w x (arr.getD i undef)) : G E w (.agg cs) (.agg arr)
 | tup (vs : List LV) (arr : Array Value) (hl : arr.size = vs.length) (h : ∀ i x, vs[i]? = some x → G E w x (arr.getD i undef)) : G E w (.tup vs) (.tuple arr)
 | nilp : G E w .nilp (.pointer none)
 | ptrDead (x i o : Nat) (v : Value) (h : E.φ x = none) (hx : x < E.nx) : G E w (.ptr x i o) v
 | ptr (x i o k sz : Nat) (h : E.φ x = some (some k, sz)) : G E w (.ptr x i o) (.pointer (some ⟨k, i * sz + o, none⟩))
 | rptr (cs : List LV) (b off : Nat) (f : Nat → Value) (hok : E.ok b) (hb : b < w.heap.size)
   (hn : ∀ (j : Nat) (x : LV), cs[j]? = some x → NL x) (hc : ∀ j x, cs[j]? = some x → w.cell? ⟨b, off + j, none⟩ = some (f j)) (h1 : ∀ j, (f j).oneCell' = true)
   (h : ∀ j x, cs[j]? = some x → G E w x (f j)) : G E w (.rptr cs) (.pointer (some ⟨b, off, none⟩))
 | slDead (x off len : Nat) (v : Value) (h : E.φ x = none) (hx : x < E.nx) : G E w (.sl x off len) v
 | sl (x off len cap k sz : Nat) (arr : Array Value) (t : TypeId) (fr : Nat × Nat) (h : E.φ x = some (some k, sz)) (hlc : len ≤ cap) (hcm : cap ≤ maxLen)
   (hk : w.heap[k]? = some (.cells arr t fr)) (hcap : (off + cap) * sz ≤ arr.size) : G E w (.sl x off len) (.slice (some ⟨k, off * sz, none⟩) len cap)
 | slV (x sz : Nat) (h : E.φ x = some (none, sz)) : G E w (.sl x 0 0) (.slice none 0 0)
 | roNil (sz : Nat) : G E w (.ro sz []) (.slice none 0 0)
 | roZ (sz : Nat) (a : Addr) : G E w (.ro sz []) (.slice (some a) 0 0)
 | ro (sz : Nat) (xs : List (List LV)) (b off cap : Nat) (f : Nat → Nat → Value) (hok : E.ok b) (hb : b < w.heap.size) (hcap : xs.length ≤ cap)
   (hsz : ∀ (i : Nat) (cs : List LV), xs[i]? = some cs → cs.length = sz)
   (hn : ∀ (i : Nat) (cs : List LV) (j : Nat) (x : LV), xs[i]? = some cs → cs[j]? = some x → NL x) (hc : ∀ i j, i < xs.length → j < sz → w.cell? ⟨b, off + i * sz + j, none⟩ = some (f i j)) (h1 : ∀ i j, (f i j).oneCell' = true)
   (h : ∀ i cs j x, xs[i]? = some cs → cs[j]? = some x → G E w x (f i j)) : G E w (.ro sz xs) (.slice (some ⟨b, off, none⟩) xs.length cap)
 | nils : G E w .nils (.slice none 0 0)
 | mapDead (x : Nat) (v : Value) (h : E.φ x = none) (hx : x < E.nx) : G E w (.map x) v
 | map (x k sz : Nat) (h : E.φ x = some (some k, sz)) : G E w (.map x) (.map (some k))
 | nilm : G E w .nilm (.map none)
 | func (fn : Fn) (a b : List LV) (c d : Array Value) (hc : c.size = a.length) (hd : d.size = b.length) (ha : ∀ i x, a[i]? = some x → G E w x (c.getD i undef))
   (hb : ∀ i x, b[i]? = some x → G E w x (d.getD i undef)) : G E w (.func fn a b) (.func fn c d)
 | nilf : G E w .nilf .nilFunc
 | iface (t : TypeId) (x : LV) (v : Value) (h : G E w x v) : G E w (.iface t x) (.iface t v)
 | nili : G E w .nili .nilIface
 | iteT (a b : LV) (v : Value) (h : G E w a v) : G E w (.ite true a b) v
 | iteF (a b : LV) (v : Value) (h : G E w b v) : G E w (.ite false a b) v

def look : List (Nat × Blk) → Nat → Option Blk
 | [], _ => none
 | (j, v) :: r, i => match Nat.beq i j with
  | true => some v
  | false => look r i

structure RelH (E : Env) (H : Heap) (w : World) : Prop where
 nx : E.nx = H.nx
 row : ∀ x e sz es, look H.live x = some (.row e sz es) → (E.φ x = some (none, sz) ∧ es = []) ∨ ∃ k arr, E.φ x = some (some k, sz) ∧ w.heap[k]? = some (.cells arr e (0, 0)) ∧ es.length * sz ≤ arr.size ∧
  (∀ i, i < es.length * sz → (arr.getD i undef).oneCell' = true) ∧
  ∀ (i : Nat) (cs : List LV), es[i]? = some cs → cs.length = sz ∧ ∀ j y, cs[j]? = some y → G E w y (arr.getD (i * sz + j) undef)
 mp : ∀ x es, look H.live x = some (.mp es) → ∃ k entries clock, E.φ x = some (some k, 0) ∧ w.heap[k]? = some (.map entries clock) ∧ entries.size = es.length ∧
  (∀ (i : Nat) (e : MapEntry), entries[i]? = some e → e.born = i) ∧ clock = entries.size ∧
  ∀ (i : Nat) (p : LV × LV), es[i]? = some p → ∃ e : MapEntry, entries[i]? = some e ∧ G E w p.1 e.key ∧ G E w p.2 e.val
 none : ∀ x, look H.live x = none → E.φ x = none
 lt : ∀ x b, look H.live x = some b → x < H.nx
 inj : ∀ x y k s s', E.φ x = some (some k, s) → E.φ y = some (some k, s') → x = y
 nok : ∀ x k s, E.φ x = some (some k, s) → ¬ E.ok k ∧ k < w.heap.size
 okl : ∀ b, E.ok b → b < w.heap.size

structure Ext (E : Env) (w : World) (E' : Env) (w' : World) : Prop where
 nx : E.nx ≤ E'.nx
 size : w.heap.size ≤ w'.heap.size
 keep : ∀ k, k < w.heap.size → (∀ x s, E.φ x ≠ some (some k, s)) → w'.heap[k]? = w.heap[k]?
 cells : ∀ (k : Nat) (arr : Array Value) (t : TypeId) (fr : Nat × Nat), w.heap[k]? = some (Obj.cells arr t fr) → ∃ (arr' : Array Value) (fr' : Nat × Nat), w'.heap[k]? = some (Obj.cells arr' t fr') ∧ arr'.size = arr.size
 old : ∀ x, x < E.nx → E'.φ x = none ∨ E'.φ x = E.φ x
 ok : ∀ b, E.ok b → E'.ok b
 okNew : ∀ b, E'.ok b → E.ok b ∨ w.heap.size ≤ b ∨ ∃ x s, E.φ x = some (some b, s)
 fresh : ∀ x k s, E.nx ≤ x → E'.φ x = some (some k, s) → w.heap.size ≤ k ∨ ∃ y s', E.φ y = some (some k, s')
 os : w'.os = w.os
 output : w'.output = w.output
 tape : w'.tape = w.tape

theorem Ext.refl (E : Env) (w : World) : Ext E w E w :=
 ⟨Nat.le_refl _, Nat.le_refl _, fun _ _ _ => rfl, fun _ arr _ fr h => ⟨arr, fr, h, rfl⟩, fun _ _ => .inr rfl, fun _ h => h, fun _ h => .inl h, fun x k s hx h => .inr ⟨x, s, h⟩, rfl, rfl, rfl⟩

theorem Ext.trans {E E' E'' : Env} {w w' w'' : World} (h : Ext E w E' w') (h' : Ext E' w' E'' w'') : Ext E w E'' w'' := by
 have live : ∀ k s x, E'.φ x = some (some k, s) → (w.heap.size ≤ k) ∨ ∃ y s', E.φ y = some (some k, s') := by
  intro k s x hx
  rcases Nat.lt_or_ge x E.nx with hlt | hge
  ·rcases h.old x hlt with h1 | h1
   ·rw [h1] at hx; cases hx
   ·exact .inr ⟨x, s, h1 ▸ hx⟩
  ·exact h.fresh x k s hge hx
 refine ⟨Nat.le_trans h.nx h'.nx, Nat.le_trans h.size h'.size, ?_, ?_, ?_, fun b hb => h'.ok b (h.ok b hb), ?_, ?_, h'.os.trans h.os, h'.output.trans h.output, h'.tape.trans h.tape⟩
 ·intro k hk hn
  rw [h'.keep k (Nat.lt_of_lt_of_le hk h.size), h.keep k hk hn]
  intro x s hx
  rcases live k s x hx with h1 | ⟨y, s', h1⟩
  ·omega
  ·exact hn y s' h1
 ·intro k arr t fr hk
  obtain ⟨a1, f1, h1, e1⟩ := h.cells k arr t fr hk
  obtain ⟨a2, f2, h2, e2⟩ := h'.cells k a1 t f1 h1
  exact ⟨a2, f2, h2, e2.trans e1⟩
 ·intro x hx
  rcases h'.old x (Nat.lt_of_lt_of_le hx h.nx) with h1 | h1
  ·exact .inl h1
  ·rw [h1]; exact h.old x hx
 ·intro b hb
  rcases h'.okNew b hb with h1 | h1 | ⟨x, s, h1⟩
  ·exact h.okNew b h1
  ·exact .inr (.inl (Nat.le_trans h.size h1))
  ·exact .inr (live b s x h1)
 ·intro x k s hx hxs
  rcases Nat.lt_or_ge x E'.nx with hlt | hge
  ·rcases h'.old x hlt with h1 | h1
   ·rw [h1] at hxs; cases hxs
   ·exact live k s x (h1 ▸ hxs)
  ·rcases h'.fresh x k s hge hxs with h1 | ⟨y, s', h1⟩
   ·exact .inl (Nat.le_trans h.size h1)
   ·exact live k s' y h1

theorem cell_of_heap {w w' : World} {b o : Nat} (h : w'.heap[b]? = w.heap[b]?) : w'.cell? ⟨b, o, none⟩ = w.cell? ⟨b, o, none⟩ := by simp [World.cell?, h]

theorem G.mono {E E' : Env} {w w' : World} (hx : Ext E w E' w') (hl : ∀ x k s, E.φ x = some (some k, s) → ¬ E.ok k) (hn : ∀ x q, E.φ x = some q → x < E.nx) {l : LV} {v : Value} (h : G E w l v) : G E' w' l v := by
 have dead : ∀ x, x < E.nx → E.φ x = none → E'.φ x = none := fun x hlt hd => by
  rcases hx.old x hlt with h1 | h1
  ·exact h1
  ·rw [h1, hd]
 have keep : ∀ b, E.ok b → b < w.heap.size → w'.heap[b]? = w.heap[b]? := fun b hb hs => hx.keep b hs (fun x s hxs => hl x b s hxs hb)
 induction h with
 | any v => exact .any v
 | und => exact .und
 | bool b => exact .bool b
 | int k n => exact .int k n
 | str s => exact .str s
 | agg cs arr hl h1 _ ih => exact .agg cs arr hl h1 ih
 | tup vs arr hl _ ih => exact .tup vs arr hl ih
 | nilp => exact .nilp
 | ptrDead x i o v h hx' => exact .ptrDead x i o v (dead x hx' h) (Nat.lt_of_lt_of_le hx' hx.nx)
 | ptr x i o k sz h =>
  have hlt := hn x _ h
  rcases hx.old x hlt with h1 | h1
  ·exact .ptrDead x i o _ h1 (Nat.lt_of_lt_of_le hlt hx.nx)
  ·exact .ptr x i o k sz (h1.trans h)
 | rptr cs b off f hok hb hn2 hc h1 _ ih =>
  exact .rptr cs b off f (hx.ok b hok) (Nat.lt_of_lt_of_le hb hx.size) hn2 (fun j x hj => (cell_of_heap (keep b hok hb)).trans (hc j x hj)) h1 ih
 | slDead x off len v h hx' => exact .slDead x off len v (dead x hx' h) (Nat.lt_of_lt_of_le hx' hx.nx)
 | sl x off len cap k sz arr t fr h hlc hcm hk hcap =>
  have hlt := hn x _ h
  rcases hx.old x hlt with h1 | h1
  ·exact .slDead x off len _ h1 (Nat.lt_of_lt_of_le hlt hx.nx)
  ·obtain ⟨arr', fr', h2, h3⟩ := hx.cells k arr t fr hk
   exact .sl x off len cap k sz arr' t fr' (h1.trans h) hlc hcm h2 (by rw [h3]; exact hcap)
 | slV x sz h =>
  have hlt := hn x _ h
  rcases hx.old x hlt with h1 | h1
  ·exact .slDead x 0 0 _ h1 (Nat.lt_of_lt_of_le hlt hx.nx)
  ·exact .slV x sz (h1.trans h)
 | roNil sz => exact .roNil sz
 | roZ sz a => exact .roZ sz a
 | ro sz xs b off cap f hok hb hcap hsz hn2 hc h1 _ ih =>
  exact .ro sz xs b off cap f (hx.ok b hok) (Nat.lt_of_lt_of_le hb hx.size) hcap hsz hn2 (fun i j hi hj => (cell_of_heap (keep b hok hb)).trans (hc i j hi hj)) h1 ih
 | nils => exact .nils
 | mapDead x v h hx' => exact .mapDead x v (dead x hx' h) (Nat.lt_of_lt_of_le hx' hx.nx)
 | map x k sz h =>
  have hlt := hn x _ h
  rcases hx.old x hlt with h1 | h1
  ·exact .mapDead x _ h1 (Nat.lt_of_lt_of_le hlt hx.nx)
  ·exact .map x k sz (h1.trans h)
 | nilm => exact .nilm
 | func fn a b c d hc hd _ _ ih1 ih2 => exact .func fn a b c d hc hd ih1 ih2
 | nilf => exact .nilf
 | iface t x v _ ih => exact .iface t x v ih
 | nili => exact .nili
 | iteT a b v _ ih => exact .iteT a b v ih
 | iteF a b v _ ih => exact .iteF a b v ih

theorem RelH.name {E : Env} {H : Heap} {w : World} (h : RelH E H w) : ∀ x q, E.φ x = some q → x < E.nx := by
 intro x q hx
 cases hl : look H.live x with
 | none => rw [h.none x hl] at hx; cases hx
 | some b => rw [h.nx]; exact h.lt x b hl

theorem G.ext {E E' : Env} {H : Heap} {w w' : World} (hr : RelH E H w) (hx : Ext E w E' w') {l : LV} {v : Value} (h : G E w l v) : G E' w' l v :=
 h.mono hx (fun x k s hs => (hr.nok x k s hs).1) hr.name

end Go.RX
