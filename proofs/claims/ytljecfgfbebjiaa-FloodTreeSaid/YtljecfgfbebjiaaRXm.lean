/- RX, part m: rows that are given away; regions in the text's order; code. -/
import Derived.Test.YtljecfgfbebjiaaRXlb
set_option linter.unusedVariables false
namespace Go.RX

section
variable {P : Program} {T : List (Nat × TE)}

def ptrAs (es : List (List LV)) (i o : Nat) : LV := match nth es i with
 | some cs => .rptr (dropN o cs)
 | none => .any

theorem relH_freeze {E : Env} {H : Heap} {w : World} (hr : RelH E H w) {y e sz : Nat} {es : List (List LV)} (hl : look H.live y = some (.row e sz es)) (hnl : ∀ cs ∈ es, ∀ x ∈ cs, NL x) :
  ∃ E', RelH E' ⟨H.nx, rm y H.live⟩ w ∧ Ext E w E' w ∧ (∀ v, G E w (.sl y 0 es.length) v → G E' w (.ro sz es) v) ∧ ∀ i o v, G E w (.ptr y i o) v → G E' w (ptrAs es i o) v := by
 let E' : Env := ⟨E.nx, fun z => if z = y then none else E.φ z, fun b => E.ok b ∨ ∃ s, E.φ y = some (some b, s)⟩
 have hφ : ∀ z q, E'.φ z = some q → z ≠ y ∧ E.φ z = some q := by
  intro z q h
  simp only [E'] at h
  split at h
  ·cases h
  ·exact ⟨by assumption, h⟩
 have hφo : ∀ z, z ≠ y → E'.φ z = E.φ z := fun z h => by simp [E', h]
 have hext : Ext E w E' w := by
  refine ⟨Nat.le_refl _, Nat.le_refl _, fun _ _ _ => rfl, fun _ a t fr h => ⟨a, fr, h, rfl⟩, ?_, fun b hb => .inl hb, ?_, ?_, rfl, rfl, rfl⟩
  ·intro z hz
   by_cases hzy : z = y
   ·exact .inl (by simp [E', hzy])
   ·exact .inr (hφo z hzy)
  ·rintro b (hb | ⟨s, hb⟩)
   ·exact .inl hb
   ·exact .inr (.inr ⟨y, s, hb⟩)
  ·intro z k s _ hz
   exact .inr ⟨z, s, (hφ z _ hz).2⟩
 have gm : ∀ {l v}, G E w l v → G E' w l v := fun h => h.ext hr hext
 have hlk : ∀ z b, look (rm y H.live) z = some b → z ≠ y ∧ look H.live z = some b := by
  intro z b h
  rw [look_rm] at h
  split at h
  ·cases h
  ·rename_i hne; exact ⟨fun e => hne e.symm, h⟩
 refine ⟨E', ⟨hr.nx, ?_, ?_, ?_, ?_, ?_, ?_, ?_⟩, hext, ?_, ?_⟩
 ·intro z e2 sz2 es2 hz
  obtain ⟨hne, hz⟩ := hlk z _ hz
  rw [hφo z hne]
  rcases hr.row z e2 sz2 es2 hz with h | ⟨k', arr', h2, h3, h4, h5, h6⟩
  ·exact .inl h
  ·exact .inr ⟨k', arr', h2, h3, h4, h5, fun i cs hi => ⟨(h6 i cs hi).1, fun j y hj => gm ((h6 i cs hi).2 j y hj)⟩⟩
 ·intro z es2 hz
  obtain ⟨hne, hz⟩ := hlk z _ hz
  rw [hφo z hne]
  obtain ⟨k', en, cl, h2, h3, h4, h5, h6, h7⟩ := hr.mp z es2 hz
  refine ⟨k', en, cl, h2, h3, h4, h5, h6, fun i p hp => ?_⟩
  obtain ⟨en', h8, h9, h10⟩ := h7 i p hp
  exact ⟨en', h8, gm h9, gm h10⟩
 ·intro z hz
  by_cases hzy : z = y
  ·simp [E', hzy]
  ·rw [hφo z hzy]
   rw [look_rm, if_neg (fun e => hzy e.symm)] at hz
   exact hr.none z hz
 ·intro z b hz
  exact hr.lt z b (hlk z b hz).2
 ·intro x z k s s' hx hz
  exact hr.inj x z k s s' (hφ x _ hx).2 (hφ z _ hz).2
 ·intro z k s hz
  obtain ⟨hne, hz⟩ := hφ z _ hz
  refine ⟨?_, (hr.nok z k s hz).2⟩
  rintro (h | ⟨s', h⟩)
  ·exact (hr.nok z k s hz).1 h
  ·exact hne (hr.inj z y k s s' hz h)
 ·rintro b (h | ⟨s, h⟩)
  ·exact hr.okl b h
  ·exact (hr.nok y b s h).2
 ·intro v hv
  rcases sl_real hr hl hv with ⟨rfl, rfl, _⟩ | ⟨k, arr, cap, rfl, hφ, hh, hlc, hcm, hcap, hle, hone, hg⟩
  ·exact .roNil sz
  ·refine .ro sz es k 0 cap (fun i j => if i < es.length ∧ j < sz then arr.getD (i * sz + j) undef else .bool true) (.inr ⟨sz, hφ⟩) (hr.nok y k sz hφ).2 hlc (fun i cs hi => (hg i cs hi).1)
    (fun i cs j x hi hj => hnl cs (List.mem_of_getElem? hi) x (List.mem_of_getElem? hj)) ?_ ?_ ?_
   ·intro i j hi hj
    have hlt : i * sz + j < es.length * sz := by
     have : (i + 1) * sz ≤ es.length * sz := Nat.mul_le_mul_right _ hi
     rw [Nat.succ_mul] at this; omega
    have hlt2 : i * sz + j < arr.size := by omega
    simp [World.cell?, hh, hi, hj, Array.getD, hlt2]
   ·intro i j
    split
    ·rename_i hc
     refine hone _ ?_
     have : (i + 1) * sz ≤ es.length * sz := Nat.mul_le_mul_right _ hc.1
     rw [Nat.succ_mul] at this; omega
    ·rfl
   ·intro i cs j x hi hj
    have h1 : i < es.length := (List.getElem?_eq_some_iff.1 hi).1
    have h2 : j < sz := by rw [← (hg i cs hi).1]; exact (List.getElem?_eq_some_iff.1 hj).1
    simp only [h1, h2, and_self, if_true]
    exact gm ((hg i cs hi).2 j x hj)
 ·intro i o v hv
  unfold ptrAs
  split
  ·rename_i cs hcs
   rw [nth_eq] at hcs
   have hlt : i < es.length := (List.getElem?_eq_some_iff.1 hcs).1
   rcases hr.row y e sz es hl with ⟨h1, h2⟩ | ⟨k, arr, h1, h2, h3, h4, h5⟩
   ·subst h2; simp at hlt
   ·cases hv with
    | ptrDead _ _ _ _ hd _ => rw [h1] at hd; cases hd
    | ptr _ _ _ k' sz' hp =>
     rw [h1] at hp; cases hp
     obtain ⟨hcl, hg⟩ := h5 i cs hcs
     have hrow : (i + 1) * sz ≤ es.length * sz := Nat.mul_le_mul_right _ hlt
     rw [Nat.succ_mul] at hrow
     refine .rptr _ k (i * sz + o) (fun j => if o + j < sz then arr.getD (i * sz + (o + j)) undef else .bool true) (.inr ⟨sz, h1⟩) (hr.nok y k sz h1).2 (fun j x hj => ?_) (fun j x hj => ?_) (fun j => ?_) (fun j x hj => ?_)
     ·rw [dropN_get] at hj
      exact hnl cs (List.mem_of_getElem? hcs) x (List.mem_of_getElem? hj)
     ·rw [dropN_get] at hj
      have hjl : o + j < sz := by rw [← hcl]; exact (List.getElem?_eq_some_iff.1 hj).1
      have hlt2 : i * sz + (o + j) < arr.size := by omega
      simp [World.cell?, h2, hjl, Array.getD, Nat.add_assoc, hlt2]
     ·split
      ·rename_i hc
       exact h4 _ (by omega)
      ·rfl
     ·rw [dropN_get] at hj
      have hjl : o + j < sz := by rw [← hcl]; exact (List.getElem?_eq_some_iff.1 hj).1
      show G E' w x (if o + j < sz then arr.getD (i * sz + (o + j)) undef else .bool true)
      rw [if_pos hjl]
      exact gm (hg (o + j) x hj)
  ·exact .any v

mutual
def fzV (y sz : Nat) (es : List (List LV)) : LV → LV
 | .sl z off len => match Nat.beq z y with
  | true => match off with
   | 0 => .ro sz es
   | _ + 1 => .any
  | false => .sl z off len
 | .ptr z i o => match Nat.beq z y with
  | true => ptrAs es i o
  | false => .ptr z i o
 | .agg cs => .agg (fzL y sz es cs)
 | .tup cs => .tup (fzL y sz es cs)
 | .iface t v => .iface t (fzV y sz es v)
 | .ite c a b => .ite c (fzV y sz es a) (fzV y sz es b)
 | .func fn a b => .func fn (fzL y sz es a) (fzL y sz es b)
 | v => v
def fzL (y sz : Nat) (es : List (List LV)) : List LV → List LV
 | [] => []
 | x :: r => fzV y sz es x :: fzL y sz es r
end
mutual
def fzC (y n : Nat) : LV → Prop
 | .sl z off len => match Nat.beq z y with
  | true => match off with
   | 0 => len = n
   | _ + 1 => True
  | false => True
 | .agg cs => fzCs y n cs
 | .tup cs => fzCs y n cs
 | .iface t v => fzC y n v
 | .ite c a b => fzC y n a ∧ fzC y n b
 | .func fn a b => fzCs y n a ∧ fzCs y n b
 | v => True
def fzCs (y n : Nat) : List LV → Prop
 | [] => True
 | x :: r => fzC y n x ∧ fzCs y n r
end

theorem fzL_get (y sz : Nat) (es : List (List LV)) : ∀ (l : List LV) (i : Nat), (fzL y sz es l)[i]? = (l[i]?).map (fzV y sz es)
 | [], i => by simp [fzL]
 | a :: r, 0 => by simp [fzL]
 | a :: r, i + 1 => by simp [fzL, fzL_get y sz es r i]
theorem fzL_length (y sz : Nat) (es : List (List LV)) : ∀ (l : List LV), (fzL y sz es l).length = l.length
 | [] => rfl
 | a :: r => by simp [fzL, fzL_length y sz es r]
theorem fzCs_get {y n : Nat} : ∀ {l : List LV} {i : Nat} {x : LV}, fzCs y n l → l[i]? = some x → fzC y n x
 | [], i, x, _, h => by simp at h
 | a :: r, 0, x, hn, h => by simp at h; subst h; simp only [fzCs] at hn; exact hn.1
 | a :: r, i + 1, x, hn, h => by simp only [fzCs] at hn; exact fzCs_get hn.2 (by simpa using h)

theorem fzV_spec {E E' : Env} {H : Heap} {w : World} (hr : RelH E H w) (hx : Ext E w E' w) {y sz : Nat} {es : List (List LV)} (hf : ∀ v, G E w (.sl y 0 es.length) v → G E' w (.ro sz es) v) (hp : ∀ i o v, G E w (.ptr y i o) v → G E' w (ptrAs es i o) v) :
  ∀ {l : LV} {v : Value}, G E w l v → fzC y es.length l → G E' w (fzV y sz es l) v := by
 intro l v h
 have keep : ∀ {l v}, G E w l v → G E' w l v := fun h => h.ext hr hx
 have sl : ∀ (z off len : Nat) (v : Value), G E w (.sl z off len) v → fzC y es.length (.sl z off len) → G E' w (fzV y sz es (.sl z off len)) v := by
  intro z off len v h hc
  simp only [fzV]
  simp only [fzC] at hc
  cases hb : Nat.beq z y with
  | true =>
   have := Nat.eq_of_beq_eq_true hb; subst this
   rw [hb] at hc
   cases off with
   | zero => simp only at hc ⊢; rw [hc] at h; exact hf v h
   | succ n => exact .any v
  | false => exact keep h
 have pt : ∀ (z i o : Nat) (v : Value), G E w (.ptr z i o) v → G E' w (fzV y sz es (.ptr z i o)) v := by
  intro z i o v h
  simp only [fzV]
  cases hb : Nat.beq z y with
  | true =>
   have := Nat.eq_of_beq_eq_true hb; subst this
   exact hp i o v h
  | false => exact keep h
 induction h with
 | agg cs arr hl h1 hg ih =>
  intro hc
  simp only [fzC] at hc
  refine .agg _ arr (by rw [fzL_length]; exact hl) h1 (fun i x hi => ?_)
  rw [fzL_get, Option.map_eq_some_iff] at hi
  obtain ⟨z, hz, rfl⟩ := hi
  exact ih i z hz (fzCs_get hc hz)
 | tup cs arr hl hg ih =>
  intro hc
  simp only [fzC] at hc
  refine .tup _ arr (by rw [fzL_length]; exact hl) (fun i x hi => ?_)
  rw [fzL_get, Option.map_eq_some_iff] at hi
  obtain ⟨z, hz, rfl⟩ := hi
  exact ih i z hz (fzCs_get hc hz)
 | slDead x off len v h hx' => exact fun hc => sl _ _ _ _ (.slDead x off len v h hx') hc
 | sl x off len cap k s arr t fr h hlc hcm hk hcap => exact fun hc => sl _ _ _ _ (.sl x off len cap k s arr t fr h hlc hcm hk hcap) hc
 | slV x s h => exact fun hc => sl _ _ _ _ (.slV x s h) hc
 | func fn a b c d hc hd ha hb ih1 ih2 =>
  intro hcc
  simp only [fzC] at hcc
  refine .func fn _ _ c d (by rw [fzL_length]; exact hc) (by rw [fzL_length]; exact hd) (fun i x hi => ?_) (fun i x hi => ?_)
  ·rw [fzL_get, Option.map_eq_some_iff] at hi
   obtain ⟨z, hz, rfl⟩ := hi
   exact ih1 i z hz (fzCs_get hcc.1 hz)
  ·rw [fzL_get, Option.map_eq_some_iff] at hi
   obtain ⟨z, hz, rfl⟩ := hi
   exact ih2 i z hz (fzCs_get hcc.2 hz)
 | iface t x v h ih => exact fun hc => .iface t _ v (ih (by simpa only [fzC] using hc))
 | iteT a b v h ih => exact fun hc => .iteT _ _ v (ih (by simp only [fzC] at hc; exact hc.1))
 | iteF a b v h ih => exact fun hc => .iteF _ _ v (ih (by simp only [fzC] at hc; exact hc.2))
 | any v => exact fun _ => .any v
 | und => exact fun _ => .und
 | bool b => exact fun _ => .bool b
 | int k n => exact fun _ => .int k n
 | str s => exact fun _ => .str s
 | nilp => exact fun _ => .nilp
 | ptrDead x i o v h hx' => exact fun _ => pt _ _ _ _ (.ptrDead x i o v h hx')
 | ptr x i o k sz h => exact fun _ => pt _ _ _ _ (.ptr x i o k sz h)
 | rptr cs b off f hok hb hn hc h1 hg ih => exact fun _ => keep (.rptr cs b off f hok hb hn hc h1 hg)
 | roNil s => exact fun _ => .roNil s
 | roZ s a => exact fun _ => .roZ s a
 | ro s xs b off cap f hok hb hcap hsz hn hc h1 hg ih => exact fun _ => keep (.ro s xs b off cap f hok hb hcap hsz hn hc h1 hg)
 | nils => exact fun _ => .nils
 | mapDead x v h hx' => exact fun _ => keep (.mapDead x v h hx')
 | map x k sz h => exact fun _ => keep (.map x k sz h)
 | nilm => exact fun _ => .nilm
 | nilf => exact fun _ => .nilf
 | nili => exact fun _ => .nili

def fzS (y sz : Nat) (es : List (List LV)) : Slots → (Slots → Prop) → Prop
 | [], k => k []
 | (t, v) :: r, k => match v with
  | .sl z off len => match Nat.beq z y with
   | true => match off with
    | 0 => len = es.length ∧ fzS y sz es r fun s => k ((t, .ro sz es) :: s)
    | _ + 1 => fzS y sz es r fun s => k ((t, .any) :: s)
   | false => fzS y sz es r fun s => k ((t, .sl z off len) :: s)
  | .ptr z i o => match Nat.beq z y with
   | true => fzS y sz es r fun s => k ((t, ptrAs es i o) :: s)
   | false => fzS y sz es r fun s => k ((t, .ptr z i o) :: s)
  | .agg cs => fzCs y es.length cs ∧ nfL (fzL y sz es cs) fun l => fzS y sz es r fun s => k ((t, .agg l) :: s)
  | .tup cs => fzCs y es.length cs ∧ fzS y sz es r fun s => k ((t, .tup (fzL y sz es cs)) :: s)
  | .iface d x => fzC y es.length x ∧ fzS y sz es r fun s => k ((t, .iface d (fzV y sz es x)) :: s)
  | .ite c a b => (fzC y es.length a ∧ fzC y es.length b) ∧ fzS y sz es r fun s => k ((t, .ite c (fzV y sz es a) (fzV y sz es b)) :: s)
  | .func fn a b => (fzCs y es.length a ∧ fzCs y es.length b) ∧ fzS y sz es r fun s => k ((t, .func fn (fzL y sz es a) (fzL y sz es b)) :: s)
  | v => fzS y sz es r fun s => k ((t, v) :: s)

theorem fzS_spec {y sz : Nat} {es : List (List LV)} : ∀ {s : Slots} {k : Slots → Prop}, fzS y sz es s k → ∃ s', k s' ∧ (∀ t v, get s' t = v → v = .any ∨ ∃ u, get s t = u ∧ fzC y es.length u ∧ v = fzV y sz es u)
 | [], k, h => ⟨[], h, fun t v hv => by simp only [get] at hv; exact .inl hv.symm⟩
 | (t, v) :: r, k, h => by
  have key : ∀ u, fzC y es.length v → (u = fzV y sz es v) → fzS y sz es r (fun s => k ((t, u) :: s)) →
    ∃ s', k s' ∧ (∀ t' v', get s' t' = v' → v' = .any ∨ ∃ u, get ((t, v) :: r) t' = u ∧ fzC y es.length u ∧ v' = fzV y sz es u) := by
   intro u hc hu h
   obtain ⟨s', h1, h2⟩ := fzS_spec h
   refine ⟨_, h1, fun t' v' hv => ?_⟩
   simp only [get] at hv ⊢
   cases hb : Nat.beq t' t with
   | true => rw [hb] at hv; simp only at hv ⊢; exact .inr ⟨v, rfl, hc, by rw [← hv, hu]⟩
   | false => rw [hb] at hv; simp only at hv ⊢; exact h2 t' v' hv
  simp only [fzS] at h
  cases v with
  | sl z off len =>
   simp only at h
   cases hb : Nat.beq z y with
   | true =>
    rw [hb] at h
    cases off with
    | zero => exact key _ (by simp only [fzC, hb]; exact h.1) (by simp [fzV, hb]) h.2
    | succ n => exact key _ (by simp [fzC, hb]) (by simp [fzV, hb]) h
   | false => rw [hb] at h; exact key _ (by simp [fzC, hb]) (by simp [fzV, hb]) h
  | ptr z i o =>
   simp only at h
   cases hb : Nat.beq z y with
   | true => rw [hb] at h; exact key _ (by simp [fzC]) (by simp [fzV, hb]) h
   | false => rw [hb] at h; exact key _ (by simp [fzC]) (by simp [fzV, hb]) h
  | agg cs => exact key (.agg (fzL y sz es cs)) (by simp only [fzC]; exact h.1) (by simp only [fzV]) (by have h2 := h.2; rwa [nfL_eq] at h2)
  | tup cs => exact key _ (by simp only [fzC]; exact h.1) (by simp [fzV]) h.2
  | iface d x => exact key _ (by simp only [fzC]; exact h.1) (by simp [fzV]) h.2
  | ite c a b => exact key _ (by simp only [fzC]; exact h.1) (by simp [fzV]) h.2
  | func fn a b => exact key _ (by simp only [fzC]; exact h.1) (by simp [fzV]) h.2
  | _ => exact key _ (by simp [fzC]) (by simp [fzV]) h

theorem SR.fz {E E' : Env} {H : Heap} {w : World} {n : Nat} {s s' : Slots} {a : Act} (h : SR E w n s a) (hr : RelH E H w) (hx : Ext E w E' w) {y sz : Nat} {es : List (List LV)}
  (hf : ∀ v, G E w (.sl y 0 es.length) v → G E' w (.ro sz es) v) (hp : ∀ i o v, G E w (.ptr y i o) v → G E' w (ptrAs es i o) v) (hs : ∀ t v, get s' t = v → v = .any ∨ ∃ u, get s t = u ∧ fzC y es.length u ∧ v = fzV y sz es u) : SR E' w n s' a :=
 ⟨h.size, h.defers, fun t => by
  rcases hs t _ rfl with h1 | ⟨u, h1, h2, h3⟩
  ·rw [h1]; exact .any _
  ·rw [h3]
   have := h.slot t
   rw [h1] at this
   exact fzV_spec hr hx hf hp this h2⟩

mutual
def slN : LV → List Nat
 | .sl y _ _ => [y]
 | .ptr y _ _ => [y]
 | .agg cs => slNs cs
 | .tup cs => slNs cs
 | .iface _ v => slN v
 | .ite _ a b => slN a ++ slN b
 | .func _ a b => slNs a ++ slNs b
 | _ => []
def slNs : List LV → List Nat
 | [] => []
 | x :: r => slN x ++ slNs r
end

def NLss : List (List LV) → Prop
 | [] => True
 | c :: r => NLs c ∧ NLss r
theorem NLs_iff : ∀ {l : List LV}, NLs l ↔ ∀ x ∈ l, NL x
 | [] => by simp [NLs]
 | x :: r => by simp [NLs, NLs_iff (l := r)]
theorem NLss_iff : ∀ {l : List (List LV)}, NLss l ↔ ∀ cs ∈ l, ∀ x ∈ cs, NL x
 | [] => by simp [NLss]
 | x :: r => by simp [NLss, NLss_iff (l := r), NLs_iff]

def frz : List Nat → Slots → Heap → (Slots → Heap → Prop) → Prop
 | [], s, H, k => k s H
 | y :: r, s, H, k => match look H.live y with
  | some (.row _ sz es) => NLss es ∧ fzS y sz es s fun s' => frz r s' ⟨H.nx, rm y H.live⟩ k
  | _ => frz r s H k

theorem frz_spec {k : Slots → Heap → Prop} : ∀ {l : List Nat} {s : Slots} {H : Heap}, frz l s H k → ∃ s' H', k s' H' ∧ ∀ (E : Env) (w : World) (n : Nat) (a : Act), RelH E H w → SR E w n s a →
  ∃ E', RelH E' H' w ∧ SR E' w n s' a ∧ Ext E w E' w
 | [], s, H, h => ⟨s, H, h, fun E w n a hr hs => ⟨E, hr, hs, Ext.refl E w⟩⟩
 | y :: r, s, H, h => by
  simp only [frz] at h
  split at h
  ·rename_i e sz es hl
   obtain ⟨s1, h1, h2⟩ := fzS_spec h.2
   obtain ⟨s', H', h3, h4⟩ := frz_spec h1
   refine ⟨s', H', h3, fun E w n a hr hs => ?_⟩
   obtain ⟨E1, hr1, hx1, hf, hp⟩ := relH_freeze hr hl (NLss_iff.1 h.1)
   obtain ⟨E', hr', hs', hx'⟩ := h4 E1 w n a hr1 (hs.fz hr hx1 hf hp h2)
   exact ⟨E', hr', hs', hx1.trans hx'⟩
  ·exact frz_spec h

def forceN : Nat → (Nat → Prop) → Prop
 | 0, k => k 0
 | n + 1, k => k (n + 1)
theorem forceN_eq : ∀ (n : Nat) (k : Nat → Prop), forceN n k = k n
 | 0, _ => rfl
 | _ + 1, _ => rfl
def forceB : Blk → (Blk → Prop) → Prop
 | .row e sz es, k => k (.row e sz es)
 | .mp es, k => k (.mp es)
theorem forceB_eq (b : Blk) (k : Blk → Prop) : forceB b k = k b := by cases b <;> rfl
def nfLive : List (Nat × Blk) → (List (Nat × Blk) → Prop) → Prop
 | [], k => k []
 | (j, b) :: r, k => forceN j fun j' => forceB b fun b' => nfLive r fun r' => k ((j', b') :: r')
theorem nfLive_eq : ∀ (l : List (Nat × Blk)) (k : List (Nat × Blk) → Prop), nfLive l k = k l
 | [], k => rfl
 | (j, b) :: r, k => by rw [nfLive, forceN_eq, forceB_eq, nfLive_eq r]
def forceH (b : Bool) (H : Heap) (k : Heap → Prop) : Prop := match b with
 | true => forceN H.nx fun m => nfLive H.live fun l => k ⟨m, l⟩
 | false => k H
theorem forceH_eq (b : Bool) (H : Heap) (k : Heap → Prop) : forceH b H k = k H := by
 cases b
 ·rfl
 ·unfold forceH
  simp only [forceN_eq, nfLive_eq]

mutual
def mentV (y : Nat) : LV → Bool
 | .sl z _ _ => Nat.beq z y
 | .ptr z _ _ => Nat.beq z y
 | .agg cs => mentL y cs
 | .tup cs => mentL y cs
 | .iface _ v => mentV y v
 | .ite _ a b => match mentV y a with
  | true => true
  | false => mentV y b
 | .func _ a b => match mentL y a with
  | true => true
  | false => mentL y b
 | _ => false
def mentL (y : Nat) : List LV → Bool
 | [] => false
 | x :: r => match mentV y x with
  | true => true
  | false => mentL y r
end
def bxOf : List Nat → List Nat
 | [] => []
 | x :: r => match Nat.ble 3000000 x with
  | true => (x - 3000000) :: bxOf r
  | false => bxOf r
def fzH (y sz : Nat) (es : List (List LV)) : List Nat → List (Nat × Blk) → (List (Nat × Blk) → Prop) → Prop
 | [], l, k => k l
 | z :: r, l, k => match look l z with
  | some (.row e sz' [cs]) => match mentL y cs with
   | true => fzCs y es.length cs ∧ nfL (fzL y sz es cs) fun cs' => fzH y sz es r (upd z (.row e sz' [cs']) l) k
   | false => fzH y sz es r l k
  | _ => fzH y sz es r l k
def nst (y : Nat) : List Nat → Bool
 | [] => false
 | x :: r => match Nat.ble 9000000 x with
  | true => match Nat.beq y (x - 9000000) with
   | true => true
   | false => nst y r
  | false => nst y r
def frzB (mt : List Nat) : List Nat → Slots → Heap → (Slots → Heap → Prop) → Prop
 | [], s, H, k => k s H
 | y :: r, s, H, k => match nst y mt with
  | true => match look H.live y with
   | some (.row e sz zs) => ∃ (z ez sz2 : Nat) (es zs' : List (List LV)), look H.live z = some (.row ez sz2 es) ∧ Nat.beq y z = false ∧ NLss es ∧ (∀ cs ∈ zs, fzCs z es.length cs) ∧ zs.map (fzL z sz2 es) = zs' ∧ NLss zs' ∧
    fzS z sz2 es s fun s1 => fzS y sz zs' s1 fun s2 => frzB mt r s2 ⟨H.nx, rm y (upd y (.row e sz zs') (rm z H.live))⟩ k
   | _ => False
  | false => match look H.live y with
   | some (.row _ sz es) => NLss es ∧ fzS y sz es s fun s' => fzH y sz es (bxOf mt) (rm y H.live) fun l => frzB mt r s' ⟨H.nx, l⟩ k
   | _ => frzB mt r s H k

theorem relH_rows {E : Env} {H : Heap} {w : World} (hr : RelH E H w) {z e sz : Nat} {zs zs' : List (List LV)} (hl : look H.live z = some (.row e sz zs)) (hlen : zs'.length = zs.length)
  (hc : ∀ (i : Nat) (cs cs' : List LV), zs[i]? = some cs → zs'[i]? = some cs' → cs'.length = cs.length)
  (hg : ∀ k arr, E.φ z = some (some k, sz) → w.heap[k]? = some (.cells arr e (0, 0)) → ∀ (i : Nat) (cs' : List LV), zs'[i]? = some cs' → ∀ (j : Nat) (y : LV), cs'[j]? = some y → G E w y (arr.getD (i * sz + j) undef)) : RelH E ⟨H.nx, upd z (.row e sz zs') H.live⟩ w := by
 have hlk : ∀ x b, look (upd z (.row e sz zs') H.live) x = some b → (x = z ∧ b = .row e sz zs') ∨ (x ≠ z ∧ look H.live x = some b) := by
  intro x b h
  rw [look_upd] at h
  split at h
  ·rename_i hc
   exact .inl ⟨hc.1.symm, (Option.some.inj h).symm⟩
  ·rename_i hc
   refine .inr ⟨fun e => ?_, h⟩
   subst e
   exact hc ⟨rfl, by rw [hl]; rfl⟩
 refine ⟨hr.nx, ?_, ?_, ?_, ?_, hr.inj, hr.nok, hr.okl⟩
 ·intro x e2 sz2 es2 hx
  rcases hlk x _ hx with ⟨rfl, hb⟩ | ⟨hne, hx⟩
  ·cases hb
   rcases hr.row x e sz _ hl with ⟨h1, h2⟩ | ⟨k, arr, h1, h2, h3, h4, h5⟩
   ·exact .inl ⟨h1, List.eq_nil_of_length_eq_zero (by rw [hlen, h2]; rfl)⟩
   ·refine .inr ⟨k, arr, h1, h2, by rw [hlen]; exact h3, fun i hi => h4 i (by rw [hlen] at hi; exact hi), fun i cs2 hi => ?_⟩
    have hlt : i < zs.length := by rw [← hlen]; exact (List.getElem?_eq_some_iff.1 hi).1
    have hz := List.getElem?_eq_getElem hlt
    exact ⟨(hc i _ _ hz hi).trans (h5 i _ hz).1, fun j y hj => hg k arr h1 h2 i cs2 hi j y hj⟩
  ·exact hr.row x e2 sz2 es2 hx
 ·intro x es hx
  rcases hlk x _ hx with ⟨rfl, hb⟩ | ⟨hne, hx⟩
  ·cases hb
  ·exact hr.mp x es hx
 ·intro x hx
  rw [look_upd] at hx
  split at hx
  ·cases hx
  ·exact hr.none x hx
 ·intro x b hx
  rcases hlk x _ hx with ⟨rfl, hb⟩ | ⟨hne, hx⟩
  ·exact hr.lt x _ hl
  ·exact hr.lt x b hx

theorem relH_box {E : Env} {H : Heap} {w : World} (hr : RelH E H w) {z e sz : Nat} {cs cs' : List LV} (hl : look H.live z = some (.row e sz [cs])) (hlen : cs'.length = cs.length)
  (hg : ∀ k arr, E.φ z = some (some k, sz) → w.heap[k]? = some (.cells arr e (0, 0)) → ∀ (j : Nat) y, cs'[j]? = some y → G E w y (arr.getD j undef)) : RelH E ⟨H.nx, upd z (.row e sz [cs']) H.live⟩ w := by
 have hlk : ∀ x b, look (upd z (.row e sz [cs']) H.live) x = some b → (x = z ∧ b = .row e sz [cs']) ∨ (x ≠ z ∧ look H.live x = some b) := by
  intro x b h
  rw [look_upd] at h
  split at h
  ·rename_i hc
   exact .inl ⟨hc.1.symm, (Option.some.inj h).symm⟩
  ·rename_i hc
   refine .inr ⟨fun e => ?_, h⟩
   subst e
   exact hc ⟨rfl, by rw [hl]; rfl⟩
 refine ⟨hr.nx, ?_, ?_, ?_, ?_, hr.inj, hr.nok, hr.okl⟩
 ·intro x e2 sz2 es2 hx
  rcases hlk x _ hx with ⟨rfl, hb⟩ | ⟨hne, hx⟩
  ·cases hb
   rcases hr.row x e sz _ hl with ⟨h1, h2⟩ | ⟨k, arr, h1, h2, h3, h4, h5⟩
   ·cases h2
   ·refine .inr ⟨k, arr, h1, h2, h3, h4, fun i cs2 hi => ?_⟩
    match i, hi with
    | 0, hi =>
     simp at hi; subst hi
     refine ⟨hlen.trans (h5 0 cs rfl).1, fun j y hj => ?_⟩
     rw [Nat.zero_mul, Nat.zero_add]
     exact hg k arr h1 h2 j y hj
  ·exact hr.row x e2 sz2 es2 hx
 ·intro x es hx
  rcases hlk x _ hx with ⟨rfl, hb⟩ | ⟨hne, hx⟩
  ·cases hb
  ·exact hr.mp x es hx
 ·intro x hx
  rw [look_upd] at hx
  split at hx
  ·cases hx
  ·exact hr.none x hx
 ·intro x b hx
  rcases hlk x _ hx with ⟨rfl, hb⟩ | ⟨hne, hx⟩
  ·exact hr.lt x _ hl
  ·exact hr.lt x b hx

theorem ment_ptrAs {y : Nat} {es : List (List LV)} {i o : Nat} : mentV y (ptrAs es i o) = false := by
 unfold ptrAs
 split <;> rfl
mutual
theorem ment_fzV {y sz : Nat} {es : List (List LV)} : ∀ (v : LV), mentV y (fzV y sz es v) = false
 | .sl z off n => by
  simp only [fzV]
  split
  ·split <;> rfl
  ·simpa only [mentV] using (by assumption)
 | .ptr z i o => by
  simp only [fzV]
  split
  ·exact ment_ptrAs
  ·simpa only [mentV] using (by assumption)
 | .agg cs => by simp only [fzV, mentV]; exact ment_fzL cs
 | .tup cs => by simp only [fzV, mentV]; exact ment_fzL cs
 | .iface t v => by simp only [fzV, mentV]; exact ment_fzV v
 | .ite c a b => by simp only [fzV, mentV]; rw [ment_fzV a, ment_fzV b]
 | .func fn a b => by simp only [fzV, mentV]; rw [ment_fzL a, ment_fzL b]
 | .any | .und | .bool _ | .int _ _ | .str _ | .nilp | .rptr _ | .ro _ _ | .nils | .map _ | .nilm | .nilf | .nili => by simp only [fzV, mentV]
theorem ment_fzL {y sz : Nat} {es : List (List LV)} : ∀ (l : List LV), mentL y (fzL y sz es l) = false
 | [] => by simp only [fzL, mentL]
 | x :: r => by simp only [fzL, mentL]; rw [ment_fzV x, ment_fzL r]
end

def BxInv (y : Nat) (E : Env) (w : World) (l : List (Nat × Blk)) : Prop := ∀ z e sz' cs, look l z = some (.row e sz' [cs]) → mentL y cs = true →
 ∀ k arr, E.φ z = some (some k, sz') → w.heap[k]? = some (.cells arr e (0, 0)) → ∀ (j : Nat) x, cs[j]? = some x → G E w x (arr.getD j undef)

theorem fzH_spec {y sz : Nat} {es : List (List LV)} {nx : Nat} {live0 : List (Nat × Blk)} {k : List (Nat × Blk) → Prop} : ∀ {bx : List Nat} {l : List (Nat × Blk)}, fzH y sz es bx l k →
  ∃ l', k l' ∧ ∀ (E E' : Env) (w : World), RelH E ⟨nx, live0⟩ w → Ext E w E' w → (∀ v, G E w (.sl y 0 es.length) v → G E' w (.ro sz es) v) → (∀ i o v, G E w (.ptr y i o) v → G E' w (ptrAs es i o) v) →
   BxInv y E w l → RelH E' ⟨nx, l⟩ w → RelH E' ⟨nx, l'⟩ w
 | [], l, h => ⟨l, h, fun E E' w _ _ _ _ _ h => h⟩
 | z :: r, l, h => by
  simp only [fzH] at h
  split at h
  ·rename_i e sz' cs hl
   split at h
   ·rename_i hm
    have h2' := h.2
    rw [nfL_eq] at h2'
    obtain ⟨l', hk, hq⟩ := fzH_spec h2'
    refine ⟨l', hk, fun E E' w hr hx hf hp hi hr' => hq E E' w hr hx hf hp ?_ ?_⟩
    ·intro z2 e2 sz2 cs2 h2 hm2
     rw [look_upd] at h2
     split at h2
     ·cases h2
      rw [ment_fzL] at hm2; cases hm2
     ·exact hi z2 e2 sz2 cs2 h2 hm2
    ·refine relH_box hr' hl (fzL_length y sz es cs) (fun k arr h1 h2 j x hj => ?_)
     rw [fzL_get, Option.map_eq_some_iff] at hj
     obtain ⟨x0, hx0, rfl⟩ := hj
     have hlt : z < E.nx := by rw [hr.nx]; exact hr'.lt z _ hl
     have hφ : E.φ z = some (some k, sz') := by
      rcases hx.old z hlt with h3 | h3
      ·rw [h3] at h1; cases h1
      ·rw [← h3]; exact h1
     exact fzV_spec hr hx hf hp (hi z e sz' cs hl hm k arr hφ h2 j x0 hx0) (fzCs_get h.1 hx0)
   ·exact fzH_spec h
  ·exact fzH_spec h

theorem frzB_spec {mt : List Nat} {k : Slots → Heap → Prop} : ∀ {l : List Nat} {s : Slots} {H : Heap}, frzB mt l s H k → ∃ s' H', k s' H' ∧ ∀ (E : Env) (w : World) (n : Nat) (a : Act), RelH E H w → SR E w n s a →
  ∃ E', RelH E' H' w ∧ SR E' w n s' a ∧ Ext E w E' w
 | [], s, H, h => ⟨s, H, h, fun E w n a hr hs => ⟨E, hr, hs, Ext.refl E w⟩⟩
 | y :: r, s, H, h => by
  simp only [frzB] at h
  split at h
  ·split at h
   ·rename_i e sz zs hl
    obtain ⟨z, ez, sz2, es, zs', hz, hyz, hn, hc, he, hn', h⟩ := h
    obtain ⟨s1, h1, h2⟩ := fzS_spec h
    obtain ⟨s2, h3, h4⟩ := fzS_spec h1
    obtain ⟨s', H', h5, h6⟩ := frzB_spec h3
    refine ⟨s', H', h5, fun E w n a hr hs => ?_⟩
    obtain ⟨E1, hr1, hx1, hf, hp⟩ := relH_freeze hr hz (NLss_iff.1 hn)
    have hs1 := hs.fz hr hx1 hf hp h2
    have hy1 : look (rm z H.live) y = some (.row e sz zs) := by
     rw [look_rm, if_neg (by intro q; subst q; simp at hyz)]
     exact hl
    have hr2 := relH_rows hr1 (zs' := zs') hy1 (by rw [← he, List.length_map]) (fun i cs cs' h7 h8 => by
     rw [← he, List.getElem?_map, h7] at h8
     cases h8
     exact fzL_length z sz2 es cs) (fun k arr h7 h8 i cs' h9 j x hj => by
     rw [← he, List.getElem?_map] at h9
     obtain ⟨cs, hcs, rfl⟩ := Option.map_eq_some_iff.1 h9
     rw [fzL_get, Option.map_eq_some_iff] at hj
     obtain ⟨x0, hx0, rfl⟩ := hj
     have hlt : y < E.nx := by rw [hr.nx]; exact hr.lt y _ hl
     have hφ : E.φ y = some (some k, sz) := by
      rcases hx1.old y hlt with h10 | h10
      ·rw [h10] at h7; cases h7
      ·rw [← h10]; exact h7
     rcases hr.row y e sz zs hl with ⟨h10, h11⟩ | ⟨k', arr', h10, h11, _, _, h12⟩
     ·rw [h11] at hcs; simp at hcs
     ·rw [hφ] at h10; cases h10
      rw [h8] at h11; cases h11
      exact fzV_spec hr hx1 hf hp ((h12 i cs hcs).2 j x0 hx0) (fzCs_get (hc cs (List.mem_of_getElem? hcs)) hx0))
    have hy2 : look (upd y (.row e sz zs') (rm z H.live)) y = some (.row e sz zs') := by
     rw [look_upd, if_pos ⟨rfl, by rw [hy1]; rfl⟩]
    obtain ⟨E2, hr3, hx2, hf2, hp2⟩ := relH_freeze hr2 hy2 (NLss_iff.1 hn')
    have hs2 := hs1.fz hr2 hx2 hf2 hp2 h4
    obtain ⟨E', hr', hs', hx'⟩ := h6 E2 w n a hr3 hs2
    exact ⟨E', hr', hs', (hx1.trans hx2).trans hx'⟩
   ·exact h.elim
  split at h
  ·rename_i e sz es hl
   obtain ⟨s1, h1, h2⟩ := fzS_spec h.2
   obtain ⟨l1, h3, hb⟩ := fzH_spec (nx := H.nx) (live0 := H.live) h1
   obtain ⟨s', H', h5, h4⟩ := frzB_spec h3
   refine ⟨s', H', h5, fun E w n a hr hs => ?_⟩
   obtain ⟨E1, hr1, hx1, hf, hp⟩ := relH_freeze hr hl (NLss_iff.1 h.1)
   have hinv : BxInv y E w (rm y H.live) := by
    intro z e2 sz2 cs2 hz _ k arr hk ha j x hj
    rw [look_rm] at hz
    split at hz
    ·cases hz
    ·rcases hr.row z e2 sz2 _ hz with ⟨h6, h7⟩ | ⟨k', arr', h6, h7, _, _, h8⟩
     ·cases h7
     ·rw [hk] at h6; cases h6
      rw [ha] at h7; cases h7
      simpa using (h8 0 cs2 rfl).2 j x hj
   obtain ⟨E', hr', hs', hx'⟩ := h4 E1 w n a (hb E E1 w hr hx1 hf hp hinv hr1) (hs.fz hr hx1 hf hp h2)
   exact ⟨E', hr', hs', hx1.trans hx'⟩
  ·exact frzB_spec h
end
end Go.RX
