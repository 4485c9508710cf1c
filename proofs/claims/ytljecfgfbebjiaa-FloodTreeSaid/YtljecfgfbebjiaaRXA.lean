/- RX, part A: a call that turns some of its caller's own blocks, or answers new ones, seen from any heap. -/
import Derived.Test.YtljecfgfbebjiaaSea
set_option linter.unusedVariables false
namespace Go.RX
section
variable {P : Program} {T : List (Nat × TE)}
def rmA : List Nat → List (Nat × Blk) → List (Nat × Blk)
 | [], l => l
 | x :: r, l => rm x (rmA r l)
theorem look_rmA : ∀ (xs : List Nat) (l : List (Nat × Blk)) (y : Nat), look (rmA xs l) y = if y ∈ xs then none else look l y
 | [], l, y => by simp [rmA]
 | x :: r, l, y => by
  simp only [rmA, look_rm, look_rmA r l y, List.mem_cons]
  by_cases h : x = y
  ·subst h; simp
  ·by_cases h2 : y ∈ r <;> simp [h, h2, Ne.symm h]
theorem look_app : ∀ (a b : List (Nat × Blk)) (y : Nat), look (a ++ b) y = match look a y with | some v => some v | none => look b y
 | [], b, y => rfl
 | (j, v) :: r, b, y => by
  simp only [List.cons_append, look]
  cases Nat.beq y j with
  | true => rfl
  | false => exact look_app r b y
def frmOk (ρ τ : List (Nat × Nat)) (n nx nx2 : Nat) : Bool := Nat.ble nx nx2 && τ.all fun p => ρ.any (fun q => Nat.beq q.1 p.2 && Nat.beq q.2 p.1) || (Nat.ble n p.1 && Nat.ble nx p.2 && Nat.ble (p.2 + 1) nx2)
theorem row_ren {E F : Env} {H : Heap} {w : World} (hr : RelH E H w) {τ : List (Nat × Nat)} (turn : ∀ {l : LV} {v : Value}, G E w l v → G F w (RX.ren τ l) v) {c a : Nat} {e sz : Nat} {es' : List (List LV)} {b : Blk} (hb : look H.live c = some b) (hB : renB τ b (.row e sz es')) (hφ : F.φ a = E.φ c) :
  (F.φ a = some (none, sz) ∧ es' = []) ∨ ∃ k arr, F.φ a = some (some k, sz) ∧ w.heap[k]? = some (.cells arr e (0, 0)) ∧ es'.length * sz ≤ arr.size ∧
  (∀ i, i < es'.length * sz → (arr.getD i undef).oneCell' = true) ∧
  ∀ (i : Nat) (cs : List LV), es'[i]? = some cs → cs.length = sz ∧ ∀ j y, cs[j]? = some y → G F w y (arr.getD (i * sz + j) undef) := by
 rw [hφ]
 cases b with
 | mp es => exact hB.elim
 | row e0 sz0 es =>
  obtain ⟨rfl, rfl, hes⟩ := hB
  have hlen : es.length = es'.length := by rcases hes with ⟨rfl, _⟩ | rfl <;> simp
  rcases hr.row c _ _ es hb with ⟨h6, h7⟩ | ⟨k, arr, h6, h7, h8, h9, h10⟩
  ·refine .inl ⟨h6, ?_⟩
   subst h7
   exact List.eq_nil_of_length_eq_zero hlen.symm
  ·refine .inr ⟨k, arr, h6, h7, by rw [← hlen]; exact h8, by rw [← hlen]; exact h9, fun i cs hi => ?_⟩
   rcases hes with ⟨rfl, hnl⟩ | rfl
   ·obtain ⟨h11, h12⟩ := h10 i cs hi
    refine ⟨h11, fun j z hj => ?_⟩
    have := turn (h12 j z hj)
    rwa [ren_NL (NLss_iff.1 hnl cs (List.mem_of_getElem? hi) z (List.mem_of_getElem? hj))] at this
   ·simp only [List.getElem?_map, Option.map_eq_some_iff] at hi
    obtain ⟨cs0, hi, rfl⟩ := hi
    obtain ⟨h11, h12⟩ := h10 i cs0 hi
    refine ⟨by rw [rens_eq, List.length_map]; exact h11, fun j z hj => ?_⟩
    rw [rens_eq] at hj
    simp only [List.getElem?_map, Option.map_eq_some_iff] at hj
    obtain ⟨z0, hj, rfl⟩ := hj
    exact turn (h12 j z0 hj)
theorem mp_ren {E F : Env} {H : Heap} {w : World} (hr : RelH E H w) {τ : List (Nat × Nat)} (turn : ∀ {l : LV} {v : Value}, G E w l v → G F w (RX.ren τ l) v) {c a : Nat} {es' : List (LV × LV)} {b : Blk} (hb : look H.live c = some b) (hB : renB τ b (.mp es')) (hφ : F.φ a = E.φ c) :
  ∃ k entries clock, F.φ a = some (some k, 0) ∧ w.heap[k]? = some (.map entries clock) ∧ entries.size = es'.length ∧
  (∀ (i : Nat) (e : MapEntry), entries[i]? = some e → e.born = i) ∧ clock = entries.size ∧
  ∀ (i : Nat) (p : LV × LV), es'[i]? = some p → ∃ e : MapEntry, entries[i]? = some e ∧ G F w p.1 e.key ∧ G F w p.2 e.val := by
 cases b with
 | row e0 sz0 es => exact hB.elim
 | mp es =>
  obtain ⟨k, en, cl, h6, h7, h8, h9, h10, h11⟩ := hr.mp c es hb
  refine ⟨k, en, cl, by rw [hφ]; exact h6, h7, by rw [h8]; rcases hB with ⟨rfl, _⟩ | rfl <;> simp, h9, h10, fun i p hp => ?_⟩
  rcases hB with ⟨rfl, hnl⟩ | rfl
  ·obtain ⟨e1, h12, h13, h14⟩ := h11 i p hp
   have hn := hnl p (List.mem_of_getElem? hp)
   have g1 := turn h13
   have g2 := turn h14
   rw [ren_NL hn.1] at g1
   rw [ren_NL hn.2] at g2
   exact ⟨e1, h12, g1, g2⟩
  ·simp only [List.getElem?_map, Option.map_eq_some_iff] at hp
   obtain ⟨p0, hp, rfl⟩ := hp
   obtain ⟨e1, h12, h13, h14⟩ := h11 i p0 hp
   exact ⟨e1, h12, turn h13, turn h14⟩
theorem relH_ren {E : Env} {H : Heap} {w : World} (hr : RelH E H w) (ρ : List (Nat × Nat)) {m : Nat} {l' : List (Nat × Blk)} (hρ : onceP m ρ = true) (hl : renL ρ H.live m 0 ρ l') :
  ∃ E', E'.nx = m ∧ E'.ok = E.ok ∧ RelH E' ⟨m, l'⟩ w ∧ (∀ {l : LV} {v : Value}, G E w l v → G E' w (RX.ren ρ l) v) ∧ (∀ y q, E'.φ y = some q → ∃ x, (x, y) ∈ ρ ∧ E.φ x = some q) := by
 obtain ⟨hlt, hi1, hi2⟩ := onceP_spec hρ
 have hl' := renL_spec hl
 let pre : Nat → Option Nat := fun y => (ρ.find? fun p => p.2 == y).map (·.1)
 have hpre : ∀ x y, (x, y) ∈ ρ → pre y = some x := by
  intro x y hm
  simp only [pre]
  cases hf : ρ.find? (fun p => p.2 == y) with
  | none =>
   have := List.find?_eq_none.1 hf _ hm
   simp at this
  | some p =>
   have h1 := List.mem_of_find?_eq_some hf
   have h2 : p.2 = y := by simpa using List.find?_some hf
   have := hi2 p h1 (x, y) hm h2
   subst this
   rfl
 let E' : Env := ⟨m, fun y => if (look l' y).isSome then (pre y).bind E.φ else none, E.ok⟩
 have hφ : ∀ y b', look l' y = some b' → ∃ x b, (x, y) ∈ ρ ∧ look H.live x = some b ∧ renB ρ b b' ∧ E'.φ y = E.φ x := by
  intro y b' hy
  obtain ⟨x, b, h1, h2, h3, h4⟩ := hl' y b' hy
  refine ⟨x, b, h1, h2, h3, ?_⟩
  simp only [E', hy, Option.isSome_some, if_true, hpre x y h1, Option.bind_some]
 have hφ2 : ∀ y q, E'.φ y = some q → ∃ x, (x, y) ∈ ρ ∧ E.φ x = some q := by
  intro y q hq
  cases hy : look l' y with
  | none => simp [E', hy] at hq
  | some b' =>
   obtain ⟨x, b, h1, h2, h3, h5⟩ := hφ y b' hy
   exact ⟨x, h1, by rw [← h5, hq]⟩
 have turn : ∀ {l v}, G E w l v → G E' w (RX.ren ρ l) v := fun hg => G.ren (E := E) (E' := E') (fun b hb => hb) (fun x y hxy => by
  have hm := asc_mem hxy
  refine ⟨hlt _ hm, ?_⟩
  cases hy : look l' y with
  | none => exact .inr (by simp [E', hy])
  | some b' =>
   obtain ⟨x', b, h1, _, _, h5⟩ := hφ y b' hy
   have := hi2 _ h1 _ hm rfl
   cases this
   exact .inl h5) hg
 refine ⟨E', rfl, rfl, ⟨rfl, ?_, ?_, ?_, ?_, ?_, ?_, hr.okl⟩, turn, hφ2⟩
 ·intro y e sz es' hy
  obtain ⟨x, b, h1, h2, h3, h5⟩ := hφ y _ hy
  exact row_ren hr turn h2 h3 h5
 ·intro y es' hy
  obtain ⟨x, b, h1, h2, h3, h5⟩ := hφ y _ hy
  exact mp_ren hr turn h2 h3 h5
 ·intro y hy
  simp only at hy
  simp only [E', hy]
  rfl
 ·intro y b' hy
  obtain ⟨x, b, h1, _⟩ := hφ y b' hy
  exact hlt _ h1
 ·intro y z k s1 s2 h1 h2
  obtain ⟨x1, m1, e1⟩ := hφ2 y _ h1
  obtain ⟨x2, m2, e2⟩ := hφ2 z _ h2
  have := hr.inj x1 x2 k s1 s2 e1 e2
  subst this
  have := hi1 _ m1 _ m2 rfl
  cases this
  rfl
 ·intro y k s1 h1
  obtain ⟨x1, m1, e1⟩ := hφ2 y _ h1
  exact hr.nok x1 k s1 e1

theorem CallW.frame {f : FuncId} {args argsC : List LV} {H : Heap} {K : LV → Heap → Prop} {n n' nx2 : Nat} {lC lC' l2 : List (Nat × Blk)} {LC : LV} (ρ τ : List (Nat × Nat))
  (hC : CallW P f argsC ⟨n, lC⟩ fun lv H' => lv = LC ∧ H' = ⟨n', lC'⟩) (hρ : onceP n ρ = true) (hargs : rens ρ args = argsC) (hl : renL ρ H.live n 0 ρ lC)
  (hτ : onceP nx2 τ = true) (hf : frmOk ρ τ n H.nx nx2 = true) (hl2 : renL τ lC' nx2 0 τ l2) (hK : K (RX.ren τ LC) ⟨nx2, l2 ++ rmA (ρ.map (·.1)) H.live⟩) : CallW P f args H K := by
 refine ⟨hC.1, fun E w vals hr hg => ?_⟩
 obtain ⟨E0, e1, e2, hr0, turn, hφ0⟩ := relH_ren hr ρ hρ hl
 have hg0 : Gs E0 w argsC vals := by
  subst hargs
  refine ⟨by rw [rens_eq, List.length_map]; exact hg.1, fun i x v hx hv => ?_⟩
  rw [rens_eq] at hx
  simp only [List.getElem?_map, Option.map_eq_some_iff] at hx
  obtain ⟨y, hy, rfl⟩ := hx
  exact turn (hg.2 i y v hy hv)
 refine (hC.2 E0 w vals hr0 hg0).mono fun e w' he => ?_
 cases e with
 | panicked c => exact he.elim
 | outgrown => exact he.elim
 | returned v =>
  obtain ⟨E1, lv, H1, ⟨rfl, rfl⟩, hr1, hgv, hx⟩ := he
  obtain ⟨E3, e3, e4, hr3, turn3, hφ3⟩ := relH_ren hr1 τ hτ hl2
  simp only [frmOk, Bool.and_eq_true, List.all_eq_true, Bool.or_eq_true, List.any_eq_true] at hf
  have hnx := Nat.le_of_ble_eq_true hf.1
  have hτm : ∀ c a, (c, a) ∈ τ → (a, c) ∈ ρ ∨ (n ≤ c ∧ H.nx ≤ a ∧ a < nx2) := by
   intro c a hm
   rcases hf.2 _ hm with ⟨q, hq, h1, h2⟩ | ⟨⟨h1, h2⟩, h3⟩
   ·left
    have h3 : q.1 = a := Nat.eq_of_beq_eq_true h1
    have h4 : q.2 = c := Nat.eq_of_beq_eq_true h2
    rw [← h3, ← h4]; exact hq
   ·exact .inr ⟨Nat.le_of_ble_eq_true h1, Nat.le_of_ble_eq_true h2, Nat.le_of_ble_eq_true h3⟩
  have hρlt : ∀ a c, (a, c) ∈ ρ → c < n := fun a c hm => (onceP_spec hρ).1 _ hm
  have hρlive : ∀ a c, (a, c) ∈ ρ → ∃ b, look H.live a = some b := by
   intro a c hm
   have aux : ∀ {q : List (Nat × Nat)} {l' : List (Nat × Blk)}, renL ρ H.live n 0 q l' → (a, c) ∈ q → ∃ b, look H.live a = some b := by
    intro q
    induction q with
    | nil => intro l' _ h; cases h
    | cons p q ih =>
     intro l' h hm
     obtain ⟨p1, p2⟩ := p
     cases l' with
     | nil => exact h.elim
     | cons z l' =>
      obtain ⟨z1, z2⟩ := z
      obtain ⟨h1, _, _, h4⟩ := h
      rcases List.mem_cons.1 hm with e | hm
      ·cases e
       split at h1
       ·rename_i b hb; exact ⟨b, hb⟩
       ·exact h1.elim
      ·exact ih h4 hm
   exact aux hl hm
  have hρx : ∀ a c, (a, c) ∈ ρ → a < H.nx := fun a c hm => by
   obtain ⟨b, hb⟩ := hρlive a c hm; exact hr.lt _ _ hb
  have mem1 : ∀ x, x ∈ ρ.map (·.1) ↔ ∃ c, (x, c) ∈ ρ := fun x => by
   simp only [List.mem_map]
   constructor
   ·rintro ⟨⟨a, c⟩, h, rfl⟩; exact ⟨c, h⟩
   ·rintro ⟨c, h⟩; exact ⟨_, h, rfl⟩
  -- the names' owners behind the call
  let F : Env := ⟨nx2, fun x => match E3.φ x with
   | some q => some q
   | none => if x ∈ ρ.map (·.1) then none else E.φ x, E1.ok⟩
  have hF3 : ∀ x q, E3.φ x = some q → F.φ x = some q := fun x q h => by simp only [F, h]
  have hFn : ∀ x, E3.φ x = none → x ∉ ρ.map (·.1) → F.φ x = E.φ x := fun x h h2 => by simp only [F, h, if_neg h2]
  have hFc : ∀ x q, F.φ x = some q → E3.φ x = some q ∨ (E3.φ x = none ∧ x ∉ ρ.map (·.1) ∧ E.φ x = some q) := fun x q h => by
   simp only [F] at h
   split at h
   ·rename_i q' hq; exact .inl (hq.trans h)
   ·rename_i hq
    split at h
    ·cases h
    ·rename_i h2; exact .inr ⟨hq, h2, h⟩
  have own3 : ∀ x k s, E3.φ x = some (some k, s) → w.heap.size ≤ k ∨ ∃ y s', y ∈ ρ.map (·.1) ∧ E.φ y = some (some k, s') := by
   intro x k s h
   obtain ⟨c, hm, hc⟩ := hφ3 x _ h
   have viaE0 : ∀ y s', E0.φ y = some (some k, s') → ∃ z s', z ∈ ρ.map (·.1) ∧ E.φ z = some (some k, s') := fun y s' h1 => by
    obtain ⟨z, hz, h2⟩ := hφ0 y _ h1; exact ⟨z, s', (mem1 z).2 ⟨_, hz⟩, h2⟩
   rcases Nat.lt_or_ge c n with hlt | hge
   ·rcases hx.old c (by rw [e1]; exact hlt) with h1 | h1
    ·rw [h1] at hc; cases hc
    ·exact .inr (viaE0 c s (h1 ▸ hc))
   ·rcases hx.fresh c k s (by rw [e1]; exact hge) hc with h1 | ⟨y, s', h1⟩
    ·exact .inl h1
    ·exact .inr (viaE0 y s' h1)
  have okNew : ∀ b, E1.ok b → E.ok b ∨ w.heap.size ≤ b ∨ ∃ y s, y ∈ ρ.map (·.1) ∧ E.φ y = some (some b, s) := fun b hb => by
   rcases hx.okNew b hb with h1 | h1 | ⟨y, s, h1⟩
   ·exact .inl (e2 ▸ h1)
   ·exact .inr (.inl h1)
   ·obtain ⟨z, hz, h2⟩ := hφ0 y _ h1; exact .inr (.inr ⟨z, s, (mem1 z).2 ⟨_, hz⟩, h2⟩)
  have hext : Ext E w F w' := by
   refine ⟨by rw [hr.nx]; exact hnx, hx.size, fun k hk hn => hx.keep k hk (fun x s h => ?_), hx.cells, fun x hxl => ?_, fun b hb => hx.ok b (by rw [e2]; exact hb), fun b hb => ?_, fun x k s hxn h => ?_, hx.os, hx.output, hx.tape⟩
   ·obtain ⟨z, _, h2⟩ := hφ0 x _ h; exact hn z s h2
   ·cases h3 : E3.φ x with
    | none =>
     by_cases hm : x ∈ ρ.map (·.1)
     ·left; simp only [F, h3, if_pos hm]
     ·right; exact hFn x h3 hm
    | some q =>
     obtain ⟨c, hm, hc⟩ := hφ3 x _ h3
     rcases hτm c x hm with h4 | ⟨_, h5, _⟩
     ·rcases hx.old c (by rw [e1]; exact hρlt _ _ h4) with h6 | h6
      ·rw [h6] at hc; cases hc
      ·right
       obtain ⟨z, hz, h7⟩ := hφ0 c q (h6 ▸ hc)
       have := (onceP_spec hρ).2.2 _ hz _ h4 rfl
       cases this
       rw [hF3 x q h3, h7]
     ·rw [hr.nx] at hxl; omega
   ·rcases okNew b hb with h1 | h1 | ⟨y, s, _, h1⟩
    ·exact .inl h1
    ·exact .inr (.inl h1)
    ·exact .inr (.inr ⟨y, s, h1⟩)
   ·rcases hFc x _ h with h1 | ⟨_, _, h1⟩
    ·rcases own3 x k s h1 with h2 | ⟨y, s', _, h2⟩
     ·exact .inl h2
     ·exact .inr ⟨y, s', h2⟩
    ·exact .inr ⟨x, s, h1⟩
  have gm : ∀ {l v}, G E w l v → G F w' l v := fun h => h.ext hr hext
  have hτF : ∀ c a, (c, a) ∈ τ → F.φ a = E3.φ a := by
   intro c a hm
   cases h3 : E3.φ a with
   | some q => exact hF3 a q h3
   | none =>
    rcases hτm c a hm with h4 | ⟨_, h5, _⟩
    ·simp only [F, h3, if_pos ((mem1 a).2 ⟨_, h4⟩)]
    ·rw [hFn a h3 (fun hm => by obtain ⟨c', hc'⟩ := (mem1 a).1 hm; have := hρx _ _ hc'; omega)]
     cases hE : E.φ a with
     | none => rfl
     | some q => have := hr.name a q hE; rw [hr.nx] at this; omega
  obtain ⟨tlt, ti1, ti2⟩ := onceP_spec hτ
  have hl2' := renL_spec hl2
  have hE3 : ∀ a b', look l2 a = some b' → ∃ c b, (c, a) ∈ τ ∧ look lC' c = some b ∧ renB τ b b' ∧ F.φ a = E1.φ c := by
   intro a b' hy
   obtain ⟨c, b, h1, h2, h3, _⟩ := hl2' a b' hy
   refine ⟨c, b, h1, h2, h3, ?_⟩
   rw [hτF c a h1]
   have hE1 : E1.φ c ≠ none := by
    cases b with
    | row e sz es => rcases hr1.row c e sz es h2 with ⟨h4, _⟩ | ⟨k, arr, h4, _⟩ <;> rw [h4] <;> simp
    | mp es => obtain ⟨k, en, cl, h4, _⟩ := hr1.mp c es h2; rw [h4]; simp
   have hE3' : E3.φ a ≠ none := by
    cases b' with
    | row e sz es => rcases hr3.row a e sz es hy with ⟨h4, _⟩ | ⟨k, arr, h4, _⟩ <;> rw [h4] <;> simp
    | mp es => obtain ⟨k, en, cl, h4, _⟩ := hr3.mp a es hy; rw [h4]; simp
   obtain ⟨q, hq⟩ := Option.ne_none_iff_exists'.1 hE3'
   obtain ⟨c', hc', hc2⟩ := hφ3 a q hq
   have := ti2 _ hc' _ h1 rfl
   cases this
   rw [hq, hc2]
  have turnF : ∀ {l v}, G E1 w' l v → G F w' (RX.ren τ l) v := fun h => G.ren (E := E1) (E' := F) (fun b hb => hb) (fun c a hca => by
   have hm := asc_mem hca
   refine ⟨tlt _ hm, ?_⟩
   rw [hτF c a hm]
   cases h3 : E3.φ a with
   | none => exact .inr rfl
   | some q =>
    obtain ⟨c', hc', hc2⟩ := hφ3 a q h3
    have := ti2 _ hc' _ hm rfl
    cases this
    exact .inl hc2.symm) h
  have lookN : ∀ x b, look (l2 ++ rmA (ρ.map (·.1)) H.live) x = some b → look l2 x = some b ∨ (look l2 x = none ∧ x ∉ ρ.map (·.1) ∧ look H.live x = some b) := fun x b h => by
   rw [look_app] at h
   split at h
   ·rename_i v hv; exact .inl (hv.trans h)
   ·rename_i hv
    rw [look_rmA] at h
    split at h
    ·cases h
    ·rename_i h2; exact .inr ⟨hv, h2, h⟩
  have E3none : ∀ x, look l2 x = none → E3.φ x = none := fun x h => hr3.none x h
  have keep : ∀ x k s, x ∉ ρ.map (·.1) → E.φ x = some (some k, s) → w'.heap[k]? = w.heap[k]? := fun x k s hm h => hx.keep k (hr.nok x k s h).2 fun y s' h1 => by
   obtain ⟨z, hz, h2⟩ := hφ0 y _ h1
   have := hr.inj z x k s' s h2 h
   subst this
   exact hm ((mem1 z).2 ⟨_, hz⟩)
  refine ⟨F, RX.ren τ lv, _, hK, ⟨rfl, ?_, ?_, ?_, ?_, ?_, ?_, hr1.okl⟩, turnF hgv, hext⟩
  ·intro x e sz es hl
   rcases lookN x _ hl with h1 | ⟨h1, h2, h3⟩
   ·obtain ⟨c, b, h4, h5, h6, h7⟩ := hE3 x _ h1
    exact row_ren hr1 turnF h5 h6 h7
   ·rw [hFn x (E3none x h1) h2]
    rcases hr.row x e sz es h3 with h4 | ⟨k, arr, h4, h5, h6, h7, h8⟩
    ·exact .inl h4
    ·exact .inr ⟨k, arr, h4, (keep x k sz h2 h4).trans h5, h6, h7, fun i cs hi => ⟨(h8 i cs hi).1, fun j y hj => gm ((h8 i cs hi).2 j y hj)⟩⟩
  ·intro x es hl
   rcases lookN x _ hl with h1 | ⟨h1, h2, h3⟩
   ·obtain ⟨c, b, h4, h5, h6, h7⟩ := hE3 x _ h1
    exact mp_ren hr1 turnF h5 h6 h7
   ·rw [hFn x (E3none x h1) h2]
    obtain ⟨k, en, cl, h4, h5, h6, h7, h8, h9⟩ := hr.mp x es h3
    refine ⟨k, en, cl, h4, (keep x k 0 h2 h4).trans h5, h6, h7, h8, fun i p hp => ?_⟩
    obtain ⟨en', h10, h11, h12⟩ := h9 i p hp
    exact ⟨en', h10, gm h11, gm h12⟩
  ·intro x hl
   rw [look_app] at hl
   split at hl
   ·cases hl
   ·rename_i hv
    rw [look_rmA] at hl
    split at hl
    ·rename_i h2; simp only [F, E3none x hv, if_pos h2]
    ·rename_i h2; rw [hFn x (E3none x hv) h2]; exact hr.none x hl
  ·intro x b hl
   show x < nx2
   rcases lookN x _ hl with h1 | ⟨h1, h2, h3⟩
   ·exact hr3.lt x b h1
   ·have := hr.lt x b h3; omega
  ·intro x y k s s' h1 h2
   have cross : ∀ a b s s', E3.φ a = some (some k, s) → b ∉ ρ.map (·.1) → E.φ b = some (some k, s') → False := fun a b s s' h1 h2 h3 => by
    rcases own3 a k s h1 with h4 | ⟨z, s3, h4, h5⟩
    ·have := (hr.nok b k s' h3).2; omega
    ·have := hr.inj z b k s3 s' h5 h3
     subst this; exact h2 h4
   rcases hFc x _ h1 with h3 | ⟨_, h3, h4⟩ <;> rcases hFc y _ h2 with h5 | ⟨_, h5, h6⟩
   ·exact hr3.inj x y k s s' h3 h5
   ·exact (cross x y s s' h3 h5 h6).elim
   ·exact (cross y x s' s h5 h3 h4).elim
   ·exact hr.inj x y k s s' h4 h6
  ·intro x k s h1
   rcases hFc x _ h1 with h3 | ⟨_, h3, h4⟩
   ·have := hr3.nok x k s h3
    rw [e4] at this
    exact this
   ·refine ⟨fun h5 => ?_, Nat.lt_of_lt_of_le (hr.nok x k s h4).2 hx.size⟩
    rcases okNew k h5 with h6 | h6 | ⟨y, s', h6, h7⟩
    ·exact (hr.nok x k s h4).1 h6
    ·have := (hr.nok x k s h4).2; omega
    ·have := hr.inj y x k s' s h7 h4
     subst this; exact h3 h6
theorem CallF.toP {f : FuncId} {args : List LV} {e sz : Nat} {es : List (List LV)} (h : CallF P f args e sz es) (hnl : NLs args) (hes : NLss es) : CallP P f args (.ro sz es) :=
 CallP.intro hnl (h.mono fun lv H' ⟨h1, h2⟩ => by subst h1; subst h2; exact ⟨rfl, rfl, rfl, hes⟩)
end
end Go.RX
