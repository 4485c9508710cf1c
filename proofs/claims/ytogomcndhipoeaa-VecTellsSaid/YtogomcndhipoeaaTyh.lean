/- Contracts of the sort: symMerge. -/
import Derived.Test.YtogomcndhipoeaaTyg
set_option linter.unusedVariables false
set_option linter.unusedSimpArgs false
open Go Go.RX Go.Proofs
namespace Go.RX
set_option maxRecDepth 10000
set_option maxHeartbeats 4000000
theorem rotV (X A1 A2 B1 B2 Y : List Vc) {s m e : Nat} (hs : s = X.length + A1.length) (hm : m = s + A2.length) (he : e = m + B1.length) :
    ROT (X ++ ((A1 ++ A2) ++ ((B1 ++ B2) ++ Y))) s m e (X ++ (A1 ++ (B1 ++ (A2 ++ (B2 ++ Y))))) := by
  have h := ROT.of (X ++ A1) A2 B1 (B2 ++ Y)
  rw [List.length_append, ← hs, ← hm, ← he] at h
  have e1 : X ++ ((A1 ++ A2) ++ ((B1 ++ B2) ++ Y)) = X ++ A1 ++ (A2 ++ (B1 ++ (B2 ++ Y))) := by simp
  have e2 : X ++ (A1 ++ (B1 ++ (A2 ++ (B2 ++ Y)))) = X ++ A1 ++ (B1 ++ (A2 ++ (B2 ++ Y))) := by simp
  rw [e1, e2]
  exact h
def Q1 (X A1 A2 B1 B2 Y t : List Vc) : Prop := ∃ S1, Mrg leV A1 B1 S1 ∧ t = X ++ (S1 ++ (A2 ++ (B2 ++ Y)))
def Q2 (X A1 A2 B1 B2 Y t : List Vc) : Prop := ∃ S1 S2, Mrg leV A1 B1 S1 ∧ Mrg leV A2 B2 S2 ∧ t = X ++ (S1 ++ (S2 ++ Y))
/-- What the sort's merge is to do. -/
def Good32 (N : Nat) : Prop := ∀ (X A B Y : List Vc) (n : Nat), A.length + B.length ≤ N → 1 ≤ A.length → 1 ≤ B.length → n = (X ++ (A ++ (B ++ Y))).length → n ≤ 1000 → (∀ v ∈ X ++ (A ++ (B ++ Y)), Rv v) →
  ∀ (xa xm xb : Int), xa = ((X.length : Nat) : Int) → xm = ((X.length + A.length : Nat) : Int) → xb = ((X.length + A.length + B.length : Nat) : Int) → ∀ (K : LV → Heap → Prop),
    (∀ S, Mrg leV A B S → K (.tup []) (hpV (X ++ (S ++ Y)))) → CallW Try.prog 32 [.sl 0 0 n, I xa, I xm, I xb, cmpF] (hpV (X ++ (A ++ (B ++ Y)))) K
theorem beta32 {N : Nat} (ih : Good32 N) (X A1 A2 B1 B2 Y : List Vc) (n : Nat) (hn : n = (X ++ (A1 ++ (B1 ++ (A2 ++ (B2 ++ Y))))).length) (hl : n ≤ 1000) (hv : ∀ v ∈ X ++ (A1 ++ (B1 ++ (A2 ++ (B2 ++ Y)))), Rv v)
    (hN : A1.length + B1.length ≤ N) (hA : 1 ≤ A1.length) (hB : 1 ≤ B1.length) {xa xm xb : Int} (ha : xa = ((X.length : Nat) : Int)) (hm : xm = ((X.length + A1.length : Nat) : Int)) (hb : xb = ((X.length + A1.length + B1.length : Nat) : Int))
    {K : LV → Heap → Prop} (hk : ∀ t1, Q1 X A1 A2 B1 B2 Y t1 → K (.tup []) (hpV t1)) : CallW Try.prog 32 [.sl 0 0 n, I xa, I xm, I xb, cmpF] (hpV (X ++ (A1 ++ (B1 ++ (A2 ++ (B2 ++ Y)))))) K :=
  ih X A1 B1 (A2 ++ (B2 ++ Y)) n hN hA hB hn hl hv xa xm xb ha hm hb K fun S hS => hk _ ⟨S, hS, rfl⟩
theorem gamma32 {N : Nat} (ih : Good32 N) (X A1 A2 B1 B2 Y t1 : List Vc) (q : Q1 X A1 A2 B1 B2 Y t1) (n : Nat) (hn : n = (X ++ (A1 ++ (B1 ++ (A2 ++ (B2 ++ Y))))).length) (hl : n ≤ 1000) (hv : ∀ v ∈ X ++ (A1 ++ (B1 ++ (A2 ++ (B2 ++ Y)))), Rv v)
    (hN : A2.length + B2.length ≤ N) (hA : 1 ≤ A2.length) (hB : 1 ≤ B2.length) {xa xm xb : Int} (ha : xa = ((X.length + A1.length + B1.length : Nat) : Int)) (hm : xm = ((X.length + A1.length + B1.length + A2.length : Nat) : Int)) (hb : xb = ((X.length + A1.length + B1.length + A2.length + B2.length : Nat) : Int))
    {K : LV → Heap → Prop} (hk : ∀ t2, Q2 X A1 A2 B1 B2 Y t2 → K (.tup []) (hpV t2)) : CallW Try.prog 32 [.sl 0 0 n, I xa, I xm, I xb, cmpF] (hpV t1) K := by
  obtain ⟨S1, hS1, rfl⟩ := q
  have hSl := hS1.len
  have e1 : X ++ (S1 ++ (A2 ++ (B2 ++ Y))) = (X ++ S1) ++ (A2 ++ (B2 ++ Y)) := by simp
  have hXl : (X ++ S1).length = X.length + A1.length + B1.length := by rw [List.length_append, hSl]; omega
  rw [e1]
  refine ih (X ++ S1) A2 B2 Y n hN hA hB ?_ hl ?_ xa xm xb (by rw [hXl]; exact ha) (by rw [hXl]; exact hm) (by rw [hXl]; exact hb) K fun S hS => ?_
  · rw [hn]; simp only [List.length_append, hSl]; omega
  · intro v hm
    refine hv v ?_
    simp only [List.mem_append] at hm ⊢
    rcases hm with (hm | hm) | hm
    · exact .inl hm
    · have := (hS1.perm.mem_iff).1 hm
      simp only [List.mem_append] at this
      rcases this with h | h
      · exact .inr (.inl h)
      · exact .inr (.inr (.inl h))
    · exact .inr (.inr (.inr hm))
  · rw [List.append_assoc]
    exact hk _ ⟨S1, S, hS1, hS, rfl⟩
theorem nil_q1 (X A1 A2 B1 B2 Y : List Vc) (h : A1 = [] ∨ B1 = []) : Q1 X A1 A2 B1 B2 Y (X ++ (A1 ++ (B1 ++ (A2 ++ (B2 ++ Y))))) := by
  rcases h with rfl | rfl
  · exact ⟨B1, .nilL, rfl⟩
  · exact ⟨A1, .nilR, rfl⟩
theorem nil_q2 {X A1 A2 B1 B2 Y t : List Vc} (h : A2 = [] ∨ B2 = []) (q : Q1 X A1 A2 B1 B2 Y t) : Q2 X A1 A2 B1 B2 Y t := by
  obtain ⟨S1, hS1, rfl⟩ := q
  rcases h with rfl | rfl
  · exact ⟨S1, B2, hS1, .nilL, rfl⟩
  · exact ⟨S1, A2, hS1, .nilR, rfl⟩
attribute [local irreducible] CallW CallP LoopW W IntKind.wrap rankL Int.fdiv Q1 Q2 Good32
theorem c33' (l t : List Vc) (n a m b : Nat) (hn : n = l.length) (hl : n ≤ 1000) (ham : a < m) (hmb : m < b) (hb : b ≤ n) (ht : ROT l a m b t) {xb : Int} (hxb : xb = (b : Int)) {K : LV → Heap → Prop} (h : K (.tup []) (hpV t)) :
    CallW Try.prog 33 [.sl 0 0 n, I a, I m, I xb, cmpF] (hpV l) K := by
  subst hxb
  exact c33 l t n a m b hn hl ham hmb hb ht h
abbrev s32e (n a m b md nq st r : Nat) : Slots := [(0, .sl 0 0 n), (1, I a), (2, I m), (3, I b), (4, cmpF), (18, I md), (19, I nq), (20, I st), (21, I r), (22, I (nq - 1 : Nat))]
theorem c32c {N : Nat} (ihN : Good32 N) (X A B Y : List Vc) (n : Nat) (hN : A.length + B.length ≤ N + 1) (hA : 2 ≤ A.length) (hB : 2 ≤ B.length) (hc : (X.length + (X.length + A.length + B.length)) / 2 < X.length + A.length) (hn : n = (X ++ (A ++ (B ++ Y))).length) (hl : n ≤ 1000) (hv : ∀ v ∈ X ++ (A ++ (B ++ Y)), Rv v) {K : LV → Heap → Prop}
    (h : ∀ S, Mrg leV A B S → K (.tup []) (hpV (X ++ (S ++ Y)))) : CallW Try.prog 32 [.sl 0 0 n, I ((X.length : Nat) : Int), I ((X.length + A.length : Nat) : Int), I ((X.length + A.length + B.length : Nat) : Int), cmpF] (hpV (X ++ (A ++ (B ++ Y)))) K := by
  have hK := h
  clear h
  have hnl : n = X.length + A.length + B.length + Y.length := by rw [hn]; simp only [List.length_append]; omega
  have d0 : decide (IntKind.i64.wrap (((X.length + A.length : Nat) : Int) - ((X.length : Nat) : Int)) = 1) = false := by
    rw [wsub _ _ (by omega) (by omega), decide_eq_false_iff_not]; omega
  have d00 : decide (IntKind.i64.wrap (((X.length + A.length + B.length : Nat) : Int) - ((X.length + A.length : Nat) : Int)) = 1) = false := by
    rw [wsub _ _ (by omega) (by omega), decide_eq_false_iff_not]; omega
  generalize hL : X ++ (A ++ (B ++ Y)) = l at hn hv
  obtain ⟨a, ha⟩ : ∃ a, a = X.length := ⟨_, rfl⟩
  obtain ⟨m, hm⟩ : ∃ m, m = X.length + A.length := ⟨_, rfl⟩
  obtain ⟨b, hb⟩ : ∃ b, b = X.length + A.length + B.length := ⟨_, rfl⟩
  obtain ⟨md, hmd⟩ : ∃ md, md = (a + b) / 2 := ⟨_, rfl⟩
  rw [← hb, ← hm, ← ha]
  rw [← hm, ← ha] at d0
  rw [← hb, ← hm] at d00
  rw [← hb, ← hm, ← ha, ← hmd] at hc
  have hab : a + 2 ≤ m ∧ m + 2 ≤ b ∧ b ≤ n := by omega
  have wm : IntKind.i64.wrap ((IntKind.u64.wrap (IntKind.i64.wrap ((a : Int) + (b : Int)))).fdiv (2 ^ min (Int.toNat 1) IntKind.u64.bits)) = ((md : Nat) : Int) := by rw [hmd]; exact wmid a b (by omega) (by omega)
  have wq : IntKind.i64.wrap (IntKind.i64.wrap ((IntKind.u64.wrap (IntKind.i64.wrap ((a : Int) + (b : Int)))).fdiv (2 ^ min (Int.toNat 1) IntKind.u64.bits)) + (m : Int)) = ((md + m : Nat) : Int) := by rw [wm]; exact wadd md m (by omega) (by omega)
  have wp : IntKind.i64.wrap (IntKind.i64.wrap (IntKind.i64.wrap ((IntKind.u64.wrap (IntKind.i64.wrap ((a : Int) + (b : Int)))).fdiv (2 ^ min (Int.toNat 1) IntKind.u64.bits)) + (m : Int)) - 1) = ((md + m - 1 : Nat) : Int) := by rw [wq]; exact wsub (md + m) 1 (by omega) (by omega)
  have wl : b ≤ md + m → IntKind.i64.wrap (IntKind.i64.wrap (IntKind.i64.wrap ((IntKind.u64.wrap (IntKind.i64.wrap ((a : Int) + (b : Int)))).fdiv (2 ^ min (Int.toNat 1) IntKind.u64.bits)) + (m : Int)) - (b : Int)) = ((md + m - b : Nat) : Int) := fun hh => by rw [wq]; exact wsub (md + m) b (by omega) hh
  obtain ⟨lo0, hlo0⟩ : ∃ lo0, lo0 = md + m - b := ⟨_, rfl⟩
  obtain ⟨hi0, hhi0⟩ : ∃ hi0, hi0 = md := ⟨_, rfl⟩
  have hlo : a ≤ lo0 ∧ lo0 ≤ hi0 ∧ hi0 ≤ m ∧ md + m - lo0 ≤ b ∧ m ≤ md + m - hi0 ∧ (lo0 = a ∨ md + m - lo0 = b) ∧ (hi0 = m ∨ md + m - hi0 = m) := by omega
  have d140 : decide (IntKind.i64.wrap ((IntKind.u64.wrap (IntKind.i64.wrap ((a : Int) + (b : Int)))).fdiv (2 ^ min (Int.toNat 1) IntKind.u64.bits)) < (m : Int)) = true := by rw [wm, decide_eq_true_eq]; omega
  refine CallW.intro TT_ok Try.func32 rfl rfl [0, 1, 2, 3, 4, 10, 11, 12, 13, 14, 15, 16, 17, 18, 19, 20, 21, 22, 23, 24, 28, 33, 50, 58, 80, 85, 103, 110, 140, 151, 171, 185, 199, 213, 1000032, 1000033] rfl ?_
  conv => whnf
  repeat' first
    | with_reducible rfl
    | with_reducible exact True.intro
    | with_reducible assumption
    | exact (Bool.false_ne_true (d0.symm.trans h)).elim
    | exact (Bool.false_ne_true (d00.symm.trans h)).elim
    | exact nn (by decide)
    | exact (Bool.false_ne_true (h.symm.trans d140)).elim
    | assumption
    | (refine W.drawn TT_ok hmix1 rfl ?_; conv => whnf)
    | (refine W.drawnM (id := 11) 0 TT_ok hmix1 [0, 0, 0, 0, 0, 0, 0, 0, 0, 0, 0, 0, 0, 0, 0, 0, 1, 1] [0, 0, 1, 1, 1, 0, 0, 0, 0, 0, 0, 0, 0, 0, 0, 1, 1, 2] rfl ?_; conv => whnf)
    | (refine W.drawnM (id := 23) 0 TT_ok hmix1 [0, 0, 0, 0, 0, 0, 0, 0, 0, 0, 0, 0, 0, 0, 0, 0, 1, 1] [0, 0, 1, 1, 1, 0, 0, 0, 0, 0, 0, 0, 0, 0, 0, 1, 1, 2] rfl ?_; conv => whnf)
    | exact absurd (show false = true from h) Bool.false_ne_true
    | exact absurd (show true = false from h) (fun e => Bool.noConfusion e)
    | exact (congrArg Bool.not h)
    | (refine ⟨_, ⟨by first | assumption | decide | omega, by first | assumption | rfl⟩, ?_⟩; conv => whnf)
    | (refine ⟨_, fun _ => ⟨by first | assumption | decide | omega, by first | assumption | rfl⟩, ?_⟩; conv => whnf)
    | exact (rfl : (_ : Nat) = _)
    | exact (rfl : (_ : LV) = _)
    | (refine ⟨fun h => ?_, fun h => ?_⟩ <;> conv => whnf)
    | (refine ⟨?_, ?_⟩ <;> conv => whnf)
    | (intro h; conv => whnf)
    | (refine gand ?_ h; assumption)
  refine LoopW.norm (s32e n a m b md (md + m) lo0 hi0) 1 [(0, .row 31 4 (l.map Vc.cells))] ⟨rfl, rfl, rfl, rfl, rfl, congrArg (LV.int .i64) wm, congrArg (LV.int .i64) wq, congrArg (LV.int .i64) ((wl (by omega)).trans (by rw [hlo0])), congrArg (LV.int .i64) (wm.trans (by rw [hhi0])), congrArg (LV.int .i64) wp, trivial⟩ (hpS _ rfl) ⟨rfl, trivial, trivial, trivial, ⟨trivial, trivial⟩, trivial, trivial, trivial, trivial, trivial, trivial⟩ rfl ?_
  clear d0 d00 d140 wm wq wp wl hlo0 hhi0
  obtain ⟨g1, g2, g3, g4, g5, g6, g7⟩ := hlo
  refine LoopW.ind (α := Nat × Nat) (fun q => q.2 - q.1) (fun q s' H => (lo0 ≤ q.1 ∧ q.1 ≤ q.2 ∧ q.2 ≤ hi0 ∧ (q.1 = lo0 ∨ ∃ x y, l[q.1 - 1]? = some x ∧ l[md + m - q.1]? = some y ∧ ¬ ltV y x) ∧ (q.2 = hi0 ∨ ∃ x y, l[q.2]? = some x ∧ l[md + m - 1 - q.2]? = some y ∧ ltV y x)) ∧ s' = s32e n a m b md (md + m) q.1 q.2 ∧ H = hpV l) ?_ (a := (lo0, hi0)) ⟨⟨Nat.le_refl _, g2, Nat.le_refl _, .inl rfl, .inl rfl⟩, rfl, rfl⟩
  rintro ⟨i, j⟩ s' H ⟨⟨h1, h2, h3, h4, h5⟩, rfl, rfl⟩ ih
  simp only at h1 h2 h3 h4 h5 ih ⊢
  by_cases hij : i < j
  · change LoopW _ _ _ _ _ _ ⟨1, [(0, .row 31 4 (l.map Vc.cells))]⟩
    have d1 : decide ((i : Int) < (j : Int)) = true := by rw [decide_eq_true_eq]; omega
    have hmm := wmid i j (by omega) (by omega)
    obtain ⟨c, hc'⟩ : ∃ c, c = (i + j) / 2 := ⟨_, rfl⟩
    rw [← hc'] at hmm
    have hpl : md + m - 1 - c < l.length := by omega
    have hcl : c < l.length := by omega
    have hy := List.getElem?_eq_getElem hpl
    have hx := List.getElem?_eq_getElem hcl
    have hRy : Rv l[md + m - 1 - c] := hv _ (List.getElem_mem hpl)
    have hRx : Rv l[c] := hv _ (List.getElem_mem hcl)
    generalize l[md + m - 1 - c] = y at hy hRy
    generalize l[c] = x at hx hRx
    have h23 := c23 y x
    generalize hH : IntKind.i64.wrap ((IntKind.u64.wrap (IntKind.i64.wrap ((i : Int) + (j : Int)))).fdiv (2 ^ min (Int.toNat 1) IntKind.u64.bits)) = hh at hmm
    have wpc : IntKind.i64.wrap (((md + m - 1 : Nat) : Int) - hh) = ((md + m - 1 - c : Nat) : Int) := by rw [hmm]; exact wsub (md + m - 1) c (by omega) (by omega)
    have hnx : nth (l.map Vc.cells) (0 + hh.toNat) = some x.cells := by
      rw [nth_eq, hmm, Int.toNat_natCast, Nat.zero_add, List.getElem?_map, hx]; rfl
    have hny : nth (l.map Vc.cells) (0 + (IntKind.i64.wrap (((md + m - 1 : Nat) : Int) - hh)).toNat) = some y.cells := by
      rw [nth_eq, wpc, Int.toNat_natCast, Nat.zero_add, List.getElem?_map, hy]; rfl
    have lo1 : (hh - 0).NonNeg := nn (by rw [hmm]; omega)
    have hi1 : ((n : Int) - (hh + 1)).NonNeg := nn (by rw [hmm]; omega)
    have lo2 : (IntKind.i64.wrap (((md + m - 1 : Nat) : Int) - hh) - 0).NonNeg := nn (by rw [wpc]; omega)
    have hi2 : ((n : Int) - (IntKind.i64.wrap (((md + m - 1 : Nat) : Int) - hh) + 1)).NonNeg := nn (by rw [wpc]; omega)
    have wh : IntKind.i64.wrap (hh + 1) = ((c + 1 : Nat) : Int) := by rw [hmm]; exact w64_nat _ (by omega)
    have hnext : ∀ (i' j' : Nat), (lo0 ≤ i' ∧ i' ≤ j' ∧ j' ≤ hi0 ∧ (i' = lo0 ∨ ∃ x y, l[i' - 1]? = some x ∧ l[md + m - i']? = some y ∧ ¬ ltV y x) ∧ (j' = hi0 ∨ ∃ x y, l[j']? = some x ∧ l[md + m - 1 - j']? = some y ∧ ltV y x)) → j' - i' < j - i → ∀ {s1 : Slots} {H1 : Heap}, subC s1 (s32e n a m b md (md + m) i' j') → look H1.live 0 = some (.row 31 4 (l.map Vc.cells)) → LoopW Try.prog Try.f32.ntmps 1 _ _ s1 H1 := fun i' j' hI hlt {s1} {H1} h1 h2 =>
      LoopW.norm (s32e n a m b md (md + m) i' j') 1 [(0, .row 31 4 (l.map Vc.cells))] h1 (hpS _ h2) ⟨rfl, trivial, trivial, trivial, ⟨trivial, trivial⟩, trivial, trivial, trivial, trivial, trivial, trivial⟩ rfl (ih (i', j') _ _ ⟨hI, rfl, rfl⟩ hlt)
    clear ih
    generalize l.map Vc.cells = R at hnx hny hnext ⊢
    subst hH
    by_cases hlt : ltV y x
    · have hC : (!decide (rnk y x < 0)) = false := by rw [decide_eq_true ((rnk_lt hRy hRx).2 hlt)]; rfl
      refine LoopW.round TT_ok [0, 1, 2, 3, 4, 10, 11, 12, 13, 14, 15, 16, 17, 18, 19, 20, 21, 22, 23, 24, 28, 33, 50, 58, 80, 85, 103, 110, 140, 151, 171, 185, 199, 213, 1000032, 1000033] ?_
      conv => whnf
      repeat' first
        | with_reducible rfl
        | with_reducible exact True.intro
        | with_reducible assumption
        | exact lo1
        | exact hi1
        | exact lo2
        | exact hi2
        | exact nn (by decide)
        | exact (Bool.false_ne_true (h.symm.trans d1)).elim
        | exact (Bool.false_ne_true (hC.symm.trans h)).elim
        | (refine CallP.use (h23) ?_; conv => whnf)
        | (refine ⟨_, _, CallP.at (h23), ?_⟩; conv => whnf)
        | (refine ⟨_, fun _ => h23, ?_⟩; conv => whnf)
        | assumption
        | (refine W.drawn TT_ok hmix1 rfl ?_; conv => whnf)
        | (refine W.drawnM (id := 11) 0 TT_ok hmix1 [0, 0, 0, 0, 0, 0, 0, 0, 0, 0, 0, 0, 0, 0, 0, 0, 1, 1] [0, 0, 1, 1, 1, 0, 0, 0, 0, 0, 0, 0, 0, 0, 0, 1, 1, 2] rfl ?_; conv => whnf)
        | (refine W.drawnM (id := 23) 0 TT_ok hmix1 [0, 0, 0, 0, 0, 0, 0, 0, 0, 0, 0, 0, 0, 0, 0, 0, 1, 1] [0, 0, 1, 1, 1, 0, 0, 0, 0, 0, 0, 0, 0, 0, 0, 1, 1, 2] rfl ?_; conv => whnf)
        | exact absurd (show false = true from h) Bool.false_ne_true
        | exact absurd (show true = false from h) (fun e => Bool.noConfusion e)
        | exact (congrArg Bool.not h)
        | (refine ⟨_, ⟨by first | assumption | decide | omega, by first | assumption | rfl⟩, ?_⟩; conv => whnf)
        | (refine ⟨_, fun _ => ⟨by first | assumption | decide | omega, by first | assumption | rfl⟩, ?_⟩; conv => whnf)
        | exact (rfl : (_ : Nat) = _)
        | exact (rfl : (_ : LV) = _)
        | (refine ⟨fun h => ?_, fun h => ?_⟩ <;> conv => whnf)
        | (refine ⟨?_, ?_⟩ <;> conv => whnf)
        | (intro h; conv => whnf)
        | (refine gand ?_ h; assumption)
        | (rw [hnx]; conv => whnf)
        | (rw [hny]; conv => whnf)
      exact hnext i c ⟨h1, by omega, by omega, h4, .inr ⟨x, y, hx, hy, hlt⟩⟩ (by omega) ⟨rfl, rfl, rfl, rfl, rfl, rfl, rfl, rfl, congrArg (LV.int .i64) hmm, rfl, trivial⟩ rfl
    · have hC : (!decide (rnk y x < 0)) = true := by rw [decide_eq_false (fun hh => hlt ((rnk_lt hRy hRx).1 hh))]; rfl
      refine LoopW.round TT_ok [0, 1, 2, 3, 4, 10, 11, 12, 13, 14, 15, 16, 17, 18, 19, 20, 21, 22, 23, 24, 28, 33, 50, 58, 80, 85, 103, 110, 140, 151, 171, 185, 199, 213, 1000032, 1000033] ?_
      conv => whnf
      repeat' first
        | with_reducible rfl
        | with_reducible exact True.intro
        | with_reducible assumption
        | exact lo1
        | exact hi1
        | exact lo2
        | exact hi2
        | exact nn (by decide)
        | exact (Bool.false_ne_true (h.symm.trans d1)).elim
        | exact (Bool.false_ne_true (h.symm.trans hC)).elim
        | (refine CallP.use (h23) ?_; conv => whnf)
        | (refine ⟨_, _, CallP.at (h23), ?_⟩; conv => whnf)
        | (refine ⟨_, fun _ => h23, ?_⟩; conv => whnf)
        | assumption
        | (refine W.drawn TT_ok hmix1 rfl ?_; conv => whnf)
        | (refine W.drawnM (id := 11) 0 TT_ok hmix1 [0, 0, 0, 0, 0, 0, 0, 0, 0, 0, 0, 0, 0, 0, 0, 0, 1, 1] [0, 0, 1, 1, 1, 0, 0, 0, 0, 0, 0, 0, 0, 0, 0, 1, 1, 2] rfl ?_; conv => whnf)
        | (refine W.drawnM (id := 23) 0 TT_ok hmix1 [0, 0, 0, 0, 0, 0, 0, 0, 0, 0, 0, 0, 0, 0, 0, 0, 1, 1] [0, 0, 1, 1, 1, 0, 0, 0, 0, 0, 0, 0, 0, 0, 0, 1, 1, 2] rfl ?_; conv => whnf)
        | exact absurd (show false = true from h) Bool.false_ne_true
        | exact absurd (show true = false from h) (fun e => Bool.noConfusion e)
        | exact (congrArg Bool.not h)
        | (refine ⟨_, ⟨by first | assumption | decide | omega, by first | assumption | rfl⟩, ?_⟩; conv => whnf)
        | (refine ⟨_, fun _ => ⟨by first | assumption | decide | omega, by first | assumption | rfl⟩, ?_⟩; conv => whnf)
        | exact (rfl : (_ : Nat) = _)
        | exact (rfl : (_ : LV) = _)
        | (refine ⟨fun h => ?_, fun h => ?_⟩ <;> conv => whnf)
        | (refine ⟨?_, ?_⟩ <;> conv => whnf)
        | (intro h; conv => whnf)
        | (refine gand ?_ h; assumption)
        | (rw [hnx]; conv => whnf)
        | (rw [hny]; conv => whnf)
      exact hnext (c + 1) j ⟨by omega, by omega, h3, .inr ⟨x, y, hx, by rw [← hy]; congr 1; omega, hlt⟩, h5⟩ (by omega) ⟨rfl, rfl, rfl, rfl, rfl, rfl, rfl, congrArg (LV.int .i64) wh, rfl, rfl, trivial⟩ rfl
  · obtain rfl : i = j := by omega
    have d1 : decide ((i : Int) < (i : Int)) = false := by rw [decide_eq_false_iff_not]; omega
    clear ih hij
    obtain ⟨e, he⟩ : ∃ e, e = md + m - i := ⟨_, rfl⟩
    have we : IntKind.i64.wrap (((md + m : Nat) : Int) - (i : Int)) = ((e : Nat) : Int) := by rw [he]; exact wsub (md + m) i (by omega) (by omega)
    obtain ⟨A1, A2, hA12, hA1⟩ : ∃ A1 A2, A = A1 ++ A2 ∧ i = X.length + A1.length := ⟨A.take (i - a), A.drop (i - a), (List.take_append_drop _ _).symm, by rw [List.length_take]; omega⟩
    obtain ⟨B1, B2, hB12, hB1⟩ : ∃ B1 B2, B = B1 ++ B2 ∧ e = m + B1.length := ⟨B.take (e - m), B.drop (e - m), (List.take_append_drop _ _).symm, by rw [List.length_take]; omega⟩
    have lA : A.length = A1.length + A2.length := by rw [hA12, List.length_append]
    have lB : B.length = B1.length + B2.length := by rw [hB12, List.length_append]
    subst hA12
    subst hB12
    have hfin : ∀ t, Q2 X A1 A2 B1 B2 Y t → K (.tup []) (hpV t) := fun t q => by
      unfold Q2 at q
      obtain ⟨S1, S2, hS1, hS2, rfl⟩ := q
      have e1 : l = X ++ (A1 ++ (A2 ++ (B1 ++ (B2 ++ Y)))) := by rw [← hL]; simp
      have e2 : l = (X ++ A1 ++ A2 ++ B1) ++ (B2 ++ Y) := by rw [e1]; simp
      have e3 : l = (X ++ A1 ++ A2) ++ (B1 ++ (B2 ++ Y)) := by rw [e1]; simp
      have e4 : l = (X ++ A1) ++ (A2 ++ (B1 ++ (B2 ++ Y))) := by rw [e1]; simp
      have := hK (S1 ++ S2) (Mrg.two' leV_refl leV_trans hS1 hS2 (fun x y hx hy => by
        obtain ⟨p1, p2⟩ := last_at (X := X) (Y := A2 ++ (B1 ++ (B2 ++ Y))) hx
        obtain ⟨p3, p4⟩ := head_at (X := X ++ A1 ++ A2 ++ B1) (Y := Y) hy
        rw [← e1] at p2
        rw [← e2] at p4
        rcases h4 with h4 | ⟨x', y', q1, q2, q3⟩
        · omega
        · rw [← hA1, q1] at p2
          rw [show (X ++ A1 ++ A2 ++ B1).length = md + m - i by simp only [List.length_append]; omega, q2] at p4
          cases p2
          cases p4
          exact q3) (fun x y hx hy => by
        obtain ⟨p1, p2⟩ := last_at (X := X ++ A1 ++ A2) (Y := B2 ++ Y) hx
        obtain ⟨p3, p4⟩ := head_at (X := X ++ A1) (Y := B1 ++ (B2 ++ Y)) hy
        rw [← e3] at p2
        rw [← e4] at p4
        rcases h5 with h5 | ⟨x', y', q1, q2, q3⟩
        · omega
        · rw [show (X ++ A1 ++ A2).length + B1.length - 1 = md + m - 1 - i by simp only [List.length_append]; omega, q2] at p2
          rw [show (X ++ A1).length = i by rw [List.length_append]; omega, q1] at p4
          cases p2
          cases p4
          exact ltV_le q3))
      rw [List.append_assoc] at this
      exact this
    have hrot : ROT l i m e (X ++ (A1 ++ (B1 ++ (A2 ++ (B2 ++ Y))))) := by
      rw [← hL]
      exact rotV X A1 A2 B1 B2 Y hA1 (by omega) hB1
    have hnt : n = (X ++ (A1 ++ (B1 ++ (A2 ++ (B2 ++ Y))))).length := by simp only [List.length_append]; omega
    have hvt : ∀ v ∈ X ++ (A1 ++ (B1 ++ (A2 ++ (B2 ++ Y)))), Rv v := fun v hm => hv v (by
      rw [← hL]
      simp only [List.mem_append] at hm ⊢
      rcases hm with h | h | h | h | h | h
      · exact .inl h
      · exact .inr (.inl (.inl h))
      · exact .inr (.inr (.inl (.inl h)))
      · exact .inr (.inl (.inr h))
      · exact .inr (.inr (.inl (.inr h)))
      · exact .inr (.inr (.inr h)))
    have hsame : ¬ (i < m ∧ m < e) → l = X ++ (A1 ++ (B1 ++ (A2 ++ (B2 ++ Y)))) := fun hno => by
      rw [← hL]
      have : A2 = [] ∨ B1 = [] := by
        rcases Nat.eq_zero_or_pos A2.length with h | h
        · exact .inl (List.eq_nil_of_length_eq_zero h)
        · exact .inr (List.eq_nil_of_length_eq_zero (by omega))
      rcases this with rfl | rfl <;> simp
    have hno1 : ¬ (a < i ∧ i < md) → A1 = [] ∨ B1 = [] := fun hno => by
      rcases Nat.eq_zero_or_pos A1.length with h | h
      · exact .inl (List.eq_nil_of_length_eq_zero h)
      · exact .inr (List.eq_nil_of_length_eq_zero (by omega))
    have hno2 : ¬ (md < e ∧ e < b) → A2 = [] ∨ B2 = [] := fun hno => by
      rcases Nat.eq_zero_or_pos A2.length with h | h
      · exact .inl (List.eq_nil_of_length_eq_zero h)
      · exact .inr (List.eq_nil_of_length_eq_zero (by omega))
    generalize ht : X ++ (A1 ++ (B1 ++ (A2 ++ (B2 ++ Y)))) = t at hrot hsame
    have bd : ∀ (p q : Prop) [Decidable p] [Decidable q], (p ∧ q) → (bif decide p then decide q else false) = true := fun p q _ _ ⟨hp, hq⟩ => by rw [decide_eq_true hp, decide_eq_true hq]; rfl
    have bn : ∀ (p q : Prop) [Decidable p] [Decidable q], ¬ (p ∧ q) → (bif decide p then decide q else false) = false := fun p q _ _ hno => by
      by_cases hp : p
      · rw [decide_eq_true hp, decide_eq_false (fun hq => hno ⟨hp, hq⟩)]; rfl
      · rw [decide_eq_false hp]; rfl
    by_cases ca : i < m ∧ m < e
    · have da := bd ((i : Int) < (m : Int)) ((m : Int) < IntKind.i64.wrap (((md + m : Nat) : Int) - (i : Int))) ⟨by omega, by rw [we]; omega⟩
      by_cases cb : a < i ∧ i < md
      · have db := bd ((a : Int) < (i : Int)) ((i : Int) < (md : Int)) ⟨by omega, by omega⟩
        by_cases cg : md < e ∧ e < b
        · have dg := bd ((md : Int) < IntKind.i64.wrap (((md + m : Nat) : Int) - (i : Int))) (IntKind.i64.wrap (((md + m : Nat) : Int) - (i : Int)) < (b : Int)) ⟨by rw [we]; omega, by rw [we]; omega⟩
          refine LoopW.round TT_ok [0, 1, 2, 3, 4, 10, 11, 12, 13, 14, 15, 16, 17, 18, 19, 20, 21, 22, 23, 24, 28, 33, 50, 58, 80, 85, 103, 110, 140, 151, 171, 185, 199, 213, 1000032, 1000033] ?_
          conv => whnf
          repeat' first
            | with_reducible rfl
            | with_reducible exact True.intro
            | with_reducible assumption
            | exact (Bool.false_ne_true (d1.symm.trans h)).elim
            | exact (Bool.false_ne_true (h.symm.trans da)).elim
            | exact (Bool.false_ne_true (h.symm.trans db)).elim
            | exact (Bool.false_ne_true (h.symm.trans dg)).elim
            | assumption
            | (refine W.drawn TT_ok hmix1 rfl ?_; conv => whnf)
            | (refine W.drawnM (id := 11) 0 TT_ok hmix1 [0, 0, 0, 0, 0, 0, 0, 0, 0, 0, 0, 0, 0, 0, 0, 0, 1, 1] [0, 0, 1, 1, 1, 0, 0, 0, 0, 0, 0, 0, 0, 0, 0, 1, 1, 2] rfl ?_; conv => whnf)
            | (refine W.drawnM (id := 23) 0 TT_ok hmix1 [0, 0, 0, 0, 0, 0, 0, 0, 0, 0, 0, 0, 0, 0, 0, 0, 1, 1] [0, 0, 1, 1, 1, 0, 0, 0, 0, 0, 0, 0, 0, 0, 0, 1, 1, 2] rfl ?_; conv => whnf)
            | exact absurd (show false = true from h) Bool.false_ne_true
            | exact absurd (show true = false from h) (fun e => Bool.noConfusion e)
            | exact (congrArg Bool.not h)
            | (refine ⟨_, ⟨by first | assumption | decide | omega, by first | assumption | rfl⟩, ?_⟩; conv => whnf)
            | (refine ⟨_, fun _ => ⟨by first | assumption | decide | omega, by first | assumption | rfl⟩, ?_⟩; conv => whnf)
            | exact (rfl : (_ : Nat) = _)
            | exact (rfl : (_ : LV) = _)
            | (refine ⟨fun h => ?_, fun h => ?_⟩ <;> conv => whnf)
            | (refine ⟨?_, ?_⟩ <;> conv => whnf)
            | (intro h; conv => whnf)
            | (refine gand ?_ h; assumption)
          refine c33' l t n i m e hn hl ca.1 ca.2 (by omega) hrot we ?_
          conv => whnf
          repeat' first
            | with_reducible rfl
            | with_reducible exact True.intro
            | with_reducible assumption
            | exact (Bool.false_ne_true (d1.symm.trans h)).elim
            | exact (Bool.false_ne_true (h.symm.trans da)).elim
            | exact (Bool.false_ne_true (h.symm.trans db)).elim
            | exact (Bool.false_ne_true (h.symm.trans dg)).elim
            | assumption
            | (refine W.drawn TT_ok hmix1 rfl ?_; conv => whnf)
            | (refine W.drawnM (id := 11) 0 TT_ok hmix1 [0, 0, 0, 0, 0, 0, 0, 0, 0, 0, 0, 0, 0, 0, 0, 0, 1, 1] [0, 0, 1, 1, 1, 0, 0, 0, 0, 0, 0, 0, 0, 0, 0, 1, 1, 2] rfl ?_; conv => whnf)
            | (refine W.drawnM (id := 23) 0 TT_ok hmix1 [0, 0, 0, 0, 0, 0, 0, 0, 0, 0, 0, 0, 0, 0, 0, 0, 1, 1] [0, 0, 1, 1, 1, 0, 0, 0, 0, 0, 0, 0, 0, 0, 0, 1, 1, 2] rfl ?_; conv => whnf)
            | exact absurd (show false = true from h) Bool.false_ne_true
            | exact absurd (show true = false from h) (fun e => Bool.noConfusion e)
            | exact (congrArg Bool.not h)
            | (refine ⟨_, ⟨by first | assumption | decide | omega, by first | assumption | rfl⟩, ?_⟩; conv => whnf)
            | (refine ⟨_, fun _ => ⟨by first | assumption | decide | omega, by first | assumption | rfl⟩, ?_⟩; conv => whnf)
            | exact (rfl : (_ : Nat) = _)
            | exact (rfl : (_ : LV) = _)
            | (refine ⟨fun h => ?_, fun h => ?_⟩ <;> conv => whnf)
            | (refine ⟨?_, ?_⟩ <;> conv => whnf)
            | (intro h; conv => whnf)
            | (refine gand ?_ h; assumption)
          rw [← ht]
          refine beta32 ihN X A1 A2 B1 B2 Y n hnt hl hvt (by omega) (by omega) (by omega) (by rw [ha]) (by rw [hA1]) (show (md : Int) = _ by congr 1; omega) ?_
          intro t1 q1
          conv => whnf
          repeat' first
            | with_reducible rfl
            | with_reducible exact True.intro
            | with_reducible assumption
            | exact (Bool.false_ne_true (d1.symm.trans h)).elim
            | exact (Bool.false_ne_true (h.symm.trans da)).elim
            | exact (Bool.false_ne_true (h.symm.trans db)).elim
            | exact (Bool.false_ne_true (h.symm.trans dg)).elim
            | assumption
            | (refine W.drawn TT_ok hmix1 rfl ?_; conv => whnf)
            | (refine W.drawnM (id := 11) 0 TT_ok hmix1 [0, 0, 0, 0, 0, 0, 0, 0, 0, 0, 0, 0, 0, 0, 0, 0, 1, 1] [0, 0, 1, 1, 1, 0, 0, 0, 0, 0, 0, 0, 0, 0, 0, 1, 1, 2] rfl ?_; conv => whnf)
            | (refine W.drawnM (id := 23) 0 TT_ok hmix1 [0, 0, 0, 0, 0, 0, 0, 0, 0, 0, 0, 0, 0, 0, 0, 0, 1, 1] [0, 0, 1, 1, 1, 0, 0, 0, 0, 0, 0, 0, 0, 0, 0, 1, 1, 2] rfl ?_; conv => whnf)
            | exact absurd (show false = true from h) Bool.false_ne_true
            | exact absurd (show true = false from h) (fun e => Bool.noConfusion e)
            | exact (congrArg Bool.not h)
            | (refine ⟨_, ⟨by first | assumption | decide | omega, by first | assumption | rfl⟩, ?_⟩; conv => whnf)
            | (refine ⟨_, fun _ => ⟨by first | assumption | decide | omega, by first | assumption | rfl⟩, ?_⟩; conv => whnf)
            | exact (rfl : (_ : Nat) = _)
            | exact (rfl : (_ : LV) = _)
            | (refine ⟨fun h => ?_, fun h => ?_⟩ <;> conv => whnf)
            | (refine ⟨?_, ?_⟩ <;> conv => whnf)
            | (intro h; conv => whnf)
            | (refine gand ?_ h; assumption)
          refine gamma32 ihN X A1 A2 B1 B2 Y t1 q1 n hnt hl hvt (by omega) (by omega) (by omega) (show (md : Int) = _ by congr 1; omega) (we.trans (by congr 1; omega)) (show (b : Int) = _ by congr 1; omega) ?_
          intro t2 q2
          conv => whnf
          repeat' first
            | with_reducible rfl
            | with_reducible exact True.intro
            | with_reducible assumption
            | exact (Bool.false_ne_true (d1.symm.trans h)).elim
            | exact (Bool.false_ne_true (h.symm.trans da)).elim
            | exact (Bool.false_ne_true (h.symm.trans db)).elim
            | exact (Bool.false_ne_true (h.symm.trans dg)).elim
            | exact hfin t2 q2
            | assumption
            | (refine W.drawn TT_ok hmix1 rfl ?_; conv => whnf)
            | (refine W.drawnM (id := 11) 0 TT_ok hmix1 [0, 0, 0, 0, 0, 0, 0, 0, 0, 0, 0, 0, 0, 0, 0, 0, 1, 1] [0, 0, 1, 1, 1, 0, 0, 0, 0, 0, 0, 0, 0, 0, 0, 1, 1, 2] rfl ?_; conv => whnf)
            | (refine W.drawnM (id := 23) 0 TT_ok hmix1 [0, 0, 0, 0, 0, 0, 0, 0, 0, 0, 0, 0, 0, 0, 0, 0, 1, 1] [0, 0, 1, 1, 1, 0, 0, 0, 0, 0, 0, 0, 0, 0, 0, 1, 1, 2] rfl ?_; conv => whnf)
            | exact absurd (show false = true from h) Bool.false_ne_true
            | exact absurd (show true = false from h) (fun e => Bool.noConfusion e)
            | exact (congrArg Bool.not h)
            | (refine ⟨_, ⟨by first | assumption | decide | omega, by first | assumption | rfl⟩, ?_⟩; conv => whnf)
            | (refine ⟨_, fun _ => ⟨by first | assumption | decide | omega, by first | assumption | rfl⟩, ?_⟩; conv => whnf)
            | exact (rfl : (_ : Nat) = _)
            | exact (rfl : (_ : LV) = _)
            | (refine ⟨fun h => ?_, fun h => ?_⟩ <;> conv => whnf)
            | (refine ⟨?_, ?_⟩ <;> conv => whnf)
            | (intro h; conv => whnf)
            | (refine gand ?_ h; assumption)
        · have dg := bn ((md : Int) < IntKind.i64.wrap (((md + m : Nat) : Int) - (i : Int))) (IntKind.i64.wrap (((md + m : Nat) : Int) - (i : Int)) < (b : Int)) (by rw [we]; omega)
          refine LoopW.round TT_ok [0, 1, 2, 3, 4, 10, 11, 12, 13, 14, 15, 16, 17, 18, 19, 20, 21, 22, 23, 24, 28, 33, 50, 58, 80, 85, 103, 110, 140, 151, 171, 185, 199, 213, 1000032, 1000033] ?_
          conv => whnf
          repeat' first
            | with_reducible rfl
            | with_reducible exact True.intro
            | with_reducible assumption
            | exact (Bool.false_ne_true (d1.symm.trans h)).elim
            | exact (Bool.false_ne_true (h.symm.trans da)).elim
            | exact (Bool.false_ne_true (h.symm.trans db)).elim
            | exact (Bool.false_ne_true (dg.symm.trans h)).elim
            | assumption
            | (refine W.drawn TT_ok hmix1 rfl ?_; conv => whnf)
            | (refine W.drawnM (id := 11) 0 TT_ok hmix1 [0, 0, 0, 0, 0, 0, 0, 0, 0, 0, 0, 0, 0, 0, 0, 0, 1, 1] [0, 0, 1, 1, 1, 0, 0, 0, 0, 0, 0, 0, 0, 0, 0, 1, 1, 2] rfl ?_; conv => whnf)
            | (refine W.drawnM (id := 23) 0 TT_ok hmix1 [0, 0, 0, 0, 0, 0, 0, 0, 0, 0, 0, 0, 0, 0, 0, 0, 1, 1] [0, 0, 1, 1, 1, 0, 0, 0, 0, 0, 0, 0, 0, 0, 0, 1, 1, 2] rfl ?_; conv => whnf)
            | exact absurd (show false = true from h) Bool.false_ne_true
            | exact absurd (show true = false from h) (fun e => Bool.noConfusion e)
            | exact (congrArg Bool.not h)
            | (refine ⟨_, ⟨by first | assumption | decide | omega, by first | assumption | rfl⟩, ?_⟩; conv => whnf)
            | (refine ⟨_, fun _ => ⟨by first | assumption | decide | omega, by first | assumption | rfl⟩, ?_⟩; conv => whnf)
            | exact (rfl : (_ : Nat) = _)
            | exact (rfl : (_ : LV) = _)
            | (refine ⟨fun h => ?_, fun h => ?_⟩ <;> conv => whnf)
            | (refine ⟨?_, ?_⟩ <;> conv => whnf)
            | (intro h; conv => whnf)
            | (refine gand ?_ h; assumption)
          refine c33' l t n i m e hn hl ca.1 ca.2 (by omega) hrot we ?_
          conv => whnf
          repeat' first
            | with_reducible rfl
            | with_reducible exact True.intro
            | with_reducible assumption
            | exact (Bool.false_ne_true (d1.symm.trans h)).elim
            | exact (Bool.false_ne_true (h.symm.trans da)).elim
            | exact (Bool.false_ne_true (h.symm.trans db)).elim
            | exact (Bool.false_ne_true (dg.symm.trans h)).elim
            | assumption
            | (refine W.drawn TT_ok hmix1 rfl ?_; conv => whnf)
            | (refine W.drawnM (id := 11) 0 TT_ok hmix1 [0, 0, 0, 0, 0, 0, 0, 0, 0, 0, 0, 0, 0, 0, 0, 0, 1, 1] [0, 0, 1, 1, 1, 0, 0, 0, 0, 0, 0, 0, 0, 0, 0, 1, 1, 2] rfl ?_; conv => whnf)
            | (refine W.drawnM (id := 23) 0 TT_ok hmix1 [0, 0, 0, 0, 0, 0, 0, 0, 0, 0, 0, 0, 0, 0, 0, 0, 1, 1] [0, 0, 1, 1, 1, 0, 0, 0, 0, 0, 0, 0, 0, 0, 0, 1, 1, 2] rfl ?_; conv => whnf)
            | exact absurd (show false = true from h) Bool.false_ne_true
            | exact absurd (show true = false from h) (fun e => Bool.noConfusion e)
            | exact (congrArg Bool.not h)
            | (refine ⟨_, ⟨by first | assumption | decide | omega, by first | assumption | rfl⟩, ?_⟩; conv => whnf)
            | (refine ⟨_, fun _ => ⟨by first | assumption | decide | omega, by first | assumption | rfl⟩, ?_⟩; conv => whnf)
            | exact (rfl : (_ : Nat) = _)
            | exact (rfl : (_ : LV) = _)
            | (refine ⟨fun h => ?_, fun h => ?_⟩ <;> conv => whnf)
            | (refine ⟨?_, ?_⟩ <;> conv => whnf)
            | (intro h; conv => whnf)
            | (refine gand ?_ h; assumption)
          rw [← ht]
          refine beta32 ihN X A1 A2 B1 B2 Y n hnt hl hvt (by omega) (by omega) (by omega) (by rw [ha]) (by rw [hA1]) (show (md : Int) = _ by congr 1; omega) ?_
          intro t1 q1
          conv => whnf
          repeat' first
            | with_reducible rfl
            | with_reducible exact True.intro
            | with_reducible assumption
            | exact (Bool.false_ne_true (d1.symm.trans h)).elim
            | exact (Bool.false_ne_true (h.symm.trans da)).elim
            | exact (Bool.false_ne_true (h.symm.trans db)).elim
            | exact (Bool.false_ne_true (dg.symm.trans h)).elim
            | exact hfin _ (nil_q2 (hno2 cg) q1)
            | assumption
            | (refine W.drawn TT_ok hmix1 rfl ?_; conv => whnf)
            | (refine W.drawnM (id := 11) 0 TT_ok hmix1 [0, 0, 0, 0, 0, 0, 0, 0, 0, 0, 0, 0, 0, 0, 0, 0, 1, 1] [0, 0, 1, 1, 1, 0, 0, 0, 0, 0, 0, 0, 0, 0, 0, 1, 1, 2] rfl ?_; conv => whnf)
            | (refine W.drawnM (id := 23) 0 TT_ok hmix1 [0, 0, 0, 0, 0, 0, 0, 0, 0, 0, 0, 0, 0, 0, 0, 0, 1, 1] [0, 0, 1, 1, 1, 0, 0, 0, 0, 0, 0, 0, 0, 0, 0, 1, 1, 2] rfl ?_; conv => whnf)
            | exact absurd (show false = true from h) Bool.false_ne_true
            | exact absurd (show true = false from h) (fun e => Bool.noConfusion e)
            | exact (congrArg Bool.not h)
            | (refine ⟨_, ⟨by first | assumption | decide | omega, by first | assumption | rfl⟩, ?_⟩; conv => whnf)
            | (refine ⟨_, fun _ => ⟨by first | assumption | decide | omega, by first | assumption | rfl⟩, ?_⟩; conv => whnf)
            | exact (rfl : (_ : Nat) = _)
            | exact (rfl : (_ : LV) = _)
            | (refine ⟨fun h => ?_, fun h => ?_⟩ <;> conv => whnf)
            | (refine ⟨?_, ?_⟩ <;> conv => whnf)
            | (intro h; conv => whnf)
            | (refine gand ?_ h; assumption)
      · have db := bn ((a : Int) < (i : Int)) ((i : Int) < (md : Int)) (by omega)
        have q1 : Q1 X A1 A2 B1 B2 Y (X ++ (A1 ++ (B1 ++ (A2 ++ (B2 ++ Y))))) := nil_q1 X A1 A2 B1 B2 Y (hno1 cb)
        rw [ht] at q1
        by_cases cg : md < e ∧ e < b
        · have dg := bd ((md : Int) < IntKind.i64.wrap (((md + m : Nat) : Int) - (i : Int))) (IntKind.i64.wrap (((md + m : Nat) : Int) - (i : Int)) < (b : Int)) ⟨by rw [we]; omega, by rw [we]; omega⟩
          refine LoopW.round TT_ok [0, 1, 2, 3, 4, 10, 11, 12, 13, 14, 15, 16, 17, 18, 19, 20, 21, 22, 23, 24, 28, 33, 50, 58, 80, 85, 103, 110, 140, 151, 171, 185, 199, 213, 1000032, 1000033] ?_
          conv => whnf
          repeat' first
            | with_reducible rfl
            | with_reducible exact True.intro
            | with_reducible assumption
            | exact (Bool.false_ne_true (d1.symm.trans h)).elim
            | exact (Bool.false_ne_true (h.symm.trans da)).elim
            | exact (Bool.false_ne_true (db.symm.trans h)).elim
            | exact (Bool.false_ne_true (h.symm.trans dg)).elim
            | assumption
            | (refine W.drawn TT_ok hmix1 rfl ?_; conv => whnf)
            | (refine W.drawnM (id := 11) 0 TT_ok hmix1 [0, 0, 0, 0, 0, 0, 0, 0, 0, 0, 0, 0, 0, 0, 0, 0, 1, 1] [0, 0, 1, 1, 1, 0, 0, 0, 0, 0, 0, 0, 0, 0, 0, 1, 1, 2] rfl ?_; conv => whnf)
            | (refine W.drawnM (id := 23) 0 TT_ok hmix1 [0, 0, 0, 0, 0, 0, 0, 0, 0, 0, 0, 0, 0, 0, 0, 0, 1, 1] [0, 0, 1, 1, 1, 0, 0, 0, 0, 0, 0, 0, 0, 0, 0, 1, 1, 2] rfl ?_; conv => whnf)
            | exact absurd (show false = true from h) Bool.false_ne_true
            | exact absurd (show true = false from h) (fun e => Bool.noConfusion e)
            | exact (congrArg Bool.not h)
            | (refine ⟨_, ⟨by first | assumption | decide | omega, by first | assumption | rfl⟩, ?_⟩; conv => whnf)
            | (refine ⟨_, fun _ => ⟨by first | assumption | decide | omega, by first | assumption | rfl⟩, ?_⟩; conv => whnf)
            | exact (rfl : (_ : Nat) = _)
            | exact (rfl : (_ : LV) = _)
            | (refine ⟨fun h => ?_, fun h => ?_⟩ <;> conv => whnf)
            | (refine ⟨?_, ?_⟩ <;> conv => whnf)
            | (intro h; conv => whnf)
            | (refine gand ?_ h; assumption)
          refine c33' l t n i m e hn hl ca.1 ca.2 (by omega) hrot we ?_
          conv => whnf
          repeat' first
            | with_reducible rfl
            | with_reducible exact True.intro
            | with_reducible assumption
            | exact (Bool.false_ne_true (d1.symm.trans h)).elim
            | exact (Bool.false_ne_true (h.symm.trans da)).elim
            | exact (Bool.false_ne_true (db.symm.trans h)).elim
            | exact (Bool.false_ne_true (h.symm.trans dg)).elim
            | assumption
            | (refine W.drawn TT_ok hmix1 rfl ?_; conv => whnf)
            | (refine W.drawnM (id := 11) 0 TT_ok hmix1 [0, 0, 0, 0, 0, 0, 0, 0, 0, 0, 0, 0, 0, 0, 0, 0, 1, 1] [0, 0, 1, 1, 1, 0, 0, 0, 0, 0, 0, 0, 0, 0, 0, 1, 1, 2] rfl ?_; conv => whnf)
            | (refine W.drawnM (id := 23) 0 TT_ok hmix1 [0, 0, 0, 0, 0, 0, 0, 0, 0, 0, 0, 0, 0, 0, 0, 0, 1, 1] [0, 0, 1, 1, 1, 0, 0, 0, 0, 0, 0, 0, 0, 0, 0, 1, 1, 2] rfl ?_; conv => whnf)
            | exact absurd (show false = true from h) Bool.false_ne_true
            | exact absurd (show true = false from h) (fun e => Bool.noConfusion e)
            | exact (congrArg Bool.not h)
            | (refine ⟨_, ⟨by first | assumption | decide | omega, by first | assumption | rfl⟩, ?_⟩; conv => whnf)
            | (refine ⟨_, fun _ => ⟨by first | assumption | decide | omega, by first | assumption | rfl⟩, ?_⟩; conv => whnf)
            | exact (rfl : (_ : Nat) = _)
            | exact (rfl : (_ : LV) = _)
            | (refine ⟨fun h => ?_, fun h => ?_⟩ <;> conv => whnf)
            | (refine ⟨?_, ?_⟩ <;> conv => whnf)
            | (intro h; conv => whnf)
            | (refine gand ?_ h; assumption)
          refine gamma32 ihN X A1 A2 B1 B2 Y t q1 n hnt hl hvt (by omega) (by omega) (by omega) (show (md : Int) = _ by congr 1; omega) (we.trans (by congr 1; omega)) (show (b : Int) = _ by congr 1; omega) ?_
          intro t2 q2
          conv => whnf
          repeat' first
            | with_reducible rfl
            | with_reducible exact True.intro
            | with_reducible assumption
            | exact (Bool.false_ne_true (d1.symm.trans h)).elim
            | exact (Bool.false_ne_true (h.symm.trans da)).elim
            | exact (Bool.false_ne_true (db.symm.trans h)).elim
            | exact (Bool.false_ne_true (h.symm.trans dg)).elim
            | exact hfin t2 q2
            | assumption
            | (refine W.drawn TT_ok hmix1 rfl ?_; conv => whnf)
            | (refine W.drawnM (id := 11) 0 TT_ok hmix1 [0, 0, 0, 0, 0, 0, 0, 0, 0, 0, 0, 0, 0, 0, 0, 0, 1, 1] [0, 0, 1, 1, 1, 0, 0, 0, 0, 0, 0, 0, 0, 0, 0, 1, 1, 2] rfl ?_; conv => whnf)
            | (refine W.drawnM (id := 23) 0 TT_ok hmix1 [0, 0, 0, 0, 0, 0, 0, 0, 0, 0, 0, 0, 0, 0, 0, 0, 1, 1] [0, 0, 1, 1, 1, 0, 0, 0, 0, 0, 0, 0, 0, 0, 0, 1, 1, 2] rfl ?_; conv => whnf)
            | exact absurd (show false = true from h) Bool.false_ne_true
            | exact absurd (show true = false from h) (fun e => Bool.noConfusion e)
            | exact (congrArg Bool.not h)
            | (refine ⟨_, ⟨by first | assumption | decide | omega, by first | assumption | rfl⟩, ?_⟩; conv => whnf)
            | (refine ⟨_, fun _ => ⟨by first | assumption | decide | omega, by first | assumption | rfl⟩, ?_⟩; conv => whnf)
            | exact (rfl : (_ : Nat) = _)
            | exact (rfl : (_ : LV) = _)
            | (refine ⟨fun h => ?_, fun h => ?_⟩ <;> conv => whnf)
            | (refine ⟨?_, ?_⟩ <;> conv => whnf)
            | (intro h; conv => whnf)
            | (refine gand ?_ h; assumption)
        · have dg := bn ((md : Int) < IntKind.i64.wrap (((md + m : Nat) : Int) - (i : Int))) (IntKind.i64.wrap (((md + m : Nat) : Int) - (i : Int)) < (b : Int)) (by rw [we]; omega)
          refine LoopW.round TT_ok [0, 1, 2, 3, 4, 10, 11, 12, 13, 14, 15, 16, 17, 18, 19, 20, 21, 22, 23, 24, 28, 33, 50, 58, 80, 85, 103, 110, 140, 151, 171, 185, 199, 213, 1000032, 1000033] ?_
          conv => whnf
          repeat' first
            | with_reducible rfl
            | with_reducible exact True.intro
            | with_reducible assumption
            | exact (Bool.false_ne_true (d1.symm.trans h)).elim
            | exact (Bool.false_ne_true (h.symm.trans da)).elim
            | exact (Bool.false_ne_true (db.symm.trans h)).elim
            | exact (Bool.false_ne_true (dg.symm.trans h)).elim
            | assumption
            | (refine W.drawn TT_ok hmix1 rfl ?_; conv => whnf)
            | (refine W.drawnM (id := 11) 0 TT_ok hmix1 [0, 0, 0, 0, 0, 0, 0, 0, 0, 0, 0, 0, 0, 0, 0, 0, 1, 1] [0, 0, 1, 1, 1, 0, 0, 0, 0, 0, 0, 0, 0, 0, 0, 1, 1, 2] rfl ?_; conv => whnf)
            | (refine W.drawnM (id := 23) 0 TT_ok hmix1 [0, 0, 0, 0, 0, 0, 0, 0, 0, 0, 0, 0, 0, 0, 0, 0, 1, 1] [0, 0, 1, 1, 1, 0, 0, 0, 0, 0, 0, 0, 0, 0, 0, 1, 1, 2] rfl ?_; conv => whnf)
            | exact absurd (show false = true from h) Bool.false_ne_true
            | exact absurd (show true = false from h) (fun e => Bool.noConfusion e)
            | exact (congrArg Bool.not h)
            | (refine ⟨_, ⟨by first | assumption | decide | omega, by first | assumption | rfl⟩, ?_⟩; conv => whnf)
            | (refine ⟨_, fun _ => ⟨by first | assumption | decide | omega, by first | assumption | rfl⟩, ?_⟩; conv => whnf)
            | exact (rfl : (_ : Nat) = _)
            | exact (rfl : (_ : LV) = _)
            | (refine ⟨fun h => ?_, fun h => ?_⟩ <;> conv => whnf)
            | (refine ⟨?_, ?_⟩ <;> conv => whnf)
            | (intro h; conv => whnf)
            | (refine gand ?_ h; assumption)
          refine c33' l t n i m e hn hl ca.1 ca.2 (by omega) hrot we ?_
          conv => whnf
          repeat' first
            | with_reducible rfl
            | with_reducible exact True.intro
            | with_reducible assumption
            | exact (Bool.false_ne_true (d1.symm.trans h)).elim
            | exact (Bool.false_ne_true (h.symm.trans da)).elim
            | exact (Bool.false_ne_true (db.symm.trans h)).elim
            | exact (Bool.false_ne_true (dg.symm.trans h)).elim
            | exact hfin _ (nil_q2 (hno2 cg) q1)
            | assumption
            | (refine W.drawn TT_ok hmix1 rfl ?_; conv => whnf)
            | (refine W.drawnM (id := 11) 0 TT_ok hmix1 [0, 0, 0, 0, 0, 0, 0, 0, 0, 0, 0, 0, 0, 0, 0, 0, 1, 1] [0, 0, 1, 1, 1, 0, 0, 0, 0, 0, 0, 0, 0, 0, 0, 1, 1, 2] rfl ?_; conv => whnf)
            | (refine W.drawnM (id := 23) 0 TT_ok hmix1 [0, 0, 0, 0, 0, 0, 0, 0, 0, 0, 0, 0, 0, 0, 0, 0, 1, 1] [0, 0, 1, 1, 1, 0, 0, 0, 0, 0, 0, 0, 0, 0, 0, 1, 1, 2] rfl ?_; conv => whnf)
            | exact absurd (show false = true from h) Bool.false_ne_true
            | exact absurd (show true = false from h) (fun e => Bool.noConfusion e)
            | exact (congrArg Bool.not h)
            | (refine ⟨_, ⟨by first | assumption | decide | omega, by first | assumption | rfl⟩, ?_⟩; conv => whnf)
            | (refine ⟨_, fun _ => ⟨by first | assumption | decide | omega, by first | assumption | rfl⟩, ?_⟩; conv => whnf)
            | exact (rfl : (_ : Nat) = _)
            | exact (rfl : (_ : LV) = _)
            | (refine ⟨fun h => ?_, fun h => ?_⟩ <;> conv => whnf)
            | (refine ⟨?_, ?_⟩ <;> conv => whnf)
            | (intro h; conv => whnf)
            | (refine gand ?_ h; assumption)
    
    · have da := bn ((i : Int) < (m : Int)) ((m : Int) < IntKind.i64.wrap (((md + m : Nat) : Int) - (i : Int))) (by rw [we]; omega)
      obtain rfl := hsame ca
      by_cases cb : a < i ∧ i < md
      · have db := bd ((a : Int) < (i : Int)) ((i : Int) < (md : Int)) ⟨by omega, by omega⟩
        by_cases cg : md < e ∧ e < b
        · have dg := bd ((md : Int) < IntKind.i64.wrap (((md + m : Nat) : Int) - (i : Int))) (IntKind.i64.wrap (((md + m : Nat) : Int) - (i : Int)) < (b : Int)) ⟨by rw [we]; omega, by rw [we]; omega⟩
          refine LoopW.round TT_ok [0, 1, 2, 3, 4, 10, 11, 12, 13, 14, 15, 16, 17, 18, 19, 20, 21, 22, 23, 24, 28, 33, 50, 58, 80, 85, 103, 110, 140, 151, 171, 185, 199, 213, 1000032, 1000033] ?_
          conv => whnf
          repeat' first
            | with_reducible rfl
            | with_reducible exact True.intro
            | with_reducible assumption
            | exact (Bool.false_ne_true (d1.symm.trans h)).elim
            | exact (Bool.false_ne_true (da.symm.trans h)).elim
            | exact (Bool.false_ne_true (h.symm.trans db)).elim
            | exact (Bool.false_ne_true (h.symm.trans dg)).elim
            | assumption
            | (refine W.drawn TT_ok hmix1 rfl ?_; conv => whnf)
            | (refine W.drawnM (id := 11) 0 TT_ok hmix1 [0, 0, 0, 0, 0, 0, 0, 0, 0, 0, 0, 0, 0, 0, 0, 0, 1, 1] [0, 0, 1, 1, 1, 0, 0, 0, 0, 0, 0, 0, 0, 0, 0, 1, 1, 2] rfl ?_; conv => whnf)
            | (refine W.drawnM (id := 23) 0 TT_ok hmix1 [0, 0, 0, 0, 0, 0, 0, 0, 0, 0, 0, 0, 0, 0, 0, 0, 1, 1] [0, 0, 1, 1, 1, 0, 0, 0, 0, 0, 0, 0, 0, 0, 0, 1, 1, 2] rfl ?_; conv => whnf)
            | exact absurd (show false = true from h) Bool.false_ne_true
            | exact absurd (show true = false from h) (fun e => Bool.noConfusion e)
            | exact (congrArg Bool.not h)
            | (refine ⟨_, ⟨by first | assumption | decide | omega, by first | assumption | rfl⟩, ?_⟩; conv => whnf)
            | (refine ⟨_, fun _ => ⟨by first | assumption | decide | omega, by first | assumption | rfl⟩, ?_⟩; conv => whnf)
            | exact (rfl : (_ : Nat) = _)
            | exact (rfl : (_ : LV) = _)
            | (refine ⟨fun h => ?_, fun h => ?_⟩ <;> conv => whnf)
            | (refine ⟨?_, ?_⟩ <;> conv => whnf)
            | (intro h; conv => whnf)
            | (refine gand ?_ h; assumption)
          rw [← ht]
          refine beta32 ihN X A1 A2 B1 B2 Y n hnt hl hvt (by omega) (by omega) (by omega) (by rw [ha]) (by rw [hA1]) (show (md : Int) = _ by congr 1; omega) ?_
          intro t1 q1
          conv => whnf
          repeat' first
            | with_reducible rfl
            | with_reducible exact True.intro
            | with_reducible assumption
            | exact (Bool.false_ne_true (d1.symm.trans h)).elim
            | exact (Bool.false_ne_true (da.symm.trans h)).elim
            | exact (Bool.false_ne_true (h.symm.trans db)).elim
            | exact (Bool.false_ne_true (h.symm.trans dg)).elim
            | assumption
            | (refine W.drawn TT_ok hmix1 rfl ?_; conv => whnf)
            | (refine W.drawnM (id := 11) 0 TT_ok hmix1 [0, 0, 0, 0, 0, 0, 0, 0, 0, 0, 0, 0, 0, 0, 0, 0, 1, 1] [0, 0, 1, 1, 1, 0, 0, 0, 0, 0, 0, 0, 0, 0, 0, 1, 1, 2] rfl ?_; conv => whnf)
            | (refine W.drawnM (id := 23) 0 TT_ok hmix1 [0, 0, 0, 0, 0, 0, 0, 0, 0, 0, 0, 0, 0, 0, 0, 0, 1, 1] [0, 0, 1, 1, 1, 0, 0, 0, 0, 0, 0, 0, 0, 0, 0, 1, 1, 2] rfl ?_; conv => whnf)
            | exact absurd (show false = true from h) Bool.false_ne_true
            | exact absurd (show true = false from h) (fun e => Bool.noConfusion e)
            | exact (congrArg Bool.not h)
            | (refine ⟨_, ⟨by first | assumption | decide | omega, by first | assumption | rfl⟩, ?_⟩; conv => whnf)
            | (refine ⟨_, fun _ => ⟨by first | assumption | decide | omega, by first | assumption | rfl⟩, ?_⟩; conv => whnf)
            | exact (rfl : (_ : Nat) = _)
            | exact (rfl : (_ : LV) = _)
            | (refine ⟨fun h => ?_, fun h => ?_⟩ <;> conv => whnf)
            | (refine ⟨?_, ?_⟩ <;> conv => whnf)
            | (intro h; conv => whnf)
            | (refine gand ?_ h; assumption)
          refine gamma32 ihN X A1 A2 B1 B2 Y t1 q1 n hnt hl hvt (by omega) (by omega) (by omega) (show (md : Int) = _ by congr 1; omega) (we.trans (by congr 1; omega)) (show (b : Int) = _ by congr 1; omega) ?_
          intro t2 q2
          conv => whnf
          repeat' first
            | with_reducible rfl
            | with_reducible exact True.intro
            | with_reducible assumption
            | exact (Bool.false_ne_true (d1.symm.trans h)).elim
            | exact (Bool.false_ne_true (da.symm.trans h)).elim
            | exact (Bool.false_ne_true (h.symm.trans db)).elim
            | exact (Bool.false_ne_true (h.symm.trans dg)).elim
            | exact hfin t2 q2
            | assumption
            | (refine W.drawn TT_ok hmix1 rfl ?_; conv => whnf)
            | (refine W.drawnM (id := 11) 0 TT_ok hmix1 [0, 0, 0, 0, 0, 0, 0, 0, 0, 0, 0, 0, 0, 0, 0, 0, 1, 1] [0, 0, 1, 1, 1, 0, 0, 0, 0, 0, 0, 0, 0, 0, 0, 1, 1, 2] rfl ?_; conv => whnf)
            | (refine W.drawnM (id := 23) 0 TT_ok hmix1 [0, 0, 0, 0, 0, 0, 0, 0, 0, 0, 0, 0, 0, 0, 0, 0, 1, 1] [0, 0, 1, 1, 1, 0, 0, 0, 0, 0, 0, 0, 0, 0, 0, 1, 1, 2] rfl ?_; conv => whnf)
            | exact absurd (show false = true from h) Bool.false_ne_true
            | exact absurd (show true = false from h) (fun e => Bool.noConfusion e)
            | exact (congrArg Bool.not h)
            | (refine ⟨_, ⟨by first | assumption | decide | omega, by first | assumption | rfl⟩, ?_⟩; conv => whnf)
            | (refine ⟨_, fun _ => ⟨by first | assumption | decide | omega, by first | assumption | rfl⟩, ?_⟩; conv => whnf)
            | exact (rfl : (_ : Nat) = _)
            | exact (rfl : (_ : LV) = _)
            | (refine ⟨fun h => ?_, fun h => ?_⟩ <;> conv => whnf)
            | (refine ⟨?_, ?_⟩ <;> conv => whnf)
            | (intro h; conv => whnf)
            | (refine gand ?_ h; assumption)
        · have dg := bn ((md : Int) < IntKind.i64.wrap (((md + m : Nat) : Int) - (i : Int))) (IntKind.i64.wrap (((md + m : Nat) : Int) - (i : Int)) < (b : Int)) (by rw [we]; omega)
          refine LoopW.round TT_ok [0, 1, 2, 3, 4, 10, 11, 12, 13, 14, 15, 16, 17, 18, 19, 20, 21, 22, 23, 24, 28, 33, 50, 58, 80, 85, 103, 110, 140, 151, 171, 185, 199, 213, 1000032, 1000033] ?_
          conv => whnf
          repeat' first
            | with_reducible rfl
            | with_reducible exact True.intro
            | with_reducible assumption
            | exact (Bool.false_ne_true (d1.symm.trans h)).elim
            | exact (Bool.false_ne_true (da.symm.trans h)).elim
            | exact (Bool.false_ne_true (h.symm.trans db)).elim
            | exact (Bool.false_ne_true (dg.symm.trans h)).elim
            | assumption
            | (refine W.drawn TT_ok hmix1 rfl ?_; conv => whnf)
            | (refine W.drawnM (id := 11) 0 TT_ok hmix1 [0, 0, 0, 0, 0, 0, 0, 0, 0, 0, 0, 0, 0, 0, 0, 0, 1, 1] [0, 0, 1, 1, 1, 0, 0, 0, 0, 0, 0, 0, 0, 0, 0, 1, 1, 2] rfl ?_; conv => whnf)
            | (refine W.drawnM (id := 23) 0 TT_ok hmix1 [0, 0, 0, 0, 0, 0, 0, 0, 0, 0, 0, 0, 0, 0, 0, 0, 1, 1] [0, 0, 1, 1, 1, 0, 0, 0, 0, 0, 0, 0, 0, 0, 0, 1, 1, 2] rfl ?_; conv => whnf)
            | exact absurd (show false = true from h) Bool.false_ne_true
            | exact absurd (show true = false from h) (fun e => Bool.noConfusion e)
            | exact (congrArg Bool.not h)
            | (refine ⟨_, ⟨by first | assumption | decide | omega, by first | assumption | rfl⟩, ?_⟩; conv => whnf)
            | (refine ⟨_, fun _ => ⟨by first | assumption | decide | omega, by first | assumption | rfl⟩, ?_⟩; conv => whnf)
            | exact (rfl : (_ : Nat) = _)
            | exact (rfl : (_ : LV) = _)
            | (refine ⟨fun h => ?_, fun h => ?_⟩ <;> conv => whnf)
            | (refine ⟨?_, ?_⟩ <;> conv => whnf)
            | (intro h; conv => whnf)
            | (refine gand ?_ h; assumption)
          rw [← ht]
          refine beta32 ihN X A1 A2 B1 B2 Y n hnt hl hvt (by omega) (by omega) (by omega) (by rw [ha]) (by rw [hA1]) (show (md : Int) = _ by congr 1; omega) ?_
          intro t1 q1
          conv => whnf
          repeat' first
            | with_reducible rfl
            | with_reducible exact True.intro
            | with_reducible assumption
            | exact (Bool.false_ne_true (d1.symm.trans h)).elim
            | exact (Bool.false_ne_true (da.symm.trans h)).elim
            | exact (Bool.false_ne_true (h.symm.trans db)).elim
            | exact (Bool.false_ne_true (dg.symm.trans h)).elim
            | exact hfin _ (nil_q2 (hno2 cg) q1)
            | assumption
            | (refine W.drawn TT_ok hmix1 rfl ?_; conv => whnf)
            | (refine W.drawnM (id := 11) 0 TT_ok hmix1 [0, 0, 0, 0, 0, 0, 0, 0, 0, 0, 0, 0, 0, 0, 0, 0, 1, 1] [0, 0, 1, 1, 1, 0, 0, 0, 0, 0, 0, 0, 0, 0, 0, 1, 1, 2] rfl ?_; conv => whnf)
            | (refine W.drawnM (id := 23) 0 TT_ok hmix1 [0, 0, 0, 0, 0, 0, 0, 0, 0, 0, 0, 0, 0, 0, 0, 0, 1, 1] [0, 0, 1, 1, 1, 0, 0, 0, 0, 0, 0, 0, 0, 0, 0, 1, 1, 2] rfl ?_; conv => whnf)
            | exact absurd (show false = true from h) Bool.false_ne_true
            | exact absurd (show true = false from h) (fun e => Bool.noConfusion e)
            | exact (congrArg Bool.not h)
            | (refine ⟨_, ⟨by first | assumption | decide | omega, by first | assumption | rfl⟩, ?_⟩; conv => whnf)
            | (refine ⟨_, fun _ => ⟨by first | assumption | decide | omega, by first | assumption | rfl⟩, ?_⟩; conv => whnf)
            | exact (rfl : (_ : Nat) = _)
            | exact (rfl : (_ : LV) = _)
            | (refine ⟨fun h => ?_, fun h => ?_⟩ <;> conv => whnf)
            | (refine ⟨?_, ?_⟩ <;> conv => whnf)
            | (intro h; conv => whnf)
            | (refine gand ?_ h; assumption)
      · have db := bn ((a : Int) < (i : Int)) ((i : Int) < (md : Int)) (by omega)
        have q1 : Q1 X A1 A2 B1 B2 Y (X ++ (A1 ++ (B1 ++ (A2 ++ (B2 ++ Y))))) := nil_q1 X A1 A2 B1 B2 Y (hno1 cb)
        rw [ht] at q1
        by_cases cg : md < e ∧ e < b
        · have dg := bd ((md : Int) < IntKind.i64.wrap (((md + m : Nat) : Int) - (i : Int))) (IntKind.i64.wrap (((md + m : Nat) : Int) - (i : Int)) < (b : Int)) ⟨by rw [we]; omega, by rw [we]; omega⟩
          refine LoopW.round TT_ok [0, 1, 2, 3, 4, 10, 11, 12, 13, 14, 15, 16, 17, 18, 19, 20, 21, 22, 23, 24, 28, 33, 50, 58, 80, 85, 103, 110, 140, 151, 171, 185, 199, 213, 1000032, 1000033] ?_
          conv => whnf
          repeat' first
            | with_reducible rfl
            | with_reducible exact True.intro
            | with_reducible assumption
            | exact (Bool.false_ne_true (d1.symm.trans h)).elim
            | exact (Bool.false_ne_true (da.symm.trans h)).elim
            | exact (Bool.false_ne_true (db.symm.trans h)).elim
            | exact (Bool.false_ne_true (h.symm.trans dg)).elim
            | assumption
            | (refine W.drawn TT_ok hmix1 rfl ?_; conv => whnf)
            | (refine W.drawnM (id := 11) 0 TT_ok hmix1 [0, 0, 0, 0, 0, 0, 0, 0, 0, 0, 0, 0, 0, 0, 0, 0, 1, 1] [0, 0, 1, 1, 1, 0, 0, 0, 0, 0, 0, 0, 0, 0, 0, 1, 1, 2] rfl ?_; conv => whnf)
            | (refine W.drawnM (id := 23) 0 TT_ok hmix1 [0, 0, 0, 0, 0, 0, 0, 0, 0, 0, 0, 0, 0, 0, 0, 0, 1, 1] [0, 0, 1, 1, 1, 0, 0, 0, 0, 0, 0, 0, 0, 0, 0, 1, 1, 2] rfl ?_; conv => whnf)
            | exact absurd (show false = true from h) Bool.false_ne_true
            | exact absurd (show true = false from h) (fun e => Bool.noConfusion e)
            | exact (congrArg Bool.not h)
            | (refine ⟨_, ⟨by first | assumption | decide | omega, by first | assumption | rfl⟩, ?_⟩; conv => whnf)
            | (refine ⟨_, fun _ => ⟨by first | assumption | decide | omega, by first | assumption | rfl⟩, ?_⟩; conv => whnf)
            | exact (rfl : (_ : Nat) = _)
            | exact (rfl : (_ : LV) = _)
            | (refine ⟨fun h => ?_, fun h => ?_⟩ <;> conv => whnf)
            | (refine ⟨?_, ?_⟩ <;> conv => whnf)
            | (intro h; conv => whnf)
            | (refine gand ?_ h; assumption)
          refine gamma32 ihN X A1 A2 B1 B2 Y l q1 n hnt hl hvt (by omega) (by omega) (by omega) (show (md : Int) = _ by congr 1; omega) (we.trans (by congr 1; omega)) (show (b : Int) = _ by congr 1; omega) ?_
          intro t2 q2
          conv => whnf
          repeat' first
            | with_reducible rfl
            | with_reducible exact True.intro
            | with_reducible assumption
            | exact (Bool.false_ne_true (d1.symm.trans h)).elim
            | exact (Bool.false_ne_true (da.symm.trans h)).elim
            | exact (Bool.false_ne_true (db.symm.trans h)).elim
            | exact (Bool.false_ne_true (h.symm.trans dg)).elim
            | exact hfin t2 q2
            | assumption
            | (refine W.drawn TT_ok hmix1 rfl ?_; conv => whnf)
            | (refine W.drawnM (id := 11) 0 TT_ok hmix1 [0, 0, 0, 0, 0, 0, 0, 0, 0, 0, 0, 0, 0, 0, 0, 0, 1, 1] [0, 0, 1, 1, 1, 0, 0, 0, 0, 0, 0, 0, 0, 0, 0, 1, 1, 2] rfl ?_; conv => whnf)
            | (refine W.drawnM (id := 23) 0 TT_ok hmix1 [0, 0, 0, 0, 0, 0, 0, 0, 0, 0, 0, 0, 0, 0, 0, 0, 1, 1] [0, 0, 1, 1, 1, 0, 0, 0, 0, 0, 0, 0, 0, 0, 0, 1, 1, 2] rfl ?_; conv => whnf)
            | exact absurd (show false = true from h) Bool.false_ne_true
            | exact absurd (show true = false from h) (fun e => Bool.noConfusion e)
            | exact (congrArg Bool.not h)
            | (refine ⟨_, ⟨by first | assumption | decide | omega, by first | assumption | rfl⟩, ?_⟩; conv => whnf)
            | (refine ⟨_, fun _ => ⟨by first | assumption | decide | omega, by first | assumption | rfl⟩, ?_⟩; conv => whnf)
            | exact (rfl : (_ : Nat) = _)
            | exact (rfl : (_ : LV) = _)
            | (refine ⟨fun h => ?_, fun h => ?_⟩ <;> conv => whnf)
            | (refine ⟨?_, ?_⟩ <;> conv => whnf)
            | (intro h; conv => whnf)
            | (refine gand ?_ h; assumption)
        · have dg := bn ((md : Int) < IntKind.i64.wrap (((md + m : Nat) : Int) - (i : Int))) (IntKind.i64.wrap (((md + m : Nat) : Int) - (i : Int)) < (b : Int)) (by rw [we]; omega)
          refine LoopW.round TT_ok [0, 1, 2, 3, 4, 10, 11, 12, 13, 14, 15, 16, 17, 18, 19, 20, 21, 22, 23, 24, 28, 33, 50, 58, 80, 85, 103, 110, 140, 151, 171, 185, 199, 213, 1000032, 1000033] ?_
          conv => whnf
          repeat' first
            | with_reducible rfl
            | with_reducible exact True.intro
            | with_reducible assumption
            | exact (Bool.false_ne_true (d1.symm.trans h)).elim
            | exact (Bool.false_ne_true (da.symm.trans h)).elim
            | exact (Bool.false_ne_true (db.symm.trans h)).elim
            | exact (Bool.false_ne_true (dg.symm.trans h)).elim
            | exact hfin _ (nil_q2 (hno2 cg) q1)
            | assumption
            | (refine W.drawn TT_ok hmix1 rfl ?_; conv => whnf)
            | (refine W.drawnM (id := 11) 0 TT_ok hmix1 [0, 0, 0, 0, 0, 0, 0, 0, 0, 0, 0, 0, 0, 0, 0, 0, 1, 1] [0, 0, 1, 1, 1, 0, 0, 0, 0, 0, 0, 0, 0, 0, 0, 1, 1, 2] rfl ?_; conv => whnf)
            | (refine W.drawnM (id := 23) 0 TT_ok hmix1 [0, 0, 0, 0, 0, 0, 0, 0, 0, 0, 0, 0, 0, 0, 0, 0, 1, 1] [0, 0, 1, 1, 1, 0, 0, 0, 0, 0, 0, 0, 0, 0, 0, 1, 1, 2] rfl ?_; conv => whnf)
            | exact absurd (show false = true from h) Bool.false_ne_true
            | exact absurd (show true = false from h) (fun e => Bool.noConfusion e)
            | exact (congrArg Bool.not h)
            | (refine ⟨_, ⟨by first | assumption | decide | omega, by first | assumption | rfl⟩, ?_⟩; conv => whnf)
            | (refine ⟨_, fun _ => ⟨by first | assumption | decide | omega, by first | assumption | rfl⟩, ?_⟩; conv => whnf)
            | exact (rfl : (_ : Nat) = _)
            | exact (rfl : (_ : LV) = _)
            | (refine ⟨fun h => ?_, fun h => ?_⟩ <;> conv => whnf)
            | (refine ⟨?_, ?_⟩ <;> conv => whnf)
            | (intro h; conv => whnf)
            | (refine gand ?_ h; assumption)
end Go.RX

