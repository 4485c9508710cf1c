/- Contracts of the sort: symMerge for all, stable. -/
import Derived.Test.YtogomcndhipoeaaTyi
set_option linter.unusedVariables false
set_option linter.unusedSimpArgs false
open Go Go.RX Go.Proofs
namespace Go.RX
set_option maxRecDepth 10000
set_option maxHeartbeats 1000000
theorem good32 : ∀ N, Good32 N
  | 0 => by
    unfold Good32
    intro X A B Y n hN hA hB
    omega
  | N + 1 => by
    unfold Good32
    intro X A B Y n hN hA hB hn hl hv xa xm xb ha hm hb K hK
    subst ha; subst hm; subst hb
    by_cases h1 : A.length = 1
    · obtain ⟨x, rfl⟩ := List.length_eq_one_iff.1 h1
      exact c32a X x B Y n hn hl hv hB hK
    · by_cases h2 : B.length = 1
      · obtain ⟨x, rfl⟩ := List.length_eq_one_iff.1 h2
        exact c32b X A x Y n hn hl hv (by omega) hK
      · by_cases hc : (X.length + (X.length + A.length + B.length)) / 2 < X.length + A.length
        · exact c32c (good32 N) X A B Y n hN (by omega) (by omega) hc hn hl hv hK
        · exact c32d (good32 N) X A B Y n hN (by omega) (by omega) hc hn hl hv hK
theorem c32 (X A B Y : List Vc) (n : Nat) (hA : 1 ≤ A.length) (hB : 1 ≤ B.length) (hn : n = (X ++ (A ++ (B ++ Y))).length) (hl : n ≤ 1000) (hv : ∀ v ∈ X ++ (A ++ (B ++ Y)), Rv v) {xa xm xb : Int}
    (ha : xa = ((X.length : Nat) : Int)) (hm : xm = ((X.length + A.length : Nat) : Int)) (hb : xb = ((X.length + A.length + B.length : Nat) : Int)) {K : LV → Heap → Prop}
    (h : ∀ S, Mrg leV A B S → K (.tup []) (hpV (X ++ (S ++ Y)))) : CallW Try.prog 32 [.sl 0 0 n, I xa, I xm, I xb, cmpF] (hpV (X ++ (A ++ (B ++ Y)))) K := by
  have := good32 (A.length + B.length)
  unfold Good32 at this
  exact this X A B Y n (Nat.le_refl _) hA hB hn hl hv xa xm xb ha hm hb K h
/-- Rows of one size, each in order, and one that is shorter. -/
def Bks (bs : Nat) (l : List Vc) : Prop := ∃ (Ls : List (List Vc)) (L : List Vc), l = Ls.flatten ++ L ∧ (∀ M ∈ Ls, M.length = bs ∧ Srt leV M) ∧ L.length < bs ∧ Srt leV L
theorem flat_len {bs : Nat} : ∀ {Ls : List (List Vc)}, (∀ M ∈ Ls, M.length = bs) → Ls.flatten.length = bs * Ls.length
  | [], _ => by simp
  | M :: r, h => by
    rw [List.flatten_cons, List.length_append, h M List.mem_cons_self, flat_len fun N hN => h N (List.mem_cons_of_mem _ hN), List.length_cons, Nat.mul_succ]
    omega
theorem Bks.done {bs : Nat} {l : List Vc} (h : Bks bs l) (hl : l.length ≤ bs) (hb : 1 ≤ bs) : Srt leV l := by
  obtain ⟨Ls, L, rfl, h1, h2, h3⟩ := h
  cases Ls with
  | nil => simpa using h3
  | cons M r =>
    rw [List.length_append, List.flatten_cons, List.length_append, (h1 M List.mem_cons_self).1] at hl
    have e1 : r.flatten = [] := List.eq_nil_of_length_eq_zero (by omega)
    have e2 : L = [] := List.eq_nil_of_length_eq_zero (by omega)
    rw [List.flatten_cons, e1, e2, List.append_nil, List.append_nil]
    exact (h1 M List.mem_cons_self).2
theorem wmul (a b : Nat) (h : a * b ≤ 1000000) : IntKind.i64.wrap ((a : Int) * (b : Int)) = ((a * b : Nat) : Int) := by
  rw [← Int.natCast_mul]
  exact w64_small (by omega) (by omega)
attribute [local irreducible] CallW CallP LoopW W IntKind.wrap rankL Int.fdiv
abbrev s28a (n a b : Nat) : Slots := [(0, .sl 0 0 n), (1, I n), (2, cmpF), (6, I 20), (7, I a), (8, I b)]
abbrev s28b (n bs : Nat) : Slots := [(0, .sl 0 0 n), (1, I n), (2, cmpF), (6, I bs)]
abbrev s28c (n bs a b : Nat) : Slots := [(0, .sl 0 0 n), (1, I n), (2, cmpF), (6, I bs), (7, I a), (8, I b)]
theorem c28 (l0 : List Vc) (n : Nat) (hn : n = l0.length) (hl : n ≤ 1000) (hv : ∀ v ∈ l0, Rv v) {K : LV → Heap → Prop} (h : ∀ l', l'.Perm l0 → Srt leV l' → K (.tup []) (hpV l')) :
    CallW Try.prog 28 [.sl 0 0 n, I n, cmpF] (hpV l0) K := by
  have hK := h
  clear h
  refine CallW.intro TT_ok Try.func28 rfl rfl [0, 1, 2, 6, 7, 8, 9, 13, 30, 35, 54, 1000031, 1000032] rfl ?_
  conv => whnf
  refine LoopW.norm (s28a n 0 20) 1 [(0, .row 31 4 (l0.map Vc.cells))] ⟨rfl, rfl, rfl, rfl, rfl, rfl, trivial⟩ (hpS _ rfl) ⟨rfl, trivial, ⟨trivial, trivial⟩, trivial, trivial, trivial, trivial⟩ rfl ?_
  refine LoopW.ind (α := Nat) (fun q => q) (fun q s' H => ∃ (Ls : List (List Vc)) (R : List Vc), (R.length = q ∧ (Ls.flatten ++ R).Perm l0 ∧ ∀ M ∈ Ls, M.length = 20 ∧ Srt leV M) ∧ s' = s28a n Ls.flatten.length (Ls.flatten.length + 20) ∧ H = hpV (Ls.flatten ++ R)) ?_ (a := l0.length) ⟨[], l0, ⟨rfl, List.Perm.refl _, fun M hM => by cases hM⟩, rfl, rfl⟩
  rintro q s' H ⟨Ls, R, ⟨rfl, hp, hLs⟩, rfl, rfl⟩ ih
  have hpl := hp.length_eq
  rw [List.length_append] at hpl
  have hvc : ∀ v ∈ Ls.flatten ++ R, Rv v := fun v hm => hv v ((hp.mem_iff).1 hm)
  by_cases hR : 20 ≤ R.length
  · have d1 : decide (((Ls.flatten.length + 20 : Nat) : Int) ≤ (n : Int)) = true := by rw [decide_eq_true_eq]; omega
    have e0 : Ls.flatten ++ R = Ls.flatten ++ (R.take 20 ++ R.drop 20) := by rw [List.take_append_drop]
    have htl : (R.take 20).length = 20 := by rw [List.length_take]; omega
    have w1 : IntKind.i64.wrap (((Ls.flatten.length + 20 : Nat) : Int) + 20) = ((Ls.flatten.length + 20 + 20 : Nat) : Int) := wadd (Ls.flatten.length + 20) 20 (by omega) (by omega)
    rw [e0]
    refine LoopW.round TT_ok [0, 1, 2, 6, 7, 8, 9, 13, 30, 35, 54, 1000031, 1000032] ?_
    conv => whnf
    repeat' first
      | with_reducible rfl
      | with_reducible exact True.intro
      | with_reducible assumption
      | exact (Bool.false_ne_true (h.symm.trans d1)).elim
      | assumption
      | exact absurd (show false = true from h) Bool.false_ne_true
      | exact absurd (show true = false from h) (fun e => Bool.noConfusion e)
      | exact (congrArg Bool.not h)
      | (refine ⟨_, ⟨by first | assumption | decide | omega, by first | assumption | rfl⟩, ?_⟩; conv => whnf)
      | (refine ⟨_, fun _ => ⟨by first | assumption | decide | omega, by first | assumption | rfl⟩, ?_⟩; conv => whnf)
      | exact (rfl : (_ : Nat) = _)
      | exact (rfl : (_ : LV) = _)
      | (refine ⟨fun h => ?_, fun h => ?_⟩ <;> conv => whnf)
      | (refine ⟨?_, ?_⟩ <;> conv => whnf)
      | (intro h; conv => whnf)
      | (refine gand ?_ h; assumption)
    refine c31 Ls.flatten (R.take 20) (R.drop 20) n (by rw [← e0, List.length_append]; omega) hl (by rw [← e0]; exact hvc) rfl (by rw [htl]) ?_
    intro S hS1 hS2
    have hSl : S.length = 20 := by rw [hS1.length_eq, htl]
    conv => whnf
    repeat' first
      | with_reducible rfl
      | with_reducible exact True.intro
      | with_reducible assumption
      | assumption
      | exact absurd (show false = true from h) Bool.false_ne_true
      | exact absurd (show true = false from h) (fun e => Bool.noConfusion e)
      | exact (congrArg Bool.not h)
      | (refine ⟨_, ⟨by first | assumption | decide | omega, by first | assumption | rfl⟩, ?_⟩; conv => whnf)
      | (refine ⟨_, fun _ => ⟨by first | assumption | decide | omega, by first | assumption | rfl⟩, ?_⟩; conv => whnf)
      | exact (rfl : (_ : Nat) = _)
      | exact (rfl : (_ : LV) = _)
      | (refine ⟨fun h => ?_, fun h => ?_⟩ <;> conv => whnf)
      | (refine ⟨?_, ?_⟩ <;> conv => whnf)
      | (intro h; conv => whnf)
      | (refine gand ?_ h; assumption)
    have hf : (Ls ++ [S]).flatten = Ls.flatten ++ S := by simp
    have hfl : (Ls ++ [S]).flatten.length = Ls.flatten.length + 20 := by rw [hf, List.length_append, hSl]
    have := ih (R.drop 20).length (s28a n (Ls ++ [S]).flatten.length ((Ls ++ [S]).flatten.length + 20)) (hpV ((Ls ++ [S]).flatten ++ R.drop 20)) ⟨Ls ++ [S], R.drop 20, ⟨rfl, by
      rw [hf, List.append_assoc]
      refine List.Perm.trans ?_ hp
      rw [e0]
      exact List.Perm.append_left _ (List.Perm.append_right _ hS1), fun M hM => by
      rcases List.mem_append.1 hM with h | h
      · exact hLs M h
      · rw [List.mem_singleton] at h; subst h; exact ⟨hSl, hS2⟩⟩, rfl, rfl⟩ (by rw [List.length_drop]; omega)
    rw [hfl, hf, List.append_assoc] at this
    exact LoopW.norm (s28a n (Ls.flatten.length + 20) (Ls.flatten.length + 20 + 20)) 1 [(0, .row 31 4 ((Ls.flatten ++ (S ++ R.drop 20)).map Vc.cells))] ⟨rfl, rfl, rfl, rfl, rfl, congrArg (LV.int .i64) w1, trivial⟩ (hpS _ rfl) ⟨rfl, trivial, ⟨trivial, trivial⟩, trivial, trivial, trivial, trivial⟩ rfl this
  · have d1 : decide (((Ls.flatten.length + 20 : Nat) : Int) ≤ (n : Int)) = false := by rw [decide_eq_false_iff_not]; omega
    clear ih
    have e0 : Ls.flatten ++ R = Ls.flatten ++ (R ++ []) := by rw [List.append_nil]
    rw [e0]
    refine LoopW.round TT_ok [0, 1, 2, 6, 7, 8, 9, 13, 30, 35, 54, 1000031, 1000032] ?_
    conv => whnf
    repeat' first
      | with_reducible rfl
      | with_reducible exact True.intro
      | with_reducible assumption
      | exact (Bool.false_ne_true (d1.symm.trans h)).elim
      | assumption
      | exact absurd (show false = true from h) Bool.false_ne_true
      | exact absurd (show true = false from h) (fun e => Bool.noConfusion e)
      | exact (congrArg Bool.not h)
      | (refine ⟨_, ⟨by first | assumption | decide | omega, by first | assumption | rfl⟩, ?_⟩; conv => whnf)
      | (refine ⟨_, fun _ => ⟨by first | assumption | decide | omega, by first | assumption | rfl⟩, ?_⟩; conv => whnf)
      | exact (rfl : (_ : Nat) = _)
      | exact (rfl : (_ : LV) = _)
      | (refine ⟨fun h => ?_, fun h => ?_⟩ <;> conv => whnf)
      | (refine ⟨?_, ?_⟩ <;> conv => whnf)
      | (intro h; conv => whnf)
      | (refine gand ?_ h; assumption)
    refine c31 Ls.flatten R [] n (by rw [← e0, List.length_append]; omega) hl (by rw [← e0]; exact hvc) rfl (show (n : Int) = _ by congr 1; omega) ?_
    intro S hS1 hS2
    have hSl : S.length = R.length := hS1.length_eq
    rw [List.append_nil]
    have hB : Bks 20 (Ls.flatten ++ S) := ⟨Ls, S, rfl, hLs, by omega, hS2⟩
    have hpp : (Ls.flatten ++ S).Perm l0 := (List.Perm.append_left _ hS1).trans hp
    generalize Ls.flatten ++ S = l1 at hB hpp
    clear hvc hpl hLs d1 e0
    conv => whnf
    repeat' first
      | with_reducible rfl
      | with_reducible exact True.intro
      | with_reducible assumption
      | assumption
      | exact absurd (show false = true from h) Bool.false_ne_true
      | exact absurd (show true = false from h) (fun e => Bool.noConfusion e)
      | exact (congrArg Bool.not h)
      | (refine ⟨_, ⟨by first | assumption | decide | omega, by first | assumption | rfl⟩, ?_⟩; conv => whnf)
      | (refine ⟨_, fun _ => ⟨by first | assumption | decide | omega, by first | assumption | rfl⟩, ?_⟩; conv => whnf)
      | exact (rfl : (_ : Nat) = _)
      | exact (rfl : (_ : LV) = _)
      | (refine ⟨fun h => ?_, fun h => ?_⟩ <;> conv => whnf)
      | (refine ⟨?_, ?_⟩ <;> conv => whnf)
      | (intro h; conv => whnf)
      | (refine gand ?_ h; assumption)
    refine LoopW.norm (s28b n 20) 1 [(0, .row 31 4 (l1.map Vc.cells))] ⟨rfl, rfl, rfl, rfl, trivial⟩ (hpS _ rfl) ⟨rfl, trivial, ⟨trivial, trivial⟩, trivial, trivial⟩ rfl ?_
    refine LoopW.ind (α := Nat) (fun bs => n - bs) (fun bs s' H => ∃ l1, (1 ≤ bs ∧ bs ≤ 2000 ∧ Bks bs l1 ∧ l1.Perm l0) ∧ s' = s28b n bs ∧ H = hpV l1) ?_ (a := 20) ⟨l1, ⟨by omega, by omega, hB, hpp⟩, rfl, rfl⟩
    clear hB hpp
    rintro bs s' H ⟨l1, ⟨hb1, hb2, hB, hpp⟩, rfl, rfl⟩ ih
    have hll := hpp.length_eq
    by_cases hbn : bs < n
    · have d2 : decide ((bs : Int) < (n : Int)) = true := by rw [decide_eq_true_eq]; omega
      have w2 : IntKind.i64.wrap (2 * (bs : Int)) = ((2 * bs : Nat) : Int) := wmul 2 bs (by omega)
      have w3 : IntKind.i64.wrap ((bs : Int) * 2) = ((bs * 2 : Nat) : Int) := wmul bs 2 (by omega)
      obtain ⟨Ls0, L, hl1, hLs, hL1, hL2⟩ := hB
      refine LoopW.round TT_ok [0, 1, 2, 6, 7, 8, 9, 13, 30, 35, 54, 1000031, 1000032] ?_
      conv => whnf
      repeat' first
        | with_reducible rfl
        | with_reducible exact True.intro
        | with_reducible assumption
        | exact (Bool.false_ne_true (h.symm.trans d2)).elim
        | assumption
        | exact absurd (show false = true from h) Bool.false_ne_true
        | exact absurd (show true = false from h) (fun e => Bool.noConfusion e)
        | exact (congrArg Bool.not h)
        | (refine ⟨_, ⟨by first | assumption | decide | omega, by first | assumption | rfl⟩, ?_⟩; conv => whnf)
        | (refine ⟨_, fun _ => ⟨by first | assumption | decide | omega, by first | assumption | rfl⟩, ?_⟩; conv => whnf)
        | exact (rfl : (_ : Nat) = _)
        | exact (rfl : (_ : LV) = _)
        | (refine ⟨fun h => ?_, fun h => ?_⟩ <;> conv => whnf)
        | (refine ⟨?_, ?_⟩ <;> conv => whnf)
        | (intro h; conv => whnf)
        | (refine gand ?_ h; assumption)
      refine LoopW.norm (s28c n bs 0 (2 * bs)) 1 [(0, .row 31 4 (l1.map Vc.cells))] ⟨rfl, rfl, rfl, rfl, rfl, congrArg (LV.int .i64) w2, trivial⟩ (hpS _ rfl) ⟨rfl, trivial, ⟨trivial, trivial⟩, trivial, trivial, trivial, trivial⟩ rfl ?_
      refine LoopW.ind (α := Nat) (fun q => q) (fun q s' H => ∃ (Ms Ls : List (List Vc)), (Ls.length = q ∧ (Ms.flatten ++ (Ls.flatten ++ L)).Perm l0 ∧ (∀ M ∈ Ms, M.length = 2 * bs ∧ Srt leV M) ∧ ∀ M ∈ Ls, M.length = bs ∧ Srt leV M) ∧ s' = s28c n bs Ms.flatten.length (Ms.flatten.length + 2 * bs) ∧ H = hpV (Ms.flatten ++ (Ls.flatten ++ L))) ?_ (a := Ls0.length) ⟨[], Ls0, ⟨rfl, by rw [hl1] at hpp; exact hpp, (fun M hM => by cases hM), hLs⟩, by simp, by rw [hl1]; rfl⟩
      clear hl1 hpp hll hLs
      rintro q s' H ⟨Ms, Ls, ⟨rfl, hpp, hMs, hLs⟩, rfl, rfl⟩ ih2
      have hll := hpp.length_eq
      simp only [List.length_append] at hll
      have hvc : ∀ v ∈ Ms.flatten ++ (Ls.flatten ++ L), Rv v := fun v hm => hv v ((hpp.mem_iff).1 hm)
      have hnext : ∀ (l2 : List Vc), Bks (bs * 2) l2 → l2.Perm l0 → ∀ {s1 : Slots} {H1 : Heap}, subC s1 (s28b n (bs * 2)) → look H1.live 0 = some (.row 31 4 (l2.map Vc.cells)) → LoopW Try.prog Try.f28.ntmps 1 _ _ s1 H1 := fun l2 q1 q2 {s1} {H1} h1 h2 =>
        LoopW.norm (s28b n (bs * 2)) 1 [(0, .row 31 4 (l2.map Vc.cells))] h1 (hpS _ h2) ⟨rfl, trivial, ⟨trivial, trivial⟩, trivial, trivial⟩ rfl (ih (bs * 2) _ _ ⟨l2, ⟨by omega, by omega, q1, q2⟩, rfl, rfl⟩ (by omega))
      have hM2 : ∀ M ∈ Ms, M.length = bs * 2 ∧ Srt leV M := fun M hM => ⟨by rw [(hMs M hM).1]; omega, (hMs M hM).2⟩
      match Ls, hLs with
      | L1 :: L2 :: Ls, hLs =>
        obtain ⟨hl1, hs1⟩ := hLs L1 List.mem_cons_self
        obtain ⟨hl2, hs2⟩ := hLs L2 (List.mem_cons_of_mem _ List.mem_cons_self)
        simp only [List.flatten_cons, List.length_append] at hll
        have d3 : decide (((Ms.flatten.length + 2 * bs : Nat) : Int) ≤ (n : Int)) = true := by rw [decide_eq_true_eq]; omega
        have w4 := wadd Ms.flatten.length bs (by omega) (by omega)
        have w5 : IntKind.i64.wrap (((Ms.flatten.length + 2 * bs : Nat) : Int) + IntKind.i64.wrap (2 * (bs : Int))) = ((Ms.flatten.length + 2 * bs + 2 * bs : Nat) : Int) := by rw [w2]; exact wadd _ _ (by omega) (by omega)
        have e1 : Ms.flatten ++ ((L1 :: L2 :: Ls).flatten ++ L) = Ms.flatten ++ (L1 ++ (L2 ++ (Ls.flatten ++ L))) := by simp
        rw [e1] at hvc hpp ⊢
        clear hnext
        refine LoopW.round TT_ok [0, 1, 2, 6, 7, 8, 9, 13, 30, 35, 54, 1000031, 1000032] ?_
        conv => whnf
        repeat' first
          | with_reducible rfl
          | with_reducible exact True.intro
          | with_reducible assumption
          | exact (Bool.false_ne_true (h.symm.trans d3)).elim
          | assumption
          | exact absurd (show false = true from h) Bool.false_ne_true
          | exact absurd (show true = false from h) (fun e => Bool.noConfusion e)
          | exact (congrArg Bool.not h)
          | (refine ⟨_, ⟨by first | assumption | decide | omega, by first | assumption | rfl⟩, ?_⟩; conv => whnf)
          | (refine ⟨_, fun _ => ⟨by first | assumption | decide | omega, by first | assumption | rfl⟩, ?_⟩; conv => whnf)
          | exact (rfl : (_ : Nat) = _)
          | exact (rfl : (_ : LV) = _)
          | (refine ⟨fun h => ?_, fun h => ?_⟩ <;> conv => whnf)
          | (refine ⟨?_, ?_⟩ <;> conv => whnf)
          | (intro h; conv => whnf)
          | (refine gand ?_ h; assumption)
        refine c32 Ms.flatten L1 L2 (Ls.flatten ++ L) n (by omega) (by omega) (by simp only [List.length_append]; omega) hl hvc rfl (w4.trans (by rw [hl1])) (show ((Ms.flatten.length + 2 * bs : Nat) : Int) = _ by congr 1; omega) ?_
        intro S hS
        have hSl : S.length = 2 * bs := by rw [hS.len]; omega
        conv => whnf
        repeat' first
          | with_reducible rfl
          | with_reducible exact True.intro
          | with_reducible assumption
          | assumption
          | exact absurd (show false = true from h) Bool.false_ne_true
          | exact absurd (show true = false from h) (fun e => Bool.noConfusion e)
          | exact (congrArg Bool.not h)
          | (refine ⟨_, ⟨by first | assumption | decide | omega, by first | assumption | rfl⟩, ?_⟩; conv => whnf)
          | (refine ⟨_, fun _ => ⟨by first | assumption | decide | omega, by first | assumption | rfl⟩, ?_⟩; conv => whnf)
          | exact (rfl : (_ : Nat) = _)
          | exact (rfl : (_ : LV) = _)
          | (refine ⟨fun h => ?_, fun h => ?_⟩ <;> conv => whnf)
          | (refine ⟨?_, ?_⟩ <;> conv => whnf)
          | (intro h; conv => whnf)
          | (refine gand ?_ h; assumption)
        have hf : (Ms ++ [S]).flatten = Ms.flatten ++ S := by simp
        have hfl : (Ms ++ [S]).flatten.length = Ms.flatten.length + 2 * bs := by rw [hf, List.length_append, hSl]
        have := ih2 Ls.length (s28c n bs (Ms ++ [S]).flatten.length ((Ms ++ [S]).flatten.length + 2 * bs)) (hpV ((Ms ++ [S]).flatten ++ (Ls.flatten ++ L))) ⟨Ms ++ [S], Ls, ⟨rfl, by
          rw [hf, List.append_assoc]
          refine List.Perm.trans ?_ hpp
          rw [← List.append_assoc L1]
          exact List.Perm.append_left _ (List.Perm.append_right _ hS.perm), fun M hM => by
          rcases List.mem_append.1 hM with h | h
          · exact hMs M h
          · rw [List.mem_singleton] at h; subst h; exact ⟨hSl, hS.srt hs1 hs2⟩, fun M hM => hLs M (List.mem_cons_of_mem _ (List.mem_cons_of_mem _ hM))⟩, rfl, rfl⟩ (by simp only [List.length_cons]; omega)
        rw [hfl, hf, List.append_assoc] at this
        exact LoopW.norm (s28c n bs (Ms.flatten.length + 2 * bs) (Ms.flatten.length + 2 * bs + 2 * bs)) 1 [(0, .row 31 4 ((Ms.flatten ++ (S ++ (Ls.flatten ++ L))).map Vc.cells))] ⟨rfl, rfl, rfl, rfl, rfl, congrArg (LV.int .i64) w5, trivial⟩ (hpS _ rfl) ⟨rfl, trivial, ⟨trivial, trivial⟩, trivial, trivial, trivial, trivial⟩ rfl this
      | [L1], hLs =>
        obtain ⟨hl1, hs1⟩ := hLs L1 List.mem_cons_self
        simp only [List.flatten_cons, List.flatten_nil, List.length_append, List.length_nil] at hll
        have d3 : decide (((Ms.flatten.length + 2 * bs : Nat) : Int) ≤ (n : Int)) = false := by rw [decide_eq_false_iff_not]; omega
        have w4 := wadd Ms.flatten.length bs (by omega) (by omega)
        have e1 : Ms.flatten ++ ([L1].flatten ++ L) = Ms.flatten ++ (L1 ++ (L ++ [])) := by simp
        rw [e1] at hvc hpp ⊢
        clear ih2
        by_cases hL0 : 1 ≤ L.length
        · have d4 : decide (IntKind.i64.wrap (((Ms.flatten.length : Nat) : Int) + (bs : Int)) < (n : Int)) = true := by rw [w4, decide_eq_true_eq]; omega
          refine LoopW.round TT_ok [0, 1, 2, 6, 7, 8, 9, 13, 30, 35, 54, 1000031, 1000032] ?_
          conv => whnf
          repeat' first
            | with_reducible rfl
            | with_reducible exact True.intro
            | with_reducible assumption
            | exact (Bool.false_ne_true (d3.symm.trans h)).elim
            | exact (Bool.false_ne_true (h.symm.trans d4)).elim
            | assumption
            | exact absurd (show false = true from h) Bool.false_ne_true
            | exact absurd (show true = false from h) (fun e => Bool.noConfusion e)
            | exact (congrArg Bool.not h)
            | (refine ⟨_, ⟨by first | assumption | decide | omega, by first | assumption | rfl⟩, ?_⟩; conv => whnf)
            | (refine ⟨_, fun _ => ⟨by first | assumption | decide | omega, by first | assumption | rfl⟩, ?_⟩; conv => whnf)
            | exact (rfl : (_ : Nat) = _)
            | exact (rfl : (_ : LV) = _)
            | (refine ⟨fun h => ?_, fun h => ?_⟩ <;> conv => whnf)
            | (refine ⟨?_, ?_⟩ <;> conv => whnf)
            | (intro h; conv => whnf)
            | (refine gand ?_ h; assumption)
          refine c32 Ms.flatten L1 L [] n (by omega) hL0 (by simp only [List.length_append, List.length_nil]; omega) hl hvc rfl (w4.trans (by rw [hl1])) (show (n : Int) = _ by congr 1; omega) ?_
          intro S hS
          conv => whnf
          repeat' first
            | with_reducible rfl
            | with_reducible exact True.intro
            | with_reducible assumption
            | assumption
            | exact absurd (show false = true from h) Bool.false_ne_true
            | exact absurd (show true = false from h) (fun e => Bool.noConfusion e)
            | exact (congrArg Bool.not h)
            | (refine ⟨_, ⟨by first | assumption | decide | omega, by first | assumption | rfl⟩, ?_⟩; conv => whnf)
            | (refine ⟨_, fun _ => ⟨by first | assumption | decide | omega, by first | assumption | rfl⟩, ?_⟩; conv => whnf)
            | exact (rfl : (_ : Nat) = _)
            | exact (rfl : (_ : LV) = _)
            | (refine ⟨fun h => ?_, fun h => ?_⟩ <;> conv => whnf)
            | (refine ⟨?_, ?_⟩ <;> conv => whnf)
            | (intro h; conv => whnf)
            | (refine gand ?_ h; assumption)
          rw [List.append_nil]
          exact hnext (Ms.flatten ++ S) ⟨Ms, S, rfl, hM2, by rw [hS.len]; omega, hS.srt hs1 hL2⟩ (by
            refine List.Perm.trans ?_ hpp
            rw [List.append_nil]
            exact List.Perm.append_left _ hS.perm) ⟨rfl, rfl, rfl, congrArg (LV.int .i64) w3, trivial⟩ rfl
        · have d4 : decide (IntKind.i64.wrap (((Ms.flatten.length : Nat) : Int) + (bs : Int)) < (n : Int)) = false := by rw [w4, decide_eq_false_iff_not]; omega
          have hLn : L = [] := List.eq_nil_of_length_eq_zero (by omega)
          subst hLn
          refine LoopW.round TT_ok [0, 1, 2, 6, 7, 8, 9, 13, 30, 35, 54, 1000031, 1000032] ?_
          conv => whnf
          repeat' first
            | with_reducible rfl
            | with_reducible exact True.intro
            | with_reducible assumption
            | exact (Bool.false_ne_true (d3.symm.trans h)).elim
            | exact (Bool.false_ne_true (d4.symm.trans h)).elim
            | assumption
            | exact absurd (show false = true from h) Bool.false_ne_true
            | exact absurd (show true = false from h) (fun e => Bool.noConfusion e)
            | exact (congrArg Bool.not h)
            | (refine ⟨_, ⟨by first | assumption | decide | omega, by first | assumption | rfl⟩, ?_⟩; conv => whnf)
            | (refine ⟨_, fun _ => ⟨by first | assumption | decide | omega, by first | assumption | rfl⟩, ?_⟩; conv => whnf)
            | exact (rfl : (_ : Nat) = _)
            | exact (rfl : (_ : LV) = _)
            | (refine ⟨fun h => ?_, fun h => ?_⟩ <;> conv => whnf)
            | (refine ⟨?_, ?_⟩ <;> conv => whnf)
            | (intro h; conv => whnf)
            | (refine gand ?_ h; assumption)
          simp only [List.append_nil] at hpp ⊢
          exact hnext (Ms.flatten ++ L1) ⟨Ms, L1, rfl, hM2, by omega, hs1⟩ hpp ⟨rfl, rfl, rfl, congrArg (LV.int .i64) w3, trivial⟩ rfl
      | [], hLs =>
        simp only [List.flatten_nil, List.length_nil] at hll
        have d3 : decide (((Ms.flatten.length + 2 * bs : Nat) : Int) ≤ (n : Int)) = false := by rw [decide_eq_false_iff_not]; omega
        have w4 := wadd Ms.flatten.length bs (by omega) (by omega)
        have d4 : decide (IntKind.i64.wrap (((Ms.flatten.length : Nat) : Int) + (bs : Int)) < (n : Int)) = false := by rw [w4, decide_eq_false_iff_not]; omega
        clear ih2
        refine LoopW.round TT_ok [0, 1, 2, 6, 7, 8, 9, 13, 30, 35, 54, 1000031, 1000032] ?_
        conv => whnf
        repeat' first
          | with_reducible rfl
          | with_reducible exact True.intro
          | with_reducible assumption
          | exact (Bool.false_ne_true (d3.symm.trans h)).elim
          | exact (Bool.false_ne_true (d4.symm.trans h)).elim
          | assumption
          | exact absurd (show false = true from h) Bool.false_ne_true
          | exact absurd (show true = false from h) (fun e => Bool.noConfusion e)
          | exact (congrArg Bool.not h)
          | (refine ⟨_, ⟨by first | assumption | decide | omega, by first | assumption | rfl⟩, ?_⟩; conv => whnf)
          | (refine ⟨_, fun _ => ⟨by first | assumption | decide | omega, by first | assumption | rfl⟩, ?_⟩; conv => whnf)
          | exact (rfl : (_ : Nat) = _)
          | exact (rfl : (_ : LV) = _)
          | (refine ⟨fun h => ?_, fun h => ?_⟩ <;> conv => whnf)
          | (refine ⟨?_, ?_⟩ <;> conv => whnf)
          | (intro h; conv => whnf)
          | (refine gand ?_ h; assumption)
        exact hnext (Ms.flatten ++ L) ⟨Ms, L, rfl, hM2, by omega, hL2⟩ hpp ⟨rfl, rfl, rfl, congrArg (LV.int .i64) w3, trivial⟩ rfl
    · have d2 : decide ((bs : Int) < (n : Int)) = false := by rw [decide_eq_false_iff_not]; omega
      have hS := hB.done (by omega) hb1
      refine LoopW.round TT_ok [0, 1, 2, 6, 7, 8, 9, 13, 30, 35, 54, 1000031, 1000032] ?_
      conv => whnf
      repeat' first
        | with_reducible rfl
        | with_reducible exact True.intro
        | with_reducible assumption
        | exact (Bool.false_ne_true (d2.symm.trans h)).elim
        | exact hK l1 hpp hS
        | assumption
        | exact absurd (show false = true from h) Bool.false_ne_true
        | exact absurd (show true = false from h) (fun e => Bool.noConfusion e)
        | exact (congrArg Bool.not h)
        | (refine ⟨_, ⟨by first | assumption | decide | omega, by first | assumption | rfl⟩, ?_⟩; conv => whnf)
        | (refine ⟨_, fun _ => ⟨by first | assumption | decide | omega, by first | assumption | rfl⟩, ?_⟩; conv => whnf)
        | exact (rfl : (_ : Nat) = _)
        | exact (rfl : (_ : LV) = _)
        | (refine ⟨fun h => ?_, fun h => ?_⟩ <;> conv => whnf)
        | (refine ⟨?_, ?_⟩ <;> conv => whnf)
        | (intro h; conv => whnf)
        | (refine gand ?_ h; assumption)
      all_goals skip
end Go.RX

