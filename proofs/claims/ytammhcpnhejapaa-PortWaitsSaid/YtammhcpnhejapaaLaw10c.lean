/- The contract of footwaylaw10.PortWaits. -/
import Derived.Test.YtammhcpnhejapaaPl10c
set_option linter.unusedVariables false
set_option linter.unusedSimpArgs false
open Go Go.RX Go.Proofs
namespace Go.RX
set_option maxRecDepth 10000
set_option maxHeartbeats 4000000
attribute [local irreducible] CallW CallP LoopW W
theorem c7 (d : Int) (L : List Bool) : CallP Try.prog 7 [I d, bs L] (.bool true) := by
  refine .intro (by simp [NLs, NL]) (.intro TT_ok Try.func7 rfl rfl [0, 1, 4, 5, 7, 8, 9, 10, 11, 12, 13, 14, 15, 16, 17, 18, 19, 20, 21, 22, 23, 33, 34, 35, 36, 66, 76, 79, 80, 81, 144, 152] rfl ?_)
  conv => whnf
  repeat' first
    | with_reducible rfl
    | with_reducible exact True.intro
    | assumption
    | exact absurd (show false = true from h) Bool.false_ne_true
    | exact absurd (show true = false from h) (fun e => Bool.noConfusion e)
    | exact (congrArg Bool.not h)
    | (refine ⟨_, ⟨by first | assumption | decide | omega, by first | assumption | rfl⟩, ?_⟩; conv => whnf)
    | exact (rfl : (_ : Nat) = _)
    | (refine ⟨fun h => ?_, fun h => ?_⟩ <;> conv => whnf)
    | (refine ⟨?_, ?_⟩ <;> conv => whnf)
    | (intro h; conv => whnf)
  · omega
  · omega
  · show (0 : Int) ≤ mn _ _
    exact mn0 (Int.natCast_nonneg _) (by decide)
  · show mn _ _ ≤ _
    exact mnl _ _
  have hel : ∀ r ∈ List.take (mn (↑(List.map (fun b => [LV.bool b]) L).length) 80).toNat (List.map (fun b => [LV.bool b]) L), ∃ b, r = [.bool b] := by
    intro r hr
    obtain ⟨b, _, rfl⟩ := List.mem_map.1 (List.mem_of_mem_take hr)
    exact ⟨b, rfl⟩
  have hln : (List.take (mn (↑(List.map (fun b => [LV.bool b]) L).length) 80).toNat (List.map (fun b => [LV.bool b]) L)).length ≤ 80 := by
    rw [List.length_take]
    have : mn (↑(List.map (fun b => [LV.bool b]) L).length) 80 ≤ 80 := by unfold mn; split <;> omega
    omega
  generalize List.take (mn (↑(List.map (fun b => [LV.bool b]) L).length) 80).toNat (List.map (fun b => [LV.bool b]) L) = xs at hel hln ⊢
  obtain ⟨D, hD1, hD2, hD⟩ := d_bound d
  rw [hD]
  refine LoopW.norm (s71 D xs 0) 1 (l34 0 0) ⟨rfl, rfl, rfl, rfl, rfl, rfl, trivial⟩ ⟨⟨rfl, rfl, ⟨⟨trivial, trivial, trivial⟩, trivial⟩⟩, trivial⟩ ⟨trivial, trivial, rfl, trivial, trivial, trivial, trivial⟩ rfl ?_
  refine LoopW.ind (α := Int × Int × Int) (fun a => (xs.length - a.2.2).toNat) (fun a s' H => (PR a.1 a.2.1 D ∧ 0 ≤ a.2.2 ∧ a.2.2 ≤ xs.length) ∧ s' = s71 D xs a.2.2 ∧ H = ⟨1, l34 a.1 a.2.1⟩) ?_ (a := (0, 0, 0)) ⟨⟨by show PR 0 0 D; unfold PR; omega, Int.le_refl 0, Int.natCast_nonneg _⟩, rfl, rfl⟩
  rintro ⟨s, l, i⟩ s' H ⟨⟨hP, hi0, hil⟩, rfl, rfl⟩ ih
  simp only at hP hi0 hil
  by_cases hi : i < xs.length
  · obtain ⟨b, hb⟩ : ∃ b, xs[i.toNat]? = some [.bool b] := by
      have : i.toNat < xs.length := by omega
      obtain ⟨b, hb⟩ := hel _ (List.getElem_mem this)
      exact ⟨b, by rw [List.getElem?_eq_getElem this, hb]⟩
    have e1 := pE0 hP
    have hP1 := PR_role hP b
    have e2 := pE0 hP1
    have hP2 := PR_tick hP1
    refine LoopW.round TT_ok [0, 1, 4, 5, 7, 8, 9, 10, 11, 12, 13, 14, 15, 16, 17, 18, 19, 20, 21, 22, 23, 33, 34, 35, 36, 66, 76, 79, 80, 81, 144, 152] ?_
    conv => whnf
    repeat' first
      | with_reducible rfl
      | with_reducible exact True.intro
      | assumption
      | (exfalso; revert h; simp [hi]; done)
      | (exfalso; revert h; simp [e1, e2]; done)
      | (refine CallP.use (c17 _ _ _ _) ?_; conv => whnf)
      | (refine ⟨_, fun _ => c17 _ _ _ _, ?_⟩; conv => whnf)
      | (refine CallP.use (c21 _ _ _) ?_; conv => whnf)
      | (refine ⟨_, fun _ => c21 _ _ _, ?_⟩; conv => whnf)
      | exact absurd (show false = true from h) Bool.false_ne_true
      | exact absurd (show true = false from h) (fun e => Bool.noConfusion e)
      | exact (congrArg Bool.not h)
      | (refine ⟨_, ⟨by first | assumption | decide | omega, by first | assumption | rfl⟩, ?_⟩; conv => whnf)
      | exact (rfl : (_ : Nat) = _)
      | (refine ⟨fun h => ?_, fun h => ?_⟩ <;> conv => whnf)
      | (refine ⟨?_, ?_⟩ <;> conv => whnf)
      | (intro h; conv => whnf)
    · simp_all
    · have ob := off_blank hP
      cases b <;> simp_all
    · have w := w64_small (x := i + 1) (by omega) (by omega)
      refine LoopW.norm (s71 D xs (w64 (i + 1))) 1 (l34 (tS (rS s l D b) (rL s l D b) D) (tL (rS s l D b) (rL s l D b) D)) ⟨rfl, rfl, rfl, rfl, rfl, rfl, trivial⟩ ⟨⟨rfl, rfl, ⟨⟨trivial, trivial, trivial⟩, trivial⟩⟩, trivial⟩ ⟨trivial, trivial, rfl, trivial, trivial, trivial, trivial⟩ rfl (ih (tS (rS s l D b) (rL s l D b) D, tL (rS s l D b) (rL s l D b) D, w64 (i + 1)) _ _ ⟨⟨hP2, ?_, ?_⟩, rfl, rfl⟩ ?_)
      · show 0 ≤ w64 (i + 1); omega
      · show w64 (i + 1) ≤ xs.length; omega
      · show (xs.length - w64 (i + 1)).toNat < (xs.length - i).toNat; omega
  · have hP3 := PR_role hP false
    have e1 := pE0 hP
    refine LoopW.round TT_ok [0, 1, 4, 5, 7, 8, 9, 10, 11, 12, 13, 14, 15, 16, 17, 18, 19, 20, 21, 22, 23, 33, 34, 35, 36, 66, 76, 79, 80, 81, 144, 152] ?_
    conv => whnf
    repeat' first
      | with_reducible rfl
      | with_reducible exact True.intro
      | assumption
      | (exfalso; revert h; simp [hi]; done)
      | (exfalso; revert h; simp [e1]; done)
      | (refine CallP.use (c17 _ _ _ _) ?_; conv => whnf)
      | (refine ⟨_, fun _ => c17 _ _ _ _, ?_⟩; conv => whnf)
      | exact absurd (show false = true from h) Bool.false_ne_true
      | exact absurd (show true = false from h) (fun e => Bool.noConfusion e)
      | exact (congrArg Bool.not h)
      | (refine ⟨_, ⟨by first | assumption | decide | omega, by first | assumption | rfl⟩, ?_⟩; conv => whnf)
      | exact (rfl : (_ : Nat) = _)
      | (refine ⟨fun h => ?_, fun h => ?_⟩ <;> conv => whnf)
      | (refine ⟨?_, ?_⟩ <;> conv => whnf)
      | (intro h; conv => whnf)
    have w1 := w64_small (x := 2 * D) (by omega) (by omega)
    have w2 := w64_small (x := 2 * D + 3) (by omega) (by omega)
    refine LoopW.norm (s72 D (w64 (w64 (2 * D) + 3)) 0) 1 (l34 (rS s l D false) (rL s l D false)) ⟨rfl, rfl, rfl, rfl, rfl, trivial⟩ ⟨⟨rfl, rfl, ⟨⟨trivial, trivial, trivial⟩, trivial⟩⟩, trivial⟩ ⟨trivial, trivial, rfl, trivial, trivial, trivial⟩ rfl ?_
    rw [w1, w2]
    have z1 : rS s l D false = 0 := by simp [rS]
    have z2 : rL s l D false = 0 := by simp [rL]
    rw [z1, z2]
    clear ih
    refine LoopW.ind (α := Int × Int × Int) (fun a => (2 * D + 3 - a.2.2).toNat) (fun a s' H => (StI D a.2.2 a.1 a.2.1 ∧ 0 ≤ a.2.2 ∧ a.2.2 ≤ 2 * D + 3) ∧ s' = s72 D (2 * D + 3) a.2.2 ∧ H = ⟨1, l34 a.1 a.2.1⟩) ?_ (a := (0, 0, 0)) ⟨⟨.inl ⟨rfl, rfl, rfl⟩, Int.le_refl 0, by show (0 : Int) ≤ 2 * D + 3; omega⟩, rfl, rfl⟩
    clear hi hi0 hil hP hP3 e1 z1 z2 h
    rintro ⟨s, l, i⟩ s' H ⟨⟨hS, hi0, hil⟩, rfl, rfl⟩ ih
    simp only at hS hi0 hil
    by_cases hi : i < 2 * D + 3
    · have hP := StI_PR ⟨hD1, hD2⟩ hS
      obtain ⟨f1, f2, f3, f4, f5, f6⟩ := StI_facts ⟨hD1, hD2⟩ hS
      have hP1 := PR_role hP true
      have e1 := pE0 hP
      have e2 := pE0 hP1
      have w3 := w64_small (x := 2 * D - i) (by omega) (by omega)
      simp only [w64] at w1 w2 w3
      have d1 : decide (rS s l D true = 2 ∨ rS s l D true = 3) = decide (D ≤ i) := decide_eq_decide.2 f3
      have d2 : decide (rS s l D true = 3) = decide (2 * D ≤ i) := decide_eq_decide.2 f4
      refine LoopW.round TT_ok [0, 1, 4, 5, 7, 8, 9, 10, 11, 12, 13, 14, 15, 16, 17, 18, 19, 20, 21, 22, 23, 33, 34, 35, 36, 66, 76, 79, 80, 81, 144, 152] ?_
      conv => whnf
      repeat' first
        | with_reducible rfl
        | with_reducible exact True.intro
        | assumption
        | (exfalso; revert h; simp [hi]; done)
        | (exfalso; revert h; simp [e1, e2]; done)
        | (refine CallP.use (c17 _ _ _ _) ?_; conv => whnf)
        | (refine ⟨_, fun _ => c17 _ _ _ _, ?_⟩; conv => whnf)
        | (refine CallP.use (c21 _ _ _) ?_; conv => whnf)
        | (refine ⟨_, fun _ => c21 _ _ _, ?_⟩; conv => whnf)
        | (refine CallP.use (c19 _ _ _) ?_; conv => whnf)
        | (refine ⟨_, fun _ => c19 _ _ _, ?_⟩; conv => whnf)
        | (refine CallP.use (c20 _ _) ?_; conv => whnf)
        | (refine ⟨_, fun _ => c20 _ _, ?_⟩; conv => whnf)
        | exact absurd (show false = true from h) Bool.false_ne_true
        | exact absurd (show true = false from h) (fun e => Bool.noConfusion e)
        | exact (congrArg Bool.not h)
        | (refine ⟨_, ⟨by first | assumption | decide | omega, by first | assumption | rfl⟩, ?_⟩; conv => whnf)
        | exact (rfl : (_ : Nat) = _)
        | (refine ⟨fun h => ?_, fun h => ?_⟩ <;> conv => whnf)
        | (refine ⟨?_, ?_⟩ <;> conv => whnf)
        | (intro h; conv => whnf)
      · exfalso
        simp_all
      · have w := w64_small (x := i + 1) (by omega) (by omega)
        refine LoopW.norm (s72 D (2 * D + 3) (w64 (i + 1))) 1 (l34 (tS (rS s l D true) (rL s l D true) D) (tL (rS s l D true) (rL s l D true) D)) ⟨rfl, rfl, rfl, rfl, rfl, trivial⟩ ⟨⟨rfl, rfl, ⟨⟨trivial, trivial, trivial⟩, trivial⟩⟩, trivial⟩ ⟨trivial, trivial, rfl, trivial, trivial, trivial⟩ rfl (ih (tS (rS s l D true) (rL s l D true) D, tL (rS s l D true) (rL s l D true) D, w64 (i + 1)) _ _ ⟨⟨?_, ?_, ?_⟩, rfl, rfl⟩ ?_)
        · show StI D (w64 (i + 1)) _ _; rw [w]; exact f6
        · show 0 ≤ w64 (i + 1); omega
        · show w64 (i + 1) ≤ 2 * D + 3; omega
        · show (2 * D + 3 - w64 (i + 1)).toNat < (2 * D + 3 - i).toNat; omega
    · refine LoopW.round TT_ok [0, 1, 4, 5, 7, 8, 9, 10, 11, 12, 13, 14, 15, 16, 17, 18, 19, 20, 21, 22, 23, 33, 34, 35, 36, 66, 76, 79, 80, 81, 144, 152] ?_
      conv => whnf
      repeat' first
        | with_reducible rfl
        | with_reducible exact True.intro
        | assumption
        | (exfalso; revert h; simp [hi]; done)
        | (refine CallP.use (c18) ?_; conv => whnf)
        | (refine ⟨_, fun _ => c18, ?_⟩; conv => whnf)
        | exact absurd (show false = true from h) Bool.false_ne_true
        | exact absurd (show true = false from h) (fun e => Bool.noConfusion e)
        | exact (congrArg Bool.not h)
        | (refine ⟨_, ⟨by first | assumption | decide | omega, by first | assumption | rfl⟩, ?_⟩; conv => whnf)
        | exact (rfl : (_ : Nat) = _)
        | (refine ⟨fun h => ?_, fun h => ?_⟩ <;> conv => whnf)
        | (refine ⟨?_, ?_⟩ <;> conv => whnf)
        | (intro h; conv => whnf)
end Go.RX

