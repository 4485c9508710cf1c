/- The contract of few: new rows of the caller's own. -/
import Derived.Test.YtbpgcejajdeafaaTyi
set_option linter.unusedVariables false
set_option linter.unusedSimpArgs false
open Go Go.RX Go.Proofs
namespace Go.RX
set_option maxRecDepth 10000
set_option maxHeartbeats 4000000
attribute [local irreducible] CallW CallP LoopW W IntKind.wrap Finds
def cutR (c : Cp) : Cp := { c with raw := c.raw.extract 0 (mn (c.raw.size : Int) 130).toNat }
/-- The first sixty, cut. -/
def fw (l : List Cp) : List Cp := (l.take 60).map cutR
theorem fw_len (l : List Cp) : (fw l).length ≤ 60 := by simp only [fw, List.length_map, List.length_take]; omega
theorem cps_nl (l : List Cp) : NLss (l.map Cp.cells) := by
  induction l with
  | nil => trivial
  | cons t l ih => exact ⟨⟨trivial, trivial, trivial, trivial, trivial, trivial⟩, ih⟩
abbrev rfw (l : List Cp) (k : Nat) : List (List LV) := ((l.take k).map cutR).map Cp.cells
abbrev s9 (l : List Cp) (k : Nat) : Slots := [(3, .sl 0 0 (rfw l k).length), (10, copsL l), (11, I (l.map Cp.cells).length), (12, I k)]
theorem c9 (l0 : List Cp) : CallF Try.prog 9 [copsL l0] 26 5 ((fw l0).map Cp.cells) := by
  have hl : (l0.take 60).length ≤ 60 := by rw [List.length_take]; omega
  have h60 : List.take (mn ((l0.map Cp.cells).length : Int) 60).toNat (l0.map Cp.cells) = (l0.take 60).map Cp.cells := take_mn l0 Cp.cells 60
  have hfw : fw l0 = (l0.take 60).map cutR := rfl
  rw [hfw]
  generalize l0.take 60 = l at hl h60
  have hL : (l.map Cp.cells).length = l.length := List.length_map ..
  refine .intro TT_ok Try.func9 rfl rfl [0, 2, 3, 5, 10, 11, 12, 13] rfl ?_
  conv => whnf
  repeat' first
    | with_reducible rfl
    | with_reducible exact True.intro
    | with_reducible assumption
    | exact mn_low _ 60
    | exact mn_top _ 60
    | assumption
    | exact absurd (show false = true from h) Bool.false_ne_true
    | exact absurd (show true = false from h) (fun e => Bool.noConfusion e)
    | exact (congrArg Bool.not h)
    | (refine ⟨_, ⟨by first | assumption | decide | omega, by first | assumption | rfl⟩, ?_⟩; conv => whnf)
    | (refine ⟨_, fun _ => ⟨by first | assumption | decide | omega, by first | assumption | rfl⟩, ?_⟩; conv => whnf)
    | exact (rfl : (_ : Nat) = _)
    | exact (rfl : (_ : LV) = _)
    | (refine ⟨fun h => ?_, fun h => ?_⟩ <;> conv => whnf)
    | (refine ⟨?_, ?_⟩ <;> conv => whnf)
    | (intro h; conv => whnf)
    | (refine gand ?_ h; assumption)
  rw [h60]
  refine LoopW.virt 3 26 5 rfl ?_
  refine LoopW.norm (s9 l 0) 1 [(0, .row 26 5 (rfw l 0))] ⟨rfl, rfl, rfl, rfl, trivial⟩ ⟨⟨rfl, rfl, trivial⟩, trivial⟩ ⟨rfl, trivial, trivial, trivial, trivial⟩ rfl ?_
  refine LoopW.ind (α := Nat) (fun k => l.length - k) (fun k s' H => k ≤ l.length ∧ s' = s9 l k ∧ H = ⟨1, [(0, .row 26 5 (rfw l k))]⟩) ?_ (a := 0) ⟨Nat.zero_le _, rfl, rfl⟩
  rintro k s' H ⟨hk, rfl, rfl⟩ ih
  by_cases hi : k < l.length
  · have hd : decide ((k : Int) < ((l.map Cp.cells).length : Int)) = true := by rw [decide_eq_true_eq]; omega
    have hx := List.getElem?_eq_getElem hi
    have hb : (l.map Cp.cells)[k]? = some l[k].cells := by simp [hi]
    generalize l[k] = c at hx hb
    have hq : (rfw l k).length = k := by simp [rfw]; omega
    have e1 : rfw l k ++ [(cutR c).cells] = rfw l (k + 1) := by simp only [rfw, List.take_add_one, hx, Option.toList, List.map_append, List.map_cons, List.map_nil]
    have f1 : fits (rfw l k ++ [(cutR c).cells]).length 48 := by simp [fits, hq]; omega
    refine LoopW.round TT_ok [0, 2, 3, 5, 10, 11, 12, 13] ?_
    conv => whnf
    repeat' first
      | with_reducible rfl
      | with_reducible exact True.intro
      | with_reducible assumption
      | exact (Bool.false_ne_true (h.symm.trans hd)).elim
      | exact mn_low _ 130
      | exact mn_top _ 130
      | exact f1
      | assumption
      | exact absurd (show false = true from h) Bool.false_ne_true
      | exact absurd (show true = false from h) (fun e => Bool.noConfusion e)
      | exact (congrArg Bool.not h)
      | (refine ⟨_, ⟨by first | assumption | decide | omega, by first | assumption | rfl⟩, ?_⟩; conv => whnf)
      | (refine ⟨_, fun _ => ⟨by first | assumption | decide | omega, by first | assumption | rfl⟩, ?_⟩; conv => whnf)
      | exact (rfl : (_ : Nat) = _)
      | exact (rfl : (_ : LV) = _)
      | (refine ⟨fun h => ?_, fun h => ?_⟩ <;> conv => whnf)
      | (refine ⟨?_, ?_⟩ <;> conv => whnf)
      | (intro h; conv => whnf)
      | (refine gand ?_ h; assumption)
    refine LoopW.ren [(3, 0)] (s9 l (k + 1)) 1 [(0, .row 26 5 (rfw l (k + 1)))] rfl
          ⟨congrArg (fun l : List (List LV) => LV.sl 0 0 l.length) e1, rfl, rfl, congrArg (LV.int .i64) (w64_nat (by omega)), trivial⟩
          ⟨⟨rfl, rfl, .inl ⟨e1, e1 ▸ cps_nl _⟩⟩, rfl, rfl, trivial⟩ rfl
          (ih (k + 1) _ _ ⟨hi, rfl, rfl⟩ (by omega))
  · have hd : decide ((k : Int) < ((l.map Cp.cells).length : Int)) = false := by rw [decide_eq_false_iff_not]; omega
    obtain rfl : k = l.length := by omega
    clear ih
    refine LoopW.round TT_ok [0, 2, 3, 5, 10, 11, 12, 13] ?_
    conv => whnf
    repeat' first
      | with_reducible rfl
      | with_reducible exact True.intro
      | with_reducible assumption
      | exact (Bool.false_ne_true (hd.symm.trans h)).elim
      | assumption
      | exact absurd (show false = true from h) Bool.false_ne_true
      | exact absurd (show true = false from h) (fun e => Bool.noConfusion e)
      | exact (congrArg Bool.not h)
      | (refine ⟨_, ⟨by first | assumption | decide | omega, by first | assumption | rfl⟩, ?_⟩; conv => whnf)
      | (refine ⟨_, fun _ => ⟨by first | assumption | decide | omega, by first | assumption | rfl⟩, ?_⟩; conv => whnf)
      | exact (rfl : (_ : Nat) = _)
      | exact (rfl : (_ : LV) = _)
      | (refine ⟨fun h => ?_, fun h => ?_⟩ <;> conv => whnf)
      | (refine ⟨?_, ?_⟩ <;> conv => whnf)
      | (intro h; conv => whnf)
      | (refine gand ?_ h; assumption)
    all_goals simp [rfw]
end Go.RX

