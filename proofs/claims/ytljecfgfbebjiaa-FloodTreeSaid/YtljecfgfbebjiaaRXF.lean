/- RX, part F: a row that names another one. -/
import Derived.Test.YtljecfgfbebjiaaRXE
set_option linter.unusedVariables false
namespace Go.RX
open Go
mutual
theorem fzV_NL {y sz : Nat} {es : List (List LV)} : ∀ {l : LV}, NL l → fzV y sz es l = l
 | .agg cs, h => by simp only [NL] at h; simp only [fzV, fzL_NL h]
 | .tup cs, h => by simp only [NL] at h; simp only [fzV, fzL_NL h]
 | .func _ a b, h => by simp only [NL] at h; simp only [fzV, fzL_NL h.1, fzL_NL h.2]
 | .iface _ v, h => by simp only [NL] at h; simp only [fzV, fzV_NL h]
 | .ite _ a b, h => by simp only [NL] at h; simp only [fzV, fzV_NL h.1, fzV_NL h.2]
 | .ptr _ _ _, h => by simp [NL] at h
 | .sl _ _ _, h => by simp [NL] at h
 | .map _, h => by simp [NL] at h
 | .any, h => by simp [fzV]
 | .und, h => by simp [fzV]
 | .bool _, h => by simp [fzV]
 | .int _ _, h => by simp [fzV]
 | .str _, h => by simp [fzV]
 | .nilp, h => by simp [fzV]
 | .rptr _, h => by simp [fzV]
 | .ro _ _, h => by simp [fzV]
 | .nils, h => by simp [fzV]
 | .nilm, h => by simp [fzV]
 | .nilf, h => by simp [fzV]
 | .nili, h => by simp [fzV]
theorem fzL_NL {y sz : Nat} {es : List (List LV)} : ∀ {l : List LV}, NLs l → fzL y sz es l = l
 | [], h => rfl
 | x :: r, h => by simp only [NLs] at h; simp only [fzL, fzV_NL h.1, fzL_NL h.2]
end
mutual
theorem fzC_NL {y n : Nat} : ∀ {l : LV}, NL l → fzC y n l
 | .agg cs, h => by simp only [NL] at h; simp only [fzC]; exact fzCs_NL h
 | .tup cs, h => by simp only [NL] at h; simp only [fzC]; exact fzCs_NL h
 | .func _ a b, h => by simp only [NL] at h; simp only [fzC]; exact ⟨fzCs_NL h.1, fzCs_NL h.2⟩
 | .iface _ v, h => by simp only [NL] at h; simp only [fzC]; exact fzC_NL h
 | .ite _ a b, h => by simp only [NL] at h; simp only [fzC]; exact ⟨fzC_NL h.1, fzC_NL h.2⟩
 | .ptr _ _ _, h => by simp [NL] at h
 | .sl _ _ _, h => by simp [NL] at h
 | .map _, h => by simp [NL] at h
 | .any, h => by simp [fzC]
 | .und, h => by simp [fzC]
 | .bool _, h => by simp [fzC]
 | .int _ _, h => by simp [fzC]
 | .str _, h => by simp [fzC]
 | .nilp, h => by simp [fzC]
 | .rptr _, h => by simp [fzC]
 | .ro _ _, h => by simp [fzC]
 | .nils, h => by simp [fzC]
 | .nilm, h => by simp [fzC]
 | .nilf, h => by simp [fzC]
 | .nili, h => by simp [fzC]
theorem fzCs_NL {y n : Nat} : ∀ {l : List LV}, NLs l → fzCs y n l
 | [], h => by simp [fzCs]
 | x :: r, h => by simp only [NLs] at h; simp only [fzCs]; exact ⟨fzC_NL h.1, fzCs_NL h.2⟩
end
theorem nst_map {r sz : Nat} {es : List (List LV)} : ∀ {R : List (List LV)}, NLss R → R.map (fzL r sz es) = R
 | [], _ => rfl
 | c :: R, h => by rw [List.map_cons, nst_map h.2, fzL_NL h.1]
theorem nst_fz {r sz i n : Nat} {es R : List (List LV)} (h : NLss R) : (setN R i [LV.sl r 0 n]).map (fzL r sz es) = setN R i [LV.ro sz es] := by
 induction R generalizing i with
 | nil => cases i <;> rfl
 | cons c R ih =>
  cases i with
  | zero =>
   show fzL r sz es [LV.sl r 0 n] :: R.map (fzL r sz es) = [LV.ro sz es] :: R
   rw [nst_map h.2]
   simp [fzL, fzV]
  | succ i =>
   show fzL r sz es c :: (setN R i [LV.sl r 0 n]).map (fzL r sz es) = c :: setN R i [LV.ro sz es]
   rw [ih h.2, fzL_NL h.1]
theorem nst_fzC {r i n m : Nat} {R : List (List LV)} (h : NLss R) (hn : n = m) : ∀ cs ∈ setN R i [LV.sl r 0 n], fzCs r m cs := by
 induction R generalizing i with
 | nil => intro cs hc; cases i <;> cases hc
 | cons c R ih =>
  intro cs hc
  cases i with
  | zero =>
   rcases List.mem_cons.1 (show cs ∈ [LV.sl r 0 n] :: R from hc) with e | e
   ·rw [e]; simp [fzCs, fzC, hn]
   ·exact fzCs_NL (NLs_iff.2 (NLss_iff.1 h.2 cs e))
  | succ i =>
   rcases List.mem_cons.1 (show cs ∈ c :: setN R i [LV.sl r 0 n] from hc) with e | e
   ·rw [e]; exact fzCs_NL h.1
   ·exact ih h.2 cs e
theorem nst_nl {i : Nat} {x : LV} {R : List (List LV)} (h : NLss R) (hx : NL x) : NLss (setN R i [x]) := by
 induction R generalizing i with
 | nil => cases i <;> exact True.intro
 | cons c R ih =>
  cases i with
  | zero => exact ⟨⟨hx, True.intro⟩, h.2⟩
  | succ i => exact ⟨h.1, ih h.2⟩
theorem nst_nth {i : Nat} {c : List LV} {R : List (List LV)} (h : i < R.length) : nth (setN R i c) i = some c := by
 induction R generalizing i with
 | nil => exact absurd h (Nat.not_lt_zero _)
 | cons a R ih =>
  cases i with
  | zero => rfl
  | succ i => exact ih (by simpa using h)
end Go.RX
