/- RX, part E: what closes small goals, under short names. -/
import Derived.Test.YtljecfgfbebjiaaRXD
set_option linter.unusedVariables false
namespace Go.RX
open Go
theorem rA (p : Prop) (_ : p := by first | with_reducible rfl | with_reducible exact True.intro | with_reducible assumption) : p := by assumption
theorem nlT {p : Prop} (h : p := by (repeat' first | exact NLss_map' _ | refine NLss_app ?_ ?_ | refine NLss_set ?_ ?_ | refine NLss_rep ?_ | refine NLss_take ?_ | refine NLss_drop ?_ | exact True.intro | refine ⟨?_, ?_⟩) <;> fail) : p := h
theorem blT {p : Prop} (h : p := by (repeat' first | exact True.intro | exact rfl | exact NLs_bels (by assumption) | refine ⟨?_, ?_⟩) <;> fail) : p := h
theorem nlA {p : Prop} (h : p := by (repeat' first | exact True.intro | assumption | refine ⟨?_, ?_⟩) <;> fail) : p := h
theorem nlB {p : Prop} (h : p := by (repeat' first | exact True.intro | refine ⟨?_, ?_⟩) <;> fail) : p := h
theorem upT {p : Prop} (h : p := by (repeat' first | exact Up.refl _ | exact Up.nil _ | exact True.intro | refine Up.agg ?_ | refine ⟨?_, ?_⟩) <;> fail) : p := h
theorem lnT {p : Prop} (h : p := by (repeat' first | exact True.intro | exact rfl | assumption | exact NLss_map' _ | refine NLss_app ?_ ?_ | refine NLss_set ?_ ?_ | refine NLss_rep ?_ | refine NLss_take ?_ | refine NLss_drop ?_ | refine ⟨?_, ?_⟩) <;> fail) : p := h
theorem smT {p : Prop} (h : p := by first | (simp only [se_map, se_byL, se_len, se_ch, List.length_map]; done) | ((try simp only [se_map, se_byL, se_len, se_ch, List.length_map]); congr 3; first | omega | (simp only [List.length_map] at *; omega))) : p := h
theorem clA (p : Prop) (_ : p := by first | exact (congrArg Bool.not h) | exact fun _ => True.intro | exact (rfl : (_ : Nat) = _) | exact (rfl : (_ : LV) = _) | ((first | exact NLss_map' _ | refine NLss_app ?_ ?_ | refine NLss_rep ?_ | refine NLss_set ?_ ?_ | refine NLss_take ?_ | refine NLss_drop ?_) <;> exact nlT)) : p := by assumption
theorem clG (p : Prop) (_ : p := by first | (intro h; (conv => whnf) <;> first | with_reducible rfl | assumption | exact h | exact (congrArg Bool.not h) | (refine ⟨h, True.intro⟩) | (refine ⟨congrArg Bool.not h, True.intro⟩) | (refine ⟨by assumption, True.intro⟩)) | (intro h; exact (Bool.false_ne_true (h.symm.trans (by assumption))).elim) | (intro h; exact (Bool.false_ne_true (Eq.trans (Eq.symm (by assumption)) h)).elim) | (intro h1 h2; rw [h1, h2]; exact ⟨rfl, True.intro⟩) | (intros; simp_all; done) | (intros; exfalso; simp_all <;> fail)) : p := by assumption
theorem clH (p : Prop) (_ : p := by first | (intro h; (conv => whnf) <;> first | with_reducible rfl | assumption | exact h | exact (congrArg Bool.not h) | (refine ⟨h, True.intro⟩) | (refine ⟨congrArg Bool.not h, True.intro⟩) | (refine ⟨by assumption, True.intro⟩)) | (intro h; exact (Bool.false_ne_true (h.symm.trans (by assumption))).elim) | (intro h; exact (Bool.false_ne_true (Eq.trans (Eq.symm (by assumption)) h)).elim)) : p := by assumption
theorem clN (p : Prop) (_ : p := by first | (simp only [se_map, se_byL]; exact rfl) | (simp only [se_map, se_byL, se_len, se_ch, List.length_map] <;> fail)) : p := by assumption
theorem clL (p : Prop) (_ : p := by first | (simp only [se_map, se_byL, se_len, se_ch, List.length_map]; done) | ((try simp only [se_map, se_byL, se_len, se_ch, List.length_map]); (try simp only [se_len, se_ch, List.length_map] at *); omega)) : p := by assumption
theorem clM (p : Prop) (_ : p := by first | exact rfl | ((try simp only [se_map, se_mp, se_byL, se_len, se_ch, List.length_map]); first | done | omega | (simp only [se_len, se_ch, List.length_map] at *; omega))) : p := by assumption
end Go.RX
