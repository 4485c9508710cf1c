/- The contract of footwaylaw10.PortWaits. -/
import Derived.Test.YtammhcpnhejapaaTyc
import Derived.Test.YtammhcpnhejapaaRXu
set_option linter.unusedVariables false
set_option linter.unusedSimpArgs false
open Go Go.RX Go.Proofs
namespace Go.RX
set_option maxRecDepth 10000
set_option maxHeartbeats 1000000
attribute [local irreducible] CallW CallP LoopW W
abbrev bs (L : List Bool) : LV := .ro 1 (L.map fun b => [.bool b])
theorem mn0 {a b : Int} (ha : 0 ≤ a) (hb : 0 ≤ b) : 0 ≤ mn a b := by unfold mn; split <;> omega
theorem mnl (a b : Int) : mn a b ≤ a := by unfold mn; split <;> omega
abbrev s71 (D : Int) (xs : List (List LV)) (i : Int) : Slots := [(0, I D), (4, .bool false), (5, .ptr 0 0 0), (33, .ro 1 xs), (34, I xs.length), (35, I i)]
abbrev s72 (D n i : Int) : Slots := [(0, I D), (4, .bool false), (5, .ptr 0 0 0), (79, I n), (80, I i)]
abbrev l34 (s l : Int) : List (Nat × Blk) := [(0, .row 34 2 [[I s, I l]])]
def StI (D i s l : Int) : Prop := (i = 0 ∧ s = 0 ∧ l = 0) ∨ (1 ≤ i ∧ i < D ∧ s = 1 ∧ l = D - i) ∨ (1 ≤ i ∧ D ≤ i ∧ i < 2 * D ∧ s = 2 ∧ l = 2 * D - i) ∨ (2 * D ≤ i ∧ 1 ≤ i ∧ s = 3 ∧ l = 0)
theorem pE0 {s l d : Int} (h : PR s l d) : pE s l d = 0 := by simp [pE, h]
theorem PR_role {s l d : Int} (h : PR s l d) (a : Bool) : PR (rS s l d a) (rL s l d a) d := by
  have h' := h
  unfold PR at h'
  cases a with
  | false => simp only [rS, rL, Bool.false_eq_true, and_false, if_false]; unfold PR; omega
  | true =>
    simp only [rS, rL, h, and_self, if_true]
    unfold PR
    split <;> omega
theorem PR_tick {s l d : Int} (h : PR s l d) : PR (tS s l d) (tL s l d) d := by
  have h' := h
  unfold PR at h'
  simp only [tS, tL, h, if_true]
  unfold PR
  rcases h' with ⟨rfl | rfl, _⟩ | ⟨rfl | rfl, _⟩ <;> (rcases Decidable.em (1 < l) with hl | hl) <;> simp [hl] <;> omega
theorem off_blank {s l d : Int} (h : PR s l d) : tS (rS s l d false) (rL s l d false) d = 0 ∧ tL (rS s l d false) (rL s l d false) d = 0 := by
  have h' := h
  unfold PR at h'
  have h0 : PR 0 0 d := by unfold PR; omega
  simp [rS, rL, tS, tL, h0]
theorem StI_PR {D i s l : Int} (hD : 1 ≤ D ∧ D ≤ 30) (h : StI D i s l) : PR s l D := by
  unfold StI at h; unfold PR; omega
theorem StI_facts {D i s l : Int} (hD : 1 ≤ D ∧ D ≤ 30) (h : StI D i s l) :
    rS (rS s l D true) (rL s l D true) D true = rS s l D true ∧ rL (rS s l D true) (rL s l D true) D true = rL s l D true ∧
    (rS s l D true = 2 ∨ rS s l D true = 3 ↔ D ≤ i) ∧ (rS s l D true = 3 ↔ 2 * D ≤ i) ∧ lN s l D = mx 0 (2 * D - i) ∧ StI D (i + 1) (tS (rS s l D true) (rL s l D true) D) (tL (rS s l D true) (rL s l D true) D) := by
  have hp := StI_PR hD h
  have hq := PR_role hp true
  simp only [rS, rL, hp, and_self, if_true] at hq ⊢
  simp only [tS, tL, lN, hp, hq, if_true, and_self, mx]
  unfold StI at h ⊢
  rcases h with ⟨rfl, rfl, rfl⟩ | ⟨h1, h2, rfl, rfl⟩ | ⟨h1, h2, h3, rfl, rfl⟩ | ⟨h1, h2, rfl, rfl⟩
  · rcases Decidable.em (1 < D) with hl | hl <;> simp [hl] <;> omega
  · rcases Decidable.em (1 < D - i) with hl | hl <;> simp [hl] <;> omega
  · rcases Decidable.em (1 < 2 * D - i) with hl | hl <;> simp [hl] <;> omega
  · simp; omega
theorem d_bound (d : Int) : ∃ D, 1 ≤ D ∧ D ≤ 30 ∧ IntKind.i64.wrap (1 + (IntKind.i64.wrap (d.tmod 30 + 30)).tmod 30) = D := by
  have h1 : -30 < d.tmod 30 := Int.lt_tmod_of_pos d (by decide)
  have h2 : d.tmod 30 < 30 := Int.tmod_lt_of_pos d (by decide)
  have w1 := w64_small (x := d.tmod 30 + 30) (by omega) (by omega)
  simp only [w64] at w1
  rw [w1]
  have h3 : 0 ≤ (d.tmod 30 + 30).tmod 30 := Int.tmod_nonneg _ (by omega)
  have h4 : (d.tmod 30 + 30).tmod 30 < 30 := Int.tmod_lt_of_pos _ (by decide)
  have w2 := w64_small (x := 1 + (d.tmod 30 + 30).tmod 30) (by omega) (by omega)
  exact ⟨_, by omega, by omega, w2⟩
end Go.RX

