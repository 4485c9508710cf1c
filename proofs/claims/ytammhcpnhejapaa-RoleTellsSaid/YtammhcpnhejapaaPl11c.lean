/- The plain law of RoleBetter. -/
import Derived.Test.YtammhcpnhejapaaPl11b
set_option linter.unusedVariables false
open Go Go.RX Go.Proofs
namespace Go.RX
abbrev newI (v : Vc) : Inf := ⟨true, v.r, v.c, v.b, v.p, 0⟩
def setI (s : Slf) (p : Nat) (v : Vc) : Slf := ⟨s.i, s.cs, s.us, s.fs.set p (newI v)⟩
theorem ptsOk_of {s : Slf} : ∀ {n : Nat}, (∀ k, k < n → ptOk s k = true) → ptsOk s n = true
  | 0, _ => rfl
  | n + 1, h => by rw [ptsOk, ptsOk_of (fun k hk => h k (by omega)), h n (by omega)]; rfl
theorem set_ok {s : Slf} (hs : sOk s = true) {p : Nat} {n : Int} {x : Inf} {u : Bool} (hP : Port s p n x u) (hu : u = true) {v : Vc} (hv : rgt v = true) : sOk (setI s p v) = true := by
  have hh := sOk_hd hs
  have hh' : hdOk (setI s p v) = true := by
    simp only [hdOk, setI, List.length_set] at hh ⊢; exact hh
  have hpl : p < s.fs.length := (List.getElem?_eq_some_iff.1 hP.fs).1
  rw [sOk, hh', Bool.true_and]
  refine ptsOk_of fun k hk => ?_
  have hk' : k < s.cs.length := hk
  by_cases hkp : k = p
  · subst hkp
    have e : (setI s k v).fs[k]? = some (newI v) := by simp [setI, hpl]
    have e2 : (setI s k v).cs[k]? = some n := hP.cs
    have e3 : (setI s k v).us[k]? = some u := hP.us
    simp only [ptOk, e, e2, e3]
    have := hP.n1
    have := hP.n2
    subst hu
    simp only [infOk, iRight, if_true, and_self]
    rw [show vRight v.r v.c v.b v.p = true from hv]
    simp; omega
  · obtain ⟨n', x', u', hP'⟩ := sOk_port hs hk'
    have e : (setI s p v).fs[k]? = some x' := by simp only [setI, List.getElem?_set_ne (Ne.symm hkp)]; exact hP'.fs
    have e2 : (setI s p v).cs[k]? = some n' := hP'.cs
    have e3 : (setI s p v).us[k]? = some u' := hP'.us
    simp only [ptOk, e, e2, e3]
    have := hP'.n1
    have := hP'.n2
    have := hP'.ok
    simp only [Bool.and_eq_true, decide_eq_true_eq]
    exact ⟨⟨by omega, by omega⟩, this⟩
theorem better_law {s : Slf} (hs : sOk s = true) {p : Nat} {n : Int} {x : Inf} {u : Bool} (hP : Port s p n x u) (hu : u = true) {v : Vc} (hv : rgt v = true) (hb : x.h = true → LtV v x.v) :
    ¬ LtV (tlV s (rp s) 0) (tlV (setI s p v) (rp (setI s p v)) 0) := by
  have hs' := set_ok hs hP hu hv
  have hpl : p < s.fs.length := (List.getElem?_eq_some_iff.1 hP.fs).1
  have hi : (setI s p v).i = s.i := rfl
  rcases rp_spec hs with ⟨h1, h2⟩ | ⟨q, h1, h2, h3, h4, h5⟩
  · rcases rp_spec hs' with ⟨g1, g2⟩ | ⟨r, g1, g2, g3, g4, g5⟩
    · rw [h1, g1]; unfold LtV Lt4; simp only [tlV, wv, hi]; omega
    · rw [h1, g1]; unfold LtV Lt4; simp only [tlV, wv]; rw [hi] at g3; omega
  · -- the old root port's way is no worse
    have key : Told (setI s p v) q ∧ ((wy (setI s p v) q).r < (wy s q).r ∨ (wy (setI s p v) q).r = (wy s q).r ∧ (wy (setI s p v) q).c ≤ (wy s q).c) := by
      by_cases hqp : q = p
      · subst hqp
        have e : (setI s q v).fs[q]? = some (newI v) := by simp [setI, hpl]
        have e2 : (setI s q v).cs[q]? = some n := hP.cs
        refine ⟨⟨_, e, rfl⟩, ?_⟩
        obtain ⟨y, hy1, hy2⟩ := h2
        rw [hP.fs] at hy1; cases hy1
        have hlt := hb hy2
        have hxr := (hP.told hy2).2.1
        have f1 := (far_ok hxr hP.n1 hP.n2).1
        have f2 := (far_ok hv hP.n1 hP.n2).1
        rw [hP.wy, f1]
        have e3 : wy (setI s q v) q = far v n := by simp only [wy, e, e2]
        rw [e3, f2]
        unfold LtV Lt4 at hlt
        simp only at hlt ⊢
        split <;> split <;> omega
      · have e : (setI s p v).fs[q]? = s.fs[q]? := by simp only [setI, List.getElem?_set_ne (Ne.symm hqp)]
        have e3 : wy (setI s p v) q = wy s q := by simp only [wy, e]; rfl
        obtain ⟨y, hy1, hy2⟩ := h2
        refine ⟨⟨y, by rw [e]; exact hy1, hy2⟩, ?_⟩
        rw [e3]
        exact .inr ⟨rfl, Int.le_refl _⟩
    rcases rp_spec hs' with ⟨g1, g2⟩ | ⟨r, g1, g2, g3, g4, g5⟩
    · have := g2 q key.1
      rw [hi] at this
      omega
    · have := g4 q key.1
      rw [h1, g1]
      unfold LtV Lt4 at *
      simp only [tlV, wv]
      have k2 := key.2
      omega
end Go.RX
