/- The contract of role.wayOf. -/
import Derived.Test.YtammhcpnhejapaaPl11a
import Derived.Test.YtammhcpnhejapaaRXx
set_option linter.unusedVariables false
set_option linter.unusedSimpArgs false
open Go Go.RX Go.Proofs
namespace Go.RX
set_option maxRecDepth 10000
set_option maxHeartbeats 2000000
attribute [local irreducible] CallW CallP LoopW W
def wT : Option Nat → Nat
  | none => 109
  | some _ => 106
def wC : Option Nat → List LV
  | none => []
  | some p => [I p]
abbrev wayL (w : Option Nat) : LV := .iface (wT w) (.agg (wC w))
theorem nlx (w : Option Nat) : NLs (wC w) := by cases w <;> simp [wC, NLs, NL]
abbrev prt (s : Slf) (k : Nat) : List (List LV) := (hps s.fs k).map fun p : Nat => [I p]
abbrev wyc (s : Slf) (k : Nat) : List (List LV) := (wys s k).map Vc.cells
abbrev s52 (s : Slf) (k : Nat) : Slots := [(1, .ptr 0 0 0), (3, .sl 1 0 (prt s k).length), (4, .sl 2 0 (wyc s k).length), (10, infsL s.fs), (11, I (s.fs.map Inf.cells).length), (12, I k)]
abbrev l52 (s : Slf) (k : Nat) : List (Nat × Blk) := [(0, .row 52 4 [[I s.i, intsL s.cs, boolsL s.us, infsL s.fs]]), (1, .row 3 1 (prt s k)), (2, .row 23 4 (wyc s k))]
theorem prt_nl (s : Slf) (k : Nat) : NLss (prt s k) := NLss_iff.2 fun cs hc x hx => by
  obtain ⟨p, _, rfl⟩ := List.mem_map.1 hc
  simp only [List.mem_singleton] at hx; subst hx; trivial
theorem wyc_nl (s : Slf) (k : Nat) : NLss (wyc s k) := NLss_iff.2 fun cs hc x hx => by
  obtain ⟨p, _, rfl⟩ := List.mem_map.1 hc
  simp only [List.mem_cons, List.not_mem_nil, or_false] at hx
  rcases hx with rfl | rfl | rfl | rfl <;> trivial
theorem nlss_bel {m : Nat} {es : List (List LV)} (h : NLss es) : belss m es := belss_iff.2 fun cs hc x hx => (NLss_iff.1 h cs hc x hx).bel
theorem c52 (s : Slf) (hs : sOk s = true) : CallP Try.prog 52 [slfL s] (wayL (rp s)) := by
  obtain ⟨hl1, hl2, hl3, hl4, hl5, hl6⟩ := hd_len (sOk_hd hs)
  refine .intro (by first | (simp [NLs, NL]; done) | (simp [NLs, NL, nlx]; done)) (.intro TT_ok Try.func52 rfl rfl [0, 1, 2, 3, 4, 5, 6, 7, 8, 10, 11, 12, 13, 18, 47] rfl ?_)
  conv => whnf
  repeat' first
    | with_reducible rfl
    | with_reducible exact True.intro
    | assumption
    | (refine W.drawn TT_ok hmix1 rfl ?_; conv => whnf)
    | (refine W.drawnM (id := 7) TT_ok hmix1 [0, 0, 0, 1, 0, 0, 0, 0, 2, 2, 3, 4, 4] [1, 0, 1, 2, 3, 2, 2, 2, 2, 3, 4, 4, 4] rfl ?_; conv => whnf)
    | exact absurd (show false = true from h) Bool.false_ne_true
    | exact absurd (show true = false from h) (fun e => Bool.noConfusion e)
    | exact (congrArg Bool.not h)
    | (refine ⟨_, ⟨by first | assumption | decide | omega, by first | assumption | rfl⟩, ?_⟩; conv => whnf)
    | (refine ⟨_, fun _ => ⟨by first | assumption | decide | omega, by first | assumption | rfl⟩, ?_⟩; conv => whnf)
    | exact (rfl : (_ : Nat) = _)
    | exact (rfl : (_ : LV) = _)
    | (refine ⟨fun h => ?_, fun h => ?_⟩ <;> conv => whnf)
    | (refine ⟨?_, ?_⟩ <;> conv => whnf)
    | (intro h; conv => whnf)
  refine LoopW.virt 3 3 1 rfl ?_
  refine LoopW.virt 4 23 4 rfl ?_
  refine LoopW.norm (s52 s 0) 3 (l52 s 0) ⟨rfl, rfl, rfl, rfl, rfl, rfl, trivial⟩ ⟨⟨rfl, rfl, ⟨trivial, trivial, trivial, trivial, trivial⟩, trivial⟩, ⟨rfl, rfl, trivial⟩, ⟨rfl, rfl, trivial⟩, trivial⟩ ⟨rfl, rfl, rfl, trivial, trivial, trivial, trivial⟩ rfl ?_
  refine LoopW.ind (α := Nat) (fun k => s.fs.length - k) (fun k s' H => k ≤ s.fs.length ∧ s' = s52 s k ∧ H = ⟨3, l52 s k⟩) ?_ (a := 0) ⟨Nat.zero_le _, rfl, rfl⟩
  rintro k s' H ⟨hk, rfl, rfl⟩ ih
  by_cases hi : k < s.fs.length
  · have hd : decide ((k : Int) < ((s.fs.map Inf.cells).length : Int)) = true := by simp; omega
    obtain ⟨n, x, u, hP⟩ := sOk_port hs (p := k) (by omega)
    have hb : (s.fs.map Inf.cells)[k]? = some x.cells := by simp [hP.fs]
    have h66 := c66 s k x n hP.fs hP.cs
    have hq := hps_len s.fs k
    refine LoopW.round TT_ok [0, 1, 2, 3, 4, 5, 6, 7, 8, 10, 11, 12, 13, 18, 47] ?_
    conv => whnf
    by_cases hx : x.h = true
    · have e1 : prt s k ++ [[I k]] = prt s (k + 1) := by simp only [prt, hps, hP.fs, if_pos hx, List.map_append, List.map_cons, List.map_nil]
      have e2 : wyc s k ++ [(far x.v n).cells] = wyc s (k + 1) := by
        simp only [wyc, wys, hps, hP.fs, if_pos hx, List.map_append, List.map_cons, List.map_nil, hP.wy]
      have f1 : fits (prt s k ++ [[I k]]).length 8 := by simp [fits]; omega
      have f2 : fits (wyc s k ++ [(far x.v n).cells]).length 32 := by simp [fits]; omega
      repeat' first
        | with_reducible rfl
        | with_reducible exact True.intro
        | assumption
        | exact (Bool.false_ne_true (h.symm.trans hd)).elim
        | exact (Bool.false_ne_true (h.symm.trans hx)).elim
        | exact f1
        | exact f2
        | (refine CallP.use (h66) ?_; conv => whnf)
        | (refine ⟨_, fun _ => h66, ?_⟩; conv => whnf)
        | (refine W.drawn TT_ok hmix1 rfl ?_; conv => whnf)
        | (refine W.drawnM (id := 7) TT_ok hmix1 [0, 0, 0, 1, 0, 0, 0, 0, 2, 2, 3, 4, 4] [1, 0, 1, 2, 3, 2, 2, 2, 2, 3, 4, 4, 4] rfl ?_; conv => whnf)
        | exact absurd (show false = true from h) Bool.false_ne_true
        | exact absurd (show true = false from h) (fun e => Bool.noConfusion e)
        | exact (congrArg Bool.not h)
        | (refine ⟨_, ⟨by first | assumption | decide | omega, by first | assumption | rfl⟩, ?_⟩; conv => whnf)
        | (refine ⟨_, fun _ => ⟨by first | assumption | decide | omega, by first | assumption | rfl⟩, ?_⟩; conv => whnf)
        | exact (rfl : (_ : Nat) = _)
        | exact (rfl : (_ : LV) = _)
        | (refine ⟨fun h => ?_, fun h => ?_⟩ <;> conv => whnf)
        | (refine ⟨?_, ?_⟩ <;> conv => whnf)
        | (intro h; conv => whnf)
      refine LoopW.ren [(0, 0), (5, 1), (7, 2)] (s52 s (k + 1)) 3 (l52 s (k + 1)) rfl
        ⟨rfl, congrArg (fun l : List (List LV) => LV.sl 1 0 l.length) e1, congrArg (fun l : List (List LV) => LV.sl 2 0 l.length) e2, rfl, rfl, congrArg (LV.int .i64) (w64_nat (by omega)), trivial⟩
        ⟨⟨rfl, rfl, .inl ⟨rfl, ⟨trivial, trivial, trivial, trivial, trivial⟩, trivial⟩⟩, rfl, rfl, ⟨rfl, rfl, .inl ⟨e1, e1 ▸ prt_nl s (k + 1)⟩⟩, rfl, rfl, ⟨rfl, rfl, .inl ⟨e2, e2 ▸ wyc_nl s (k + 1)⟩⟩, rfl, rfl, trivial⟩ rfl
        (ih (k + 1) _ _ ⟨hi, rfl, rfl⟩ (by omega))
    · rw [Bool.not_eq_true] at hx
      have e1 : prt s k = prt s (k + 1) := by simp [prt, hps, hP.fs, hx]
      have e2 : wyc s k = wyc s (k + 1) := by simp [wyc, wys, hps, hP.fs, hx]
      repeat' first
        | with_reducible rfl
        | with_reducible exact True.intro
        | assumption
        | exact (Bool.false_ne_true (h.symm.trans hd)).elim
        | exact (Bool.false_ne_true (hx.symm.trans h)).elim
        | (refine W.drawn TT_ok hmix1 rfl ?_; conv => whnf)
        | (refine W.drawnM (id := 7) TT_ok hmix1 [0, 0, 0, 1, 0, 0, 0, 0, 2, 2, 3, 4, 4] [1, 0, 1, 2, 3, 2, 2, 2, 2, 3, 4, 4, 4] rfl ?_; conv => whnf)
        | exact absurd (show false = true from h) Bool.false_ne_true
        | exact absurd (show true = false from h) (fun e => Bool.noConfusion e)
        | exact (congrArg Bool.not h)
        | (refine ⟨_, ⟨by first | assumption | decide | omega, by first | assumption | rfl⟩, ?_⟩; conv => whnf)
        | (refine ⟨_, fun _ => ⟨by first | assumption | decide | omega, by first | assumption | rfl⟩, ?_⟩; conv => whnf)
        | exact (rfl : (_ : Nat) = _)
        | exact (rfl : (_ : LV) = _)
        | (refine ⟨fun h => ?_, fun h => ?_⟩ <;> conv => whnf)
        | (refine ⟨?_, ?_⟩ <;> conv => whnf)
        | (intro h; conv => whnf)
      refine LoopW.norm (s52 s (k + 1)) 3 (l52 s (k + 1))
        ⟨rfl, congrArg (fun l : List (List LV) => LV.sl 1 0 l.length) e1, congrArg (fun l : List (List LV) => LV.sl 2 0 l.length) e2, rfl, rfl, congrArg (LV.int .i64) (w64_nat (by omega)), trivial⟩
        ⟨⟨rfl, rfl, ⟨trivial, trivial, trivial, trivial, trivial⟩, trivial⟩, ⟨congrArg (fun l => some (Blk.row 3 1 l)) e1, rfl, nlss_bel (prt_nl s (k + 1))⟩, ⟨congrArg (fun l => some (Blk.row 23 4 l)) e2, rfl, nlss_bel (wyc_nl s (k + 1))⟩, trivial⟩
        ⟨rfl, rfl, rfl, trivial, trivial, trivial, trivial⟩ rfl (ih (k + 1) _ _ ⟨hi, rfl, rfl⟩ (by omega))
  · have hd : decide ((k : Int) < ((s.fs.map Inf.cells).length : Int)) = false := by simp; omega
    have hkk : k = s.fs.length := by omega
    subst hkk
    clear ih
    have hq := hps_len s.fs s.fs.length
    have hwr := wys_right hs (k := s.fs.length) (by omega)
    have hwl : (wys s s.fs.length).length = (hps s.fs s.fs.length).length := by simp [wys]
    have h41 := c41 (wys s s.fs.length) (by omega)
    rw [bAt, bErr, if_pos hwr, if_pos hwr] at h41
    refine LoopW.frz [1, 2] ⟨prt_nl s _, rfl, wyc_nl s _, rfl, ?_⟩
    conv => whnf
    by_cases h0 : (wys s s.fs.length).length = 0
    · have hrp : rp s = none := by
        rw [rp, List.getElem?_eq_none (by omega)]
      rw [hrp]
      rw [if_pos h0] at h41
      refine LoopW.round TT_ok [0, 1, 2, 3, 4, 5, 6, 7, 8, 10, 11, 12, 13, 18, 47] ?_
      conv => whnf
      repeat' first
        | with_reducible rfl
        | with_reducible exact True.intro
        | assumption
        | exact (Bool.false_ne_true (hd.symm.trans h)).elim
        | (refine ⟨[I 0, I 0, I 0, I 0], fun hg => absurd hg (by decide), ?_⟩; conv => whnf)
        | (refine CallP.use (h41) ?_; conv => whnf)
        | (refine ⟨_, fun _ => h41, ?_⟩; conv => whnf)
        | (refine W.drawn TT_ok hmix1 rfl ?_; conv => whnf)
        | (refine W.drawnM (id := 7) TT_ok hmix1 [0, 0, 0, 1, 0, 0, 0, 0, 2, 2, 3, 4, 4] [1, 0, 1, 2, 3, 2, 2, 2, 2, 3, 4, 4, 4] rfl ?_; conv => whnf)
        | exact absurd (show false = true from h) Bool.false_ne_true
        | exact absurd (show true = false from h) (fun e => Bool.noConfusion e)
        | exact (congrArg Bool.not h)
        | (refine ⟨_, ⟨by first | assumption | decide | omega, by first | assumption | rfl⟩, ?_⟩; conv => whnf)
        | (refine ⟨_, fun _ => ⟨by first | assumption | decide | omega, by first | assumption | rfl⟩, ?_⟩; conv => whnf)
        | exact (rfl : (_ : Nat) = _)
        | exact (rfl : (_ : LV) = _)
        | (refine ⟨fun h => ?_, fun h => ?_⟩ <;> conv => whnf)
        | (refine ⟨?_, ?_⟩ <;> conv => whnf)
        | (intro h; conv => whnf)
    · rw [if_neg h0] at h41
      have hbl := bestN_lt (l := wys s s.fs.length) (by omega) (Nat.le_refl _)
      generalize hb0 : bestN (wys s s.fs.length) (wys s s.fs.length).length = b at hbl h41
      have hbp : b < (hps s.fs s.fs.length).length := by omega
      have hb : (wyc s s.fs.length)[b]? = some (wy s (hps s.fs s.fs.length)[b]).cells := by simp [wyc, hbp]
      have hb2 : (prt s s.fs.length)[b]? = some [I (hps s.fs s.fs.length)[b]] := by simp [prt, hbp]
      have hrp : rp s = if (wy s (hps s.fs s.fs.length)[b]).r < s.i then some (hps s.fs s.fs.length)[b] else none := by
        rw [rp, hb0, List.getElem?_eq_getElem hbp]
      generalize (hps s.fs s.fs.length)[b] = p at hb hb2 hrp
      by_cases hr : (wy s p).r < s.i
      · have hne : decide (s.i ≤ (wy s p).r) = false := by simp; omega
        rw [hrp, if_pos hr]
        refine LoopW.round TT_ok [0, 1, 2, 3, 4, 5, 6, 7, 8, 10, 11, 12, 13, 18, 47] ?_
        conv => whnf
        repeat' first
          | with_reducible rfl
          | with_reducible exact True.intro
          | assumption
          | exact (Bool.false_ne_true (hd.symm.trans h)).elim
          | exact (Bool.false_ne_true (hne.symm.trans h)).elim
          | (refine CallP.use (h41) ?_; conv => whnf)
          | (refine ⟨_, fun _ => h41, ?_⟩; conv => whnf)
          | (refine W.drawn TT_ok hmix1 rfl ?_; conv => whnf)
          | (refine W.drawnM (id := 7) TT_ok hmix1 [0, 0, 0, 1, 0, 0, 0, 0, 2, 2, 3, 4, 4] [1, 0, 1, 2, 3, 2, 2, 2, 2, 3, 4, 4, 4] rfl ?_; conv => whnf)
          | exact absurd (show false = true from h) Bool.false_ne_true
          | exact absurd (show true = false from h) (fun e => Bool.noConfusion e)
          | exact (congrArg Bool.not h)
          | (refine ⟨_, ⟨by first | assumption | decide | omega, by first | assumption | rfl⟩, ?_⟩; conv => whnf)
          | (refine ⟨_, fun _ => ⟨by first | assumption | decide | omega, by first | assumption | rfl⟩, ?_⟩; conv => whnf)
          | exact (rfl : (_ : Nat) = _)
          | exact (rfl : (_ : LV) = _)
          | (refine ⟨fun h => ?_, fun h => ?_⟩ <;> conv => whnf)
          | (refine ⟨?_, ?_⟩ <;> conv => whnf)
          | (intro h; conv => whnf)
      · have hne : decide (s.i ≤ (wy s p).r) = true := by simp; omega
        rw [hrp, if_neg hr]
        refine LoopW.round TT_ok [0, 1, 2, 3, 4, 5, 6, 7, 8, 10, 11, 12, 13, 18, 47] ?_
        conv => whnf
        repeat' first
          | with_reducible rfl
          | with_reducible exact True.intro
          | assumption
          | exact (Bool.false_ne_true (hd.symm.trans h)).elim
          | exact (Bool.false_ne_true (h.symm.trans hne)).elim
          | (refine CallP.use (h41) ?_; conv => whnf)
          | (refine ⟨_, fun _ => h41, ?_⟩; conv => whnf)
          | (refine W.drawn TT_ok hmix1 rfl ?_; conv => whnf)
          | (refine W.drawnM (id := 7) TT_ok hmix1 [0, 0, 0, 1, 0, 0, 0, 0, 2, 2, 3, 4, 4] [1, 0, 1, 2, 3, 2, 2, 2, 2, 3, 4, 4, 4] rfl ?_; conv => whnf)
          | exact absurd (show false = true from h) Bool.false_ne_true
          | exact absurd (show true = false from h) (fun e => Bool.noConfusion e)
          | exact (congrArg Bool.not h)
          | (refine ⟨_, ⟨by first | assumption | decide | omega, by first | assumption | rfl⟩, ?_⟩; conv => whnf)
          | (refine ⟨_, fun _ => ⟨by first | assumption | decide | omega, by first | assumption | rfl⟩, ?_⟩; conv => whnf)
          | exact (rfl : (_ : Nat) = _)
          | exact (rfl : (_ : LV) = _)
          | (refine ⟨fun h => ?_, fun h => ?_⟩ <;> conv => whnf)
          | (refine ⟨?_, ?_⟩ <;> conv => whnf)
          | (intro h; conv => whnf)
end Go.RX

