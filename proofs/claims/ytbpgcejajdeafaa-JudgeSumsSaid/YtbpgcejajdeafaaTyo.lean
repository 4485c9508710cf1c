/- Contracts of judge.Hears and cut. -/
import Derived.Test.YtbpgcejajdeafaaTyn
set_option linter.unusedVariables false
set_option linter.unusedSimpArgs false
open Go Go.RX Go.Proofs
namespace Go.RX
set_option maxRecDepth 10000
set_option maxHeartbeats 1000000
attribute [local irreducible] CallW CallP CallS LoopW W IntKind.wrap Finds bitI
theorem c37 (g : Hs) (raw : ByteArray) : ∃ b, CallP Try.prog 37 [hsL g, .str raw] (.bool b) := by
  obtain ⟨d, a, t, r, e, h48⟩ := c48 raw
  obtain ⟨k, e2, h47⟩ := c47 d
  cases hC : (bif !decide (e = 0) then true else decide (a = g.mac)) with
  | true =>
    refine ⟨false, ?_⟩
    refine .intro (by first | (simp [NLs, NL]; done) | (simp [NLs, NL, nlx]; done)) (.intro TT_ok Try.func37 rfl rfl [0, 1, 2, 4, 5, 6, 7, 22] rfl ?_)
    conv => whnf
    repeat' first
      | with_reducible rfl
      | with_reducible exact True.intro
      | with_reducible assumption
      | exact (Bool.false_ne_true (h.symm.trans hC)).elim
      | (refine CallP.use (h48) ?_; conv => whnf)
      | (refine ⟨_, _, CallP.at (h48), ?_⟩; conv => whnf)
      | (refine ⟨_, fun _ => h48, ?_⟩; conv => whnf)
      | (refine CallP.use (h47) ?_; conv => whnf)
      | (refine ⟨_, _, CallP.at (h47), ?_⟩; conv => whnf)
      | (refine ⟨_, fun _ => h47, ?_⟩; conv => whnf)
      | assumption
      | exact absurd (show false = true from h) Bool.false_ne_true
      | exact absurd (show true = false from h) (fun e => Bool.noConfusion e)
      | exact (congrArg Bool.not h)
      | (refine ⟨_, ⟨by first | assumption | decide | omega, by first | assumption | rfl⟩, ?_⟩; conv => whnf)
      | (refine ⟨_, fun _ => ⟨by first | assumption | decide | omega, by first | assumption | rfl⟩, ?_⟩; conv => whnf)
      | exact (rfl : (_ : Nat) = _)
      | exact (rfl : (_ : LV) = _)
      | (refine ⟨fun h => ?_, fun h => ?_⟩ <;> conv => whnf)
      | (refine ⟨?_, ?_⟩ <;> conv => whnf)
      | (intro h; conv => whnf)
      | (refine gand ?_ h; assumption)
    all_goals skip
  | false =>
    refine ⟨bif decide (d = g.mac) then true else decide (k = 1), ?_⟩
    refine .intro (by first | (simp [NLs, NL]; done) | (simp [NLs, NL, nlx]; done)) (.intro TT_ok Try.func37 rfl rfl [0, 1, 2, 4, 5, 6, 7, 22] rfl ?_)
    conv => whnf
    repeat' first
      | with_reducible rfl
      | with_reducible exact True.intro
      | with_reducible assumption
      | exact (Bool.false_ne_true (hC.symm.trans h)).elim
      | (refine CallP.use (h48) ?_; conv => whnf)
      | (refine ⟨_, _, CallP.at (h48), ?_⟩; conv => whnf)
      | (refine ⟨_, fun _ => h48, ?_⟩; conv => whnf)
      | (refine CallP.use (h47) ?_; conv => whnf)
      | (refine ⟨_, _, CallP.at (h47), ?_⟩; conv => whnf)
      | (refine ⟨_, fun _ => h47, ?_⟩; conv => whnf)
      | assumption
      | exact absurd (show false = true from h) Bool.false_ne_true
      | exact absurd (show true = false from h) (fun e => Bool.noConfusion e)
      | exact (congrArg Bool.not h)
      | (refine ⟨_, ⟨by first | assumption | decide | omega, by first | assumption | rfl⟩, ?_⟩; conv => whnf)
      | (refine ⟨_, fun _ => ⟨by first | assumption | decide | omega, by first | assumption | rfl⟩, ?_⟩; conv => whnf)
      | exact (rfl : (_ : Nat) = _)
      | exact (rfl : (_ : LV) = _)
      | (refine ⟨fun h => ?_, fun h => ?_⟩ <;> conv => whnf)
      | (refine ⟨?_, ?_⟩ <;> conv => whnf)
      | (intro h; conv => whnf)
      | (refine gand ?_ h; assumption)
    all_goals rfl
structure HInv (l : List Cp) (s : Int) (k : Nat) (xs : List Int) : Prop where
  at_ : ∀ x ∈ xs, ∃ i : Nat, x = (i : Int) ∧ i < k ∧ ∃ c, l[i]? = some c ∧ c.seg = s
  asc : xs.Pairwise (· < ·)
  len : xs.length ≤ k
theorem HInv.skip {l : List Cp} {s : Int} {k : Nat} {xs : List Int} (h : HInv l s k xs) : HInv l s (k + 1) xs :=
  ⟨fun x hx => by obtain ⟨i, h1, h2, h3⟩ := h.at_ x hx; exact ⟨i, h1, by omega, h3⟩, h.asc, by have := h.len; omega⟩
theorem HInv.add {l : List Cp} {s : Int} {k : Nat} {xs : List Int} (h : HInv l s k xs) {c : Cp} (hc : l[k]? = some c) (hs : c.seg = s) : HInv l s (k + 1) (xs ++ [(k : Int)]) := by
  refine ⟨fun x hx => ?_, ?_, ?_⟩
  · rcases List.mem_append.1 hx with h1 | h1
    · obtain ⟨i, h1, h2, h3⟩ := h.at_ x h1; exact ⟨i, h1, by omega, h3⟩
    · rw [List.mem_singleton] at h1; subst h1
      exact ⟨k, rfl, by omega, c, hc, hs⟩
  · rw [List.pairwise_append]
    refine ⟨h.asc, List.pairwise_singleton _ _, fun a ha b hb => ?_⟩
    rw [List.mem_singleton] at hb; subst hb
    obtain ⟨i, rfl, h2, _⟩ := h.at_ a ha
    omega
  · have := h.len; rw [List.length_append, List.length_singleton]; omega
abbrev ixL (xs : List Int) : List (List LV) := xs.map fun x => [I x]
abbrev s20 (l : List Cp) (xs : List Int) (k : Nat) : Slots := [(8, .ptr 1 0 0), (9, .sl 2 0 (ixL xs).length), (31, copsL l), (32, I (l.map Cp.cells).length), (33, I k)]
abbrev l20 (g : Hs) (xs : List Int) : List (Nat × Blk) := [(1, .row 52 2 [[I g.mac, I g.seg]]), (2, .row 3 1 (ixL xs))]
theorem c20 (p : Ln) (l : List Cp) (hl : l.length ≤ 1000) (host : Int) : CallS Try.prog 20 [lnL p, copsL l, I host] fun r => (∃ e : Int, e ≠ 0 ∧ r = .tup [.nils, I e]) ∨
    (∃ (g : Hs) (xs : List Int), (0 ≤ host ∧ host < p.hosts.length) ∧ p.hosts[host.toNat]? = some g ∧ HInv l g.seg l.length xs ∧ r = .tup [intsL xs, I 0]) := by
  have hL : (l.map Cp.cells).length = l.length := List.length_map ..
  have hLH : (p.hosts.map Hs.cells).length = p.hosts.length := List.length_map ..
  have h36 := c36 p
  by_cases hH : 0 ≤ host ∧ host < p.hosts.length
  · have hR : (bif decide (host < 0) then true else decide (((p.hosts.map Hs.cells).length : Int) ≤ host)) = false := by
      rw [hLH, show decide (host < 0) = false by rw [decide_eq_false_iff_not]; omega, cond_false, decide_eq_false_iff_not]; omega
    have hil : host.toNat < p.hosts.length := by omega
    have hgg := List.getElem?_eq_getElem hil
    have hb0 : (p.hosts.map Hs.cells)[host.toNat]? = some p.hosts[host.toNat].cells := by simp [hil]
    have h00 : (host - 0).NonNeg := nn hH.1
    generalize p.hosts[host.toNat] = g at hgg hb0
    refine .intro (by first | (simp [NLs, NL]; done) | (simp [NLs, NL, nlx]; done)) (CallW.intro TT_ok Try.func20 rfl rfl [0, 1, 2, 3, 6, 7, 8, 9, 10, 11, 12, 16, 31, 32, 33, 34, 48] rfl ?_)
    conv => whnf
    repeat' first
      | with_reducible rfl
      | with_reducible exact True.intro
      | with_reducible assumption
      | (refine CallS.use h36 ?_; rintro _ ⟨b, rfl⟩; conv => whnf)
      | exact (Bool.false_ne_true (hR.symm.trans h)).elim
      | exact ⟨.tup [.nils, I 1], ⟨trivial, ⟨rfl, rfl⟩, trivial⟩, .inl ⟨1, by decide, rfl⟩⟩
      | (refine ⟨g.cells, ⟨h00, hb0⟩, ?_⟩; conv => whnf)
      | assumption
      | exact absurd (show false = true from h) Bool.false_ne_true
      | exact absurd (show true = false from h) (fun e => Bool.noConfusion e)
      | exact (congrArg Bool.not h)
      | (refine ⟨_, ⟨by first | assumption | decide | omega, by first | assumption | rfl⟩, ?_⟩; conv => whnf)
      | (refine ⟨_, fun _ => ⟨by first | assumption | decide | omega, by first | assumption | rfl⟩, ?_⟩; conv => whnf)
      | exact (rfl : (_ : Nat) = _)
      | exact (rfl : (_ : LV) = _)
      | (refine ⟨fun h => ?_, fun h => ?_⟩ <;> conv => whnf)
      | (refine ⟨?_, ?_⟩ <;> conv => whnf)
      | (intro h; conv => whnf)
      | (refine gand ?_ h; assumption)
    refine LoopW.virt 9 3 1 rfl ?_
    refine LoopW.norm (s20 l [] 0) 3 (l20 g []) ⟨rfl, rfl, rfl, rfl, rfl, trivial⟩ ⟨⟨rfl, rfl, ⟨trivial, trivial, trivial⟩, trivial⟩, ⟨rfl, rfl, trivial⟩, trivial⟩ ⟨rfl, rfl, trivial, trivial, trivial, trivial⟩ rfl ?_
    refine LoopW.ind (α := Nat) (fun k => l.length - k) (fun k s' H => ∃ xs, (k ≤ l.length ∧ HInv l g.seg k xs) ∧ s' = s20 l xs k ∧ H = ⟨3, l20 g xs⟩) ?_ (a := 0) ⟨[], ⟨Nat.zero_le _, ⟨fun x hx => (by cases hx), List.Pairwise.nil, Nat.le_refl _⟩⟩, rfl, rfl⟩
    rintro k s' H ⟨xs, ⟨hk, hI⟩, rfl, rfl⟩ ih
    by_cases hi : k < l.length
    · have hd : decide ((k : Int) < ((l.map Cp.cells).length : Int)) = true := by rw [decide_eq_true_eq]; omega
      have hx := List.getElem?_eq_getElem hi
      have hb : (l.map Cp.cells)[k]? = some l[k].cells := by simp [hi]
      generalize l[k] = c at hx hb
      obtain ⟨b, h37⟩ := c37 g c.raw
      have hxl := hI.len
      have e1 : ixL xs ++ [[I k]] = ixL (xs ++ [(k : Int)]) := by simp
      have f1 : fits (ixL xs ++ [[I k]]).length 8 := by simp [fits]; omega
      refine LoopW.round TT_ok [0, 1, 2, 3, 6, 7, 8, 9, 10, 11, 12, 16, 31, 32, 33, 34, 48] ?_
      conv => whnf
      repeat' first
        | with_reducible rfl
        | with_reducible exact True.intro
        | with_reducible assumption
        | exact (Bool.false_ne_true (h.symm.trans hd)).elim
        | exact f1
        | (refine CallP.use (h37) ?_; conv => whnf)
        | (refine ⟨_, _, CallP.at (h37), ?_⟩; conv => whnf)
        | (refine ⟨_, fun _ => h37, ?_⟩; conv => whnf)
        | assumption
        | exact absurd (show false = true from h) Bool.false_ne_true
        | exact absurd (show true = false from h) (fun e => Bool.noConfusion e)
        | exact (congrArg Bool.not h)
        | (refine ⟨_, ⟨by first | assumption | decide | omega, by first | assumption | rfl⟩, ?_⟩; conv => whnf)
        | (refine ⟨_, fun _ => ⟨by first | assumption | decide | omega, by first | assumption | rfl⟩, ?_⟩; conv => whnf)
        | exact (rfl : (_ : Nat) = _)
        | exact (rfl : (_ : LV) = _)
        | (refine ⟨fun h => ?_, fun h => ?_⟩ <;> conv => whnf)
        | (refine ⟨?_, ?_⟩ <;> conv => whnf)
        | (intro h; conv => whnf)
        | (refine gand ?_ h; assumption)
      · have hs : c.seg = g.seg := by
          cases hq : decide (c.seg = g.seg) with
          | true => exact of_decide_eq_true hq
          | false => rw [hq] at h; cases h
        refine LoopW.ren [(1, 1), (5, 2)] (s20 l (xs ++ [(k : Int)]) (k + 1)) 3 (l20 g (xs ++ [(k : Int)])) rfl
          ⟨rfl, congrArg (fun l : List (List LV) => LV.sl 2 0 l.length) e1, rfl, rfl, congrArg (LV.int .i64) (w64_nat (by omega)), trivial⟩
          ⟨⟨rfl, rfl, .inl ⟨rfl, ⟨trivial, trivial, trivial⟩, trivial⟩⟩, rfl, rfl, ⟨rfl, rfl, .inl ⟨e1, e1 ▸ ints_nl _⟩⟩, rfl, rfl, trivial⟩ rfl
          (ih (k + 1) _ _ ⟨_, ⟨hi, hI.add hx hs⟩, rfl, rfl⟩ (by omega))
      · refine LoopW.ren [(1, 1), (2, 2)] (s20 l xs (k + 1)) 3 (l20 g xs) rfl
          ⟨rfl, rfl, rfl, rfl, congrArg (LV.int .i64) (w64_nat (by omega)), trivial⟩
          ⟨⟨rfl, rfl, .inl ⟨rfl, ⟨trivial, trivial, trivial⟩, trivial⟩⟩, rfl, rfl, ⟨rfl, rfl, .inl ⟨rfl, ints_nl _⟩⟩, rfl, rfl, trivial⟩ rfl
          (ih (k + 1) _ _ ⟨_, ⟨hi, hI.skip⟩, rfl, rfl⟩ (by omega))
    · have hd : decide ((k : Int) < ((l.map Cp.cells).length : Int)) = false := by rw [decide_eq_false_iff_not]; omega
      obtain rfl : k = l.length := by omega
      clear ih
      refine LoopW.round TT_ok [0, 1, 2, 3, 6, 7, 8, 9, 10, 11, 12, 16, 31, 32, 33, 34, 48] ?_
      conv => whnf
      repeat' first
        | with_reducible rfl
        | with_reducible exact True.intro
        | with_reducible assumption
        | exact (Bool.false_ne_true (hd.symm.trans h)).elim
        | exact ⟨.tup [intsL xs, I 0], ⟨⟨rfl, rfl, rfl, ints_nl _⟩, ⟨rfl, rfl⟩, trivial⟩, .inr ⟨g, xs, hH, hgg, hI, rfl⟩⟩
        | assumption
        | exact absurd (show false = true from h) Bool.false_ne_true
        | exact absurd (show true = false from h) (fun e => Bool.noConfusion e)
        | exact (congrArg Bool.not h)
        | (refine ⟨_, ⟨by first | assumption | decide | omega, by first | assumption | rfl⟩, ?_⟩; conv => whnf)
        | (refine ⟨_, fun _ => ⟨by first | assumption | decide | omega, by first | assumption | rfl⟩, ?_⟩; conv => whnf)
        | exact (rfl : (_ : Nat) = _)
        | exact (rfl : (_ : LV) = _)
        | (refine ⟨fun h => ?_, fun h => ?_⟩ <;> conv => whnf)
        | (refine ⟨?_, ?_⟩ <;> conv => whnf)
        | (intro h; conv => whnf)
        | (refine gand ?_ h; assumption)
      all_goals skip
  · have hR : (bif decide (host < 0) then true else decide (((p.hosts.map Hs.cells).length : Int) ≤ host)) = true := by
      cases h1 : decide (host < 0) with
      | true => rfl
      | false => rw [decide_eq_false_iff_not] at h1; rw [hLH, cond_false, decide_eq_true_eq]; omega
    refine .intro (by first | (simp [NLs, NL]; done) | (simp [NLs, NL, nlx]; done)) (CallW.intro TT_ok Try.func20 rfl rfl [0, 1, 2, 3, 6, 7, 8, 9, 10, 11, 12, 16, 31, 32, 33, 34, 48] rfl ?_)
    conv => whnf
    repeat' first
      | with_reducible rfl
      | with_reducible exact True.intro
      | with_reducible assumption
      | (refine CallS.use h36 ?_; rintro _ ⟨b, rfl⟩; conv => whnf)
      | exact (Bool.false_ne_true (h.symm.trans hR)).elim
      | exact ⟨.tup [.nils, I 1], ⟨trivial, ⟨rfl, rfl⟩, trivial⟩, .inl ⟨1, by decide, rfl⟩⟩
      | exact ⟨.tup [.nils, I 3], ⟨trivial, ⟨rfl, rfl⟩, trivial⟩, .inl ⟨3, by decide, rfl⟩⟩
      | assumption
      | exact absurd (show false = true from h) Bool.false_ne_true
      | exact absurd (show true = false from h) (fun e => Bool.noConfusion e)
      | exact (congrArg Bool.not h)
      | (refine ⟨_, ⟨by first | assumption | decide | omega, by first | assumption | rfl⟩, ?_⟩; conv => whnf)
      | (refine ⟨_, fun _ => ⟨by first | assumption | decide | omega, by first | assumption | rfl⟩, ?_⟩; conv => whnf)
      | exact (rfl : (_ : Nat) = _)
      | exact (rfl : (_ : LV) = _)
      | (refine ⟨fun h => ?_, fun h => ?_⟩ <;> conv => whnf)
      | (refine ⟨?_, ?_⟩ <;> conv => whnf)
      | (intro h; conv => whnf)
      | (refine gand ?_ h; assumption)
    all_goals skip
def cutP (x : Pn) : Pn := ⟨x.id, x.ports.take 10⟩
def cutLn (p : Ln) : Ln := ⟨p.segs, (p.plans.take 8).map cutP, p.hosts.take 12⟩
abbrev rct (l : List Pn) (k : Nat) : List (List LV) := ((l.take k).map cutP).map Pn.cells
abbrev s19 (l : List Pn) (k : Nat) : Slots := [(1, .ptr 0 0 0), (2, .ptr 1 0 0), (3, .sl 2 0 (rct l k).length), (12, pnsL l), (13, I (l.map Pn.cells).length), (14, I k)]
abbrev l19 (p : Ln) (l : List Pn) (k : Nat) : List (Nat × Blk) := [(0, bxL p), (1, .row 48 3 [[I 0, .nils, .nils]]), (2, .row 76 2 (rct l k))]
theorem pns_nl (l : List Pn) : NLss (l.map Pn.cells) := by
  induction l with
  | nil => trivial
  | cons t l ih => exact ⟨⟨trivial, trivial, trivial⟩, ih⟩
theorem c19 (p : Ln) : CallP Try.prog 19 [lnL p] (lnL (cutLn p)) := by
  have hl : (p.plans.take 8).length ≤ 8 := by rw [List.length_take]; omega
  have h8 : List.take (mn ((p.plans.map Pn.cells).length : Int) 8).toNat (p.plans.map Pn.cells) = (p.plans.take 8).map Pn.cells := take_mn p.plans Pn.cells 8
  have h12 : List.take (mn ((p.hosts.map Hs.cells).length : Int) 12).toNat (p.hosts.map Hs.cells) = (p.hosts.take 12).map Hs.cells := take_mn p.hosts Hs.cells 12
  have hc : cutLn p = ⟨p.segs, (p.plans.take 8).map cutP, p.hosts.take 12⟩ := rfl
  rw [hc]
  refine .intro (by first | (simp [NLs, NL]; done) | (simp [NLs, NL, nlx]; done)) (.intro TT_ok Try.func19 rfl rfl [0, 1, 2, 3, 5, 12, 13, 14, 15] rfl ?_)
  conv => whnf
  repeat' first
    | with_reducible rfl
    | with_reducible exact True.intro
    | with_reducible assumption
    | exact mn_low _ 8
    | exact mn_top _ 8
    | assumption
    | (refine W.drawnM (id := 8) 0 TT_ok hmix1 [0, 0, 0, 0, 0, 0, 0, 0, 0, 0, 1, 1] [0, 0, 0, 0, 0, 1, 1, 1, 0, 1, 1, 2] rfl ?_; conv => whnf)
    | exact absurd (show false = true from h) Bool.false_ne_true
    | exact absurd (show true = false from h) (fun e => Bool.noConfusion e)
    | exact (congrArg Bool.not h)
    | (refine ⟨_, ⟨by first | assumption | decide | omega, by first | assumption | rfl⟩, ?_⟩; conv => whnf)
    | (refine ⟨_, fun _ => ⟨by first | assumption | decide | omega, by first | assumption | rfl⟩, ?_⟩; conv => whnf)
    | exact (rfl : (_ : Nat) = _)
    | exact (rfl : (_ : LV) = _)
    | (refine ⟨fun h => ?_, fun h => ?_⟩ <;> conv => whnf)
    | (refine ⟨?_, ?_⟩ <;> conv => whnf)
    | (intro h; conv => whnf)
    | (refine gand ?_ h; assumption)
  rw [h8]
  generalize p.plans.take 8 = l at hl
  have hL : (l.map Pn.cells).length = l.length := List.length_map ..
  refine LoopW.virt 3 76 2 rfl ?_
  refine LoopW.norm (s19 l 0) 3 (l19 p l 0) ⟨rfl, rfl, rfl, rfl, rfl, rfl, trivial⟩ ⟨⟨rfl, rfl, ⟨trivial, trivial, trivial, trivial⟩, trivial⟩, ⟨rfl, rfl, ⟨trivial, trivial, trivial, trivial⟩, trivial⟩, ⟨rfl, rfl, trivial⟩, trivial⟩ ⟨rfl, rfl, rfl, trivial, trivial, trivial, trivial⟩ rfl ?_
  refine LoopW.ind (α := Nat) (fun k => l.length - k) (fun k s' H => k ≤ l.length ∧ s' = s19 l k ∧ H = ⟨3, l19 p l k⟩) ?_ (a := 0) ⟨Nat.zero_le _, rfl, rfl⟩
  rintro k s' H ⟨hk, rfl, rfl⟩ ih
  by_cases hi : k < l.length
  · have hd : decide ((k : Int) < ((l.map Pn.cells).length : Int)) = true := by rw [decide_eq_true_eq]; omega
    have hx := List.getElem?_eq_getElem hi
    have hb : (l.map Pn.cells)[k]? = some l[k].cells := by simp [hi]
    generalize l[k] = c at hx hb
    have h10 : List.take (mn ((c.ports.map Lk.cells).length : Int) 10).toNat (c.ports.map Lk.cells) = (c.ports.take 10).map Lk.cells := take_mn c.ports Lk.cells 10
    have hq : (rct l k).length = k := by simp; omega
    have e1 : rct l k ++ [[I c.id, .ro 3 (List.take (mn ((c.ports.map Lk.cells).length : Int) 10).toNat (c.ports.map Lk.cells))]] = rct l (k + 1) := by
      rw [h10]
      show _ = ((l.take (k + 1)).map cutP).map Pn.cells
      rw [show l.take (k + 1) = l.take k ++ [c] by rw [List.take_add_one, hx]; rfl, List.map_append, List.map_append]
      rfl
    have f1 : fits (rct l k ++ [[I c.id, .ro 3 (List.take (mn ((c.ports.map Lk.cells).length : Int) 10).toNat (c.ports.map Lk.cells))]]).length 32 := by simp [fits]; omega
    refine LoopW.round TT_ok [0, 1, 2, 3, 5, 12, 13, 14, 15] ?_
    conv => whnf
    repeat' first
      | with_reducible rfl
      | with_reducible exact True.intro
      | with_reducible assumption
      | exact (Bool.false_ne_true (h.symm.trans hd)).elim
      | exact mn_low _ 10
      | exact mn_top _ 10
      | exact f1
      | assumption
      | (refine W.drawnM (id := 8) 0 TT_ok hmix1 [0, 0, 0, 0, 0, 0, 0, 0, 0, 0, 1, 1] [0, 0, 0, 0, 0, 1, 1, 1, 0, 1, 1, 2] rfl ?_; conv => whnf)
      | exact absurd (show false = true from h) Bool.false_ne_true
      | exact absurd (show true = false from h) (fun e => Bool.noConfusion e)
      | exact (congrArg Bool.not h)
      | (refine ⟨_, ⟨by first | assumption | decide | omega, by first | assumption | rfl⟩, ?_⟩; conv => whnf)
      | (refine ⟨_, fun _ => ⟨by first | assumption | decide | omega, by first | assumption | rfl⟩, ?_⟩; conv => whnf)
      | exact (rfl : (_ : Nat) = _)
      | exact (rfl : (_ : LV) = _)
      | (refine ⟨fun h => ?_, fun h => ?_⟩ <;> conv => whnf)
      | (refine ⟨?_, ?_⟩ <;> conv => whnf)
      | (intro h; conv => whnf)
      | (refine gand ?_ h; assumption)
    refine LoopW.ren [(0, 0), (1, 1), (5, 2)] (s19 l (k + 1)) 3 (l19 p l (k + 1)) rfl
          ⟨rfl, rfl, congrArg (fun l : List (List LV) => LV.sl 2 0 l.length) e1, rfl, rfl, congrArg (LV.int .i64) (w64_nat (by omega)), trivial⟩
          ⟨⟨rfl, rfl, .inl ⟨rfl, ⟨trivial, trivial, trivial, trivial⟩, trivial⟩⟩, rfl, rfl, ⟨rfl, rfl, .inl ⟨rfl, ⟨trivial, trivial, trivial, trivial⟩, trivial⟩⟩, rfl, rfl, ⟨rfl, rfl, .inl ⟨e1, e1 ▸ pns_nl _⟩⟩, rfl, rfl, trivial⟩ rfl
          (ih (k + 1) _ _ ⟨hi, rfl, rfl⟩ (by omega))
  · have hd : decide ((k : Int) < ((l.map Pn.cells).length : Int)) = false := by rw [decide_eq_false_iff_not]; omega
    obtain rfl : k = l.length := by omega
    clear ih
    have hfin : rct l l.length = (l.map cutP).map Pn.cells := by simp
    refine LoopW.round TT_ok [0, 1, 2, 3, 5, 12, 13, 14, 15] ?_
    conv => whnf
    repeat' first
      | with_reducible rfl
      | with_reducible exact True.intro
      | with_reducible assumption
      | exact (Bool.false_ne_true (hd.symm.trans h)).elim
      | exact mn_low _ 12
      | exact mn_top _ 12
      | exact pns_nl _
      | exact hfin
      | exact h12
      | assumption
      | (refine W.drawnM (id := 8) 0 TT_ok hmix1 [0, 0, 0, 0, 0, 0, 0, 0, 0, 0, 1, 1] [0, 0, 0, 0, 0, 1, 1, 1, 0, 1, 1, 2] rfl ?_; conv => whnf)
      | exact absurd (show false = true from h) Bool.false_ne_true
      | exact absurd (show true = false from h) (fun e => Bool.noConfusion e)
      | exact (congrArg Bool.not h)
      | (refine ⟨_, ⟨by first | assumption | decide | omega, by first | assumption | rfl⟩, ?_⟩; conv => whnf)
      | (refine ⟨_, fun _ => ⟨by first | assumption | decide | omega, by first | assumption | rfl⟩, ?_⟩; conv => whnf)
      | exact (rfl : (_ : Nat) = _)
      | exact (rfl : (_ : LV) = _)
      | (refine ⟨fun h => ?_, fun h => ?_⟩ <;> conv => whnf)
      | (refine ⟨?_, ?_⟩ <;> conv => whnf)
      | (intro h; conv => whnf)
      | (refine gand ?_ h; assumption)
    all_goals skip
end Go.RX

