/- The contract of footwaylaw04.VecBest. -/
import Derived.Test.YtogomcndhipoeaaTyl
set_option linter.unusedVariables false
set_option linter.unusedSimpArgs false
open Go Go.RX Go.Proofs
namespace Go.RX
set_option maxRecDepth 10000
set_option maxHeartbeats 2000000
theorem gz (b : Bool) (h : (bif b then decide ((0 : Int) < ((0 : Nat) : Int)) else false) = true) : False := by cases b <;> simp at h
attribute [local irreducible] CallW CallP CallS LoopW W IntKind.wrap rankL vRight BInv eqV cv
abbrev s3a (l s : List Vc) (at_ k : Nat) : Slots := [(0, vcsL l), (3, I at_), (5, vcsL s), (90, vcsL l), (91, I (l.map Vc.cells).length), (92, I k)]
abbrev s3b (l s : List Vc) (at_ k : Nat) (c : Int) (q : Nat) : Slots := [(0, vcsL l), (3, I at_), (5, vcsL s), (7, I k), (8, .ptr 0 0 0), (9, .bool false), (10, I 0), (11, I c), (90, vcsL l), (91, I (l.map Vc.cells).length), (92, I k), (107, I (l.map Vc.cells).length), (108, I q)]
theorem c3 (l0 : List Vc) : CallP Try.prog 3 [vcsL l0] (.bool true) := by
  have h5 := c5 l0
  have hl : (l0.take 60).length ≤ 60 := by rw [List.length_take]; omega
  generalize l0.take 60 = l at h5 hl
  have h8 := c8
  cases hr : allR l with
  | false =>
    have h6 := c6e l (by omega) hr
    have h7 := c7e l (by omega) hr
    have hz : decide (((l.map Vc.cells).length : Int) = 0) = false := by
      cases l with
      | nil => cases hr
      | cons v l => rw [decide_eq_false_iff_not]; simp only [List.length_map, List.length_cons]; omega
    refine .intro (by first | (simp [NLs, NL]; done) | (simp [NLs, NL, nlx]; done)) (.intro TT_ok Try.func3 rfl rfl [0, 2, 3, 4, 5, 6, 7, 8, 9, 10, 11, 12, 13, 14, 29, 45, 89, 90, 91, 92, 93, 107, 108, 109, 116, 124, 149, 151, 169] rfl ?_)
    conv => whnf
    repeat' first
      | with_reducible rfl
      | with_reducible exact True.intro
      | with_reducible assumption
      | exact (Bool.false_ne_true (hz.symm.trans h)).elim
      | (refine CallP.use (h5) ?_; conv => whnf)
      | (refine ⟨_, _, CallP.at (h5), ?_⟩; conv => whnf)
      | (refine ⟨_, fun _ => h5, ?_⟩; conv => whnf)
      | (refine CallP.use (h6) ?_; conv => whnf)
      | (refine ⟨_, _, CallP.at (h6), ?_⟩; conv => whnf)
      | (refine ⟨_, fun _ => h6, ?_⟩; conv => whnf)
      | (refine CallP.use (h7) ?_; conv => whnf)
      | (refine ⟨_, _, CallP.at (h7), ?_⟩; conv => whnf)
      | (refine ⟨_, fun _ => h7, ?_⟩; conv => whnf)
      | (refine CallP.use (h8) ?_; conv => whnf)
      | (refine ⟨_, _, CallP.at (h8), ?_⟩; conv => whnf)
      | (refine ⟨_, fun _ => h8, ?_⟩; conv => whnf)
      | assumption
      | (refine W.drawn TT_ok hmix1 rfl ?_; conv => whnf)
      | exact absurd (show false = true from h) Bool.false_ne_true
      | exact absurd (show true = false from h) (fun e => Bool.noConfusion e)
      | exact (congrArg Bool.not h)
      | (refine ⟨_, ⟨by first | assumption | decide | omega, by first | assumption | rfl⟩, ?_⟩; conv => whnf)
      | (refine ⟨_, fun _ => ⟨by first | assumption | decide | omega, by first | assumption | rfl⟩, ?_⟩; conv => whnf)
      | exact (rfl : (_ : Nat) = _)
      | exact (rfl : (_ : LV) = _)
      | (refine ⟨fun h => ?_, fun h => ?_⟩ <;> conv => whnf)
      | (refine ⟨?_, ?_⟩ <;> conv => whnf)
      | (intro h; conv => whnf)
      | (refine gand ?_ h; assumption)
      | exact (rfl : (_ : Bool) = _)
    all_goals skip
  | true =>
    cases l with
    | nil =>
      have h7 := c7 [] (by decide) rfl
      have h6 := c6n
      refine .intro (by first | (simp [NLs, NL]; done) | (simp [NLs, NL, nlx]; done)) (.intro TT_ok Try.func3 rfl rfl [0, 2, 3, 4, 5, 6, 7, 8, 9, 10, 11, 12, 13, 14, 29, 45, 89, 90, 91, 92, 93, 107, 108, 109, 116, 124, 149, 151, 169] rfl ?_)
      conv => whnf
      repeat' first
        | with_reducible rfl
        | with_reducible exact True.intro
        | with_reducible assumption
        | (refine CallP.use (h5) ?_; conv => whnf)
        | (refine ⟨_, _, CallP.at (h5), ?_⟩; conv => whnf)
        | (refine ⟨_, fun _ => h5, ?_⟩; conv => whnf)
        | (refine CallP.use (h6) ?_; conv => whnf)
        | (refine ⟨_, _, CallP.at (h6), ?_⟩; conv => whnf)
        | (refine ⟨_, fun _ => h6, ?_⟩; conv => whnf)
        | assumption
        | (refine W.drawn TT_ok hmix1 rfl ?_; conv => whnf)
        | exact absurd (show false = true from h) Bool.false_ne_true
        | exact absurd (show true = false from h) (fun e => Bool.noConfusion e)
        | exact (congrArg Bool.not h)
        | (refine ⟨_, ⟨by first | assumption | decide | omega, by first | assumption | rfl⟩, ?_⟩; conv => whnf)
        | (refine ⟨_, fun _ => ⟨by first | assumption | decide | omega, by first | assumption | rfl⟩, ?_⟩; conv => whnf)
        | exact (rfl : (_ : Nat) = _)
        | exact (rfl : (_ : LV) = _)
        | (refine ⟨fun h => ?_, fun h => ?_⟩ <;> conv => whnf)
        | (refine ⟨?_, ?_⟩ <;> conv => whnf)
        | (intro h; conv => whnf)
        | (refine gand ?_ h; assumption)
      refine CallS.use h7 ?_
      rintro _ ⟨s, hp, hs, rfl⟩
      have := hp.eq_nil
      subst this
      conv => whnf
      repeat' first
        | with_reducible rfl
        | with_reducible exact True.intro
        | with_reducible assumption
        | (refine CallP.use (h8) ?_; conv => whnf)
        | (refine ⟨_, _, CallP.at (h8), ?_⟩; conv => whnf)
        | (refine ⟨_, fun _ => h8, ?_⟩; conv => whnf)
        | assumption
        | (refine W.drawn TT_ok hmix1 rfl ?_; conv => whnf)
        | exact absurd (show false = true from h) Bool.false_ne_true
        | exact absurd (show true = false from h) (fun e => Bool.noConfusion e)
        | exact (congrArg Bool.not h)
        | (refine ⟨_, ⟨by first | assumption | decide | omega, by first | assumption | rfl⟩, ?_⟩; conv => whnf)
        | (refine ⟨_, fun _ => ⟨by first | assumption | decide | omega, by first | assumption | rfl⟩, ?_⟩; conv => whnf)
        | exact (rfl : (_ : Nat) = _)
        | exact (rfl : (_ : LV) = _)
        | (refine ⟨fun h => ?_, fun h => ?_⟩ <;> conv => whnf)
        | (refine ⟨?_, ?_⟩ <;> conv => whnf)
        | (intro h; conv => whnf)
        | (refine gand ?_ h; assumption)
        | exact (rfl : (_ : Bool) = _)
      all_goals skip
    | cons v0 l1 =>
      generalize hl1 : v0 :: l1 = l at *
      have hne : 1 ≤ l.length := by rw [← hl1, List.length_cons]; omega
      have hL : (l.map Vc.cells).length = l.length := List.length_map ..
      have h6 := c6 l (by omega) hr hne
      have h7 := c7 l (by omega) hr
      have hR := (allR_iff l).1 hr
      have hz : decide (((l.map Vc.cells).length : Int) = 0) = false := by rw [decide_eq_false_iff_not]; omega
      refine .intro (by first | (simp [NLs, NL]; done) | (simp [NLs, NL, nlx]; done)) (.intro TT_ok Try.func3 rfl rfl [0, 2, 3, 4, 5, 6, 7, 8, 9, 10, 11, 12, 13, 14, 29, 45, 89, 90, 91, 92, 93, 107, 108, 109, 116, 124, 149, 151, 169] rfl ?_)
      conv => whnf
      repeat' first
        | with_reducible rfl
        | with_reducible exact True.intro
        | with_reducible assumption
        | (refine CallP.use (h5) ?_; conv => whnf)
        | (refine ⟨_, _, CallP.at (h5), ?_⟩; conv => whnf)
        | (refine ⟨_, fun _ => h5, ?_⟩; conv => whnf)
        | assumption
        | (refine W.drawn TT_ok hmix1 rfl ?_; conv => whnf)
        | exact absurd (show false = true from h) Bool.false_ne_true
        | exact absurd (show true = false from h) (fun e => Bool.noConfusion e)
        | exact (congrArg Bool.not h)
        | (refine ⟨_, ⟨by first | assumption | decide | omega, by first | assumption | rfl⟩, ?_⟩; conv => whnf)
        | (refine ⟨_, fun _ => ⟨by first | assumption | decide | omega, by first | assumption | rfl⟩, ?_⟩; conv => whnf)
        | exact (rfl : (_ : Nat) = _)
        | exact (rfl : (_ : LV) = _)
        | (refine ⟨fun h => ?_, fun h => ?_⟩ <;> conv => whnf)
        | (refine ⟨?_, ?_⟩ <;> conv => whnf)
        | (intro h; conv => whnf)
        | (refine gand ?_ h; assumption)
      refine CallS.use h6 ?_
      rintro _ ⟨at_, hI, rfl⟩
      conv => whnf
      repeat' first
        | with_reducible rfl
        | with_reducible exact True.intro
        | with_reducible assumption
        | assumption
        | (refine W.drawn TT_ok hmix1 rfl ?_; conv => whnf)
        | exact absurd (show false = true from h) Bool.false_ne_true
        | exact absurd (show true = false from h) (fun e => Bool.noConfusion e)
        | exact (congrArg Bool.not h)
        | (refine ⟨_, ⟨by first | assumption | decide | omega, by first | assumption | rfl⟩, ?_⟩; conv => whnf)
        | (refine ⟨_, fun _ => ⟨by first | assumption | decide | omega, by first | assumption | rfl⟩, ?_⟩; conv => whnf)
        | exact (rfl : (_ : Nat) = _)
        | exact (rfl : (_ : LV) = _)
        | (refine ⟨fun h => ?_, fun h => ?_⟩ <;> conv => whnf)
        | (refine ⟨?_, ?_⟩ <;> conv => whnf)
        | (intro h; conv => whnf)
        | (refine gand ?_ h; assumption)
      refine CallS.use h7 ?_
      rintro _ ⟨s, hp, hs, rfl⟩
      conv => whnf
      unfold BInv at hI
      obtain ⟨u, hu, -, hle, hlt⟩ := hI
      have hat : at_ < l.length := (List.getElem?_eq_some_iff.1 hu).1
      have hsl : s.length = l.length := hp.length_eq
      have hS : (s.map Vc.cells).length = s.length := List.length_map ..
      have hRu := hR u (List.mem_of_getElem? hu)
      have hbu : (l.map Vc.cells)[at_]? = some u.cells := by simp [hu]
      have hbu2 : (l.map Vc.cells)[((at_ : Nat) : Int).toNat]? = some u.cells := by rw [Int.toNat_natCast]; exact hbu
      have h0at : (((at_ : Nat) : Int) - 0).NonNeg := Int.natCast_nonneg _
      have hs0 : s[0]? = some u := by
        cases s with
        | nil => simp at hsl; omega
        | cons s0 r =>
          have h1 : s0 ∈ l := (hp.mem_iff).1 List.mem_cons_self
          obtain ⟨j, hj⟩ := List.getElem?_of_mem h1
          have h2 := hle j s0 (List.getElem?_eq_some_iff.1 hj).1 hj
          have h3 : u ∈ s0 :: r := (hp.mem_iff).2 (List.mem_of_getElem? hu)
          have h4 := srt_head leV_refl hs h3 rfl
          rw [leV_anti u s0 h2 h4]
          rfl
      have hb0 : (s.map Vc.cells)[(0 : Int).toNat]? = some u.cells := by
        show (s.map Vc.cells)[0]? = _
        rw [List.getElem?_map, hs0]; rfl
      have hA : (bif bif bif bif bif !decide ((0 : Int) = 0) then true else decide (((at_ : Nat) : Int) < 0) then true else decide (((l.map Vc.cells).length : Int) ≤ ((at_ : Nat) : Int)) then true else !decide (((s.map Vc.cells).length : Int) = ((l.map Vc.cells).length : Int)) then true else !(eqV u u) then true else !true) = false := by
        rw [hL, hS, hsl, show decide (((at_ : Nat) : Int) < 0) = false by rw [decide_eq_false_iff_not]; omega, show decide ((l.length : Int) ≤ ((at_ : Nat) : Int)) = false by rw [decide_eq_false_iff_not]; omega, (eqV_iff u u).2 rfl]
        simp
      unfold eqV at hA
      repeat' first
        | with_reducible rfl
        | with_reducible exact True.intro
        | with_reducible assumption
        | exact (Bool.false_ne_true (hz.symm.trans h)).elim
        | (refine ⟨u.cells, fun _ => ⟨h0at, hbu2⟩, ?_⟩; conv => whnf)
        | (refine ⟨u.cells, fun _ => ⟨nn (by decide), hb0⟩, ?_⟩; conv => whnf)
        | exact (Bool.false_ne_true (hA.symm.trans h)).elim
        | (refine CallP.use (h8) ?_; conv => whnf)
        | (refine ⟨_, _, CallP.at (h8), ?_⟩; conv => whnf)
        | (refine ⟨_, fun _ => h8, ?_⟩; conv => whnf)
        | assumption
        | (refine W.drawn TT_ok hmix1 rfl ?_; conv => whnf)
        | exact absurd (show false = true from h) Bool.false_ne_true
        | exact absurd (show true = false from h) (fun e => Bool.noConfusion e)
        | exact (congrArg Bool.not h)
        | (refine ⟨_, ⟨by first | assumption | decide | omega, by first | assumption | rfl⟩, ?_⟩; conv => whnf)
        | (refine ⟨_, fun _ => ⟨by first | assumption | decide | omega, by first | assumption | rfl⟩, ?_⟩; conv => whnf)
        | exact (rfl : (_ : Nat) = _)
        | exact (rfl : (_ : LV) = _)
        | (refine ⟨fun h => ?_, fun h => ?_⟩ <;> conv => whnf)
        | (refine ⟨?_, ?_⟩ <;> conv => whnf)
        | (intro h; conv => whnf)
        | (refine gand ?_ h; assumption)
      refine LoopW.norm (s3a l s at_ 0) 0 [] ⟨rfl, rfl, rfl, rfl, rfl, rfl, trivial⟩ trivial ⟨trivial, trivial, trivial, trivial, trivial, trivial, trivial⟩ rfl ?_
      clear h6 h7 hA hb0 hs0 hz
      refine LoopW.ind (α := Nat) (fun k => l.length - k) (fun k s' H => k ≤ l.length ∧ s' = s3a l s at_ k ∧ H = ⟨0, []⟩) ?_ (a := 0) ⟨Nat.zero_le _, rfl, rfl⟩
      rintro k s' H ⟨hk, rfl, rfl⟩ ih
      by_cases hi : k < l.length
      · have hd : decide ((k : Int) < ((l.map Vc.cells).length : Int)) = true := by rw [decide_eq_true_eq]; omega
        have hx := List.getElem?_eq_getElem hi
        have hRv := hR _ (List.getElem_mem hi)
        have hb : (l.map Vc.cells)[k]? = some l[k].cells := by simp [hi]
        generalize l[k] = v at hx hRv hb
        have hlev := hle k v hi hx
        obtain ⟨b1, b2⟩ := better_no hRv hRu hlev
        have h9 := c9 v.r v.c v.b v.p u.r u.c u.b u.p
        rw [b1, b2] at h9
        refine LoopW.round TT_ok [0, 2, 3, 4, 5, 6, 7, 8, 9, 10, 11, 12, 13, 14, 29, 45, 89, 90, 91, 92, 93, 107, 108, 109, 116, 124, 149, 151, 169] ?_
        conv => whnf
        repeat' first
          | with_reducible rfl
          | with_reducible exact True.intro
          | with_reducible assumption
          | exact (Bool.false_ne_true (h.symm.trans hd)).elim
          | (refine CallP.use (h9) ?_; conv => whnf)
          | (refine ⟨_, _, CallP.at (h9), ?_⟩; conv => whnf)
          | (refine ⟨_, fun _ => h9, ?_⟩; conv => whnf)
          | assumption
          | (refine W.drawn TT_ok hmix1 rfl ?_; conv => whnf)
          | exact absurd (show false = true from h) Bool.false_ne_true
          | exact absurd (show true = false from h) (fun e => Bool.noConfusion e)
          | exact (congrArg Bool.not h)
          | (refine ⟨_, ⟨by first | assumption | decide | omega, by first | assumption | rfl⟩, ?_⟩; conv => whnf)
          | (refine ⟨_, fun _ => ⟨by first | assumption | decide | omega, by first | assumption | rfl⟩, ?_⟩; conv => whnf)
          | exact (rfl : (_ : Nat) = _)
          | exact (rfl : (_ : LV) = _)
          | (refine ⟨fun h => ?_, fun h => ?_⟩ <;> conv => whnf)
          | (refine ⟨?_, ?_⟩ <;> conv => whnf)
          | (intro h; conv => whnf)
          | (refine gand ?_ h; assumption)
        refine LoopW.norm (s3b l s at_ k 0 0) 1 [(0, .row 31 4 [v.cells])] ⟨rfl, rfl, rfl, rfl, rfl, rfl, rfl, rfl, rfl, rfl, rfl, rfl, rfl, trivial⟩ ⟨⟨rfl, rfl, ⟨trivial, trivial, trivial, trivial, trivial⟩, trivial⟩, trivial⟩ ⟨trivial, trivial, trivial, trivial, rfl, trivial, trivial, trivial, trivial, trivial, trivial, trivial, trivial, trivial⟩ rfl ?_
        refine LoopW.ind (α := Nat) (fun q => l.length - q) (fun q s' H => q ≤ l.length ∧ s' = s3b l s at_ k ((cv l v q : Int) - (cv s v q : Int)) q ∧ H = ⟨1, [(0, .row 31 4 [v.cells])]⟩) ?_ (a := 0) ⟨Nat.zero_le _, by simp [cv], rfl⟩
        clear h9 hb hd
        rintro q s' H ⟨hq, rfl, rfl⟩ ih2
        have hc1 := cv_le l v q
        have hc2 := cv_le s v q
        by_cases hqi : q < l.length
        · have hd : decide ((q : Int) < ((l.map Vc.cells).length : Int)) = true := by rw [decide_eq_true_eq]; omega
          have hqs : q < s.length := by omega
          have hxa := List.getElem?_eq_getElem hqi
          have hxb := List.getElem?_eq_getElem hqs
          have hba : (l.map Vc.cells)[q]? = some l[q].cells := by simp [hqi]
          have hbb : (s.map Vc.cells)[q]? = some s[q].cells := by simp [hqs]
          generalize l[q] = a at hxa hba
          generalize s[q] = b at hxb hbb
          have e1 := cv_succ v hxa
          have e2 := cv_succ v hxb
          have hnext : ∀ {c : Int} {s1 : Slots} {H1 : Heap}, c = (cv l v (q + 1) : Int) - (cv s v (q + 1) : Int) → subC s1 (s3b l s at_ k c (q + 1)) → look H1.live 0 = some (.row 31 4 [v.cells]) → LoopW Try.prog Try.f3.ntmps 0 _ _ s1 H1 := fun {c} {s1} {H1} hc h1 h2 => by
            subst hc
            exact LoopW.norm (s3b l s at_ k ((cv l v (q + 1) : Int) - (cv s v (q + 1) : Int)) (q + 1)) 1 [(0, .row 31 4 [v.cells])] h1 ⟨⟨h2, rfl, ⟨trivial, trivial, trivial, trivial, trivial⟩, trivial⟩, trivial⟩ ⟨trivial, trivial, trivial, trivial, rfl, trivial, trivial, trivial, trivial, trivial, trivial, trivial, trivial, trivial⟩ rfl (ih2 (q + 1) _ _ ⟨hqi, rfl, rfl⟩ (by omega))
          clear ih2 ih
          have wq := w64_nat q (by omega)
          cases ha : eqV a v with
          | true =>
            cases hb : eqV b v with
            | true =>
              rw [ha, if_pos rfl] at e1
              rw [hb, if_pos rfl] at e2
              unfold eqV at ha hb
              have w1 : IntKind.i64.wrap ((cv l v q : Int) - (cv s v q : Int) + 1) = (cv l v q : Int) - (cv s v q : Int) + 1 := w64_small (by omega) (by omega)
              have w2 : IntKind.i64.wrap (IntKind.i64.wrap ((cv l v q : Int) - (cv s v q : Int) + 1) - 1) = (cv l v (q + 1) : Int) - (cv s v (q + 1) : Int) := by rw [w1, e1, e2]; exact (w64_small (by omega) (by omega)).trans (by omega)
              refine LoopW.round TT_ok [0, 2, 3, 4, 5, 6, 7, 8, 9, 10, 11, 12, 13, 14, 29, 45, 89, 90, 91, 92, 93, 107, 108, 109, 116, 124, 149, 151, 169] ?_
              conv => whnf
              repeat' first
                | with_reducible rfl
                | with_reducible exact True.intro
                | with_reducible assumption
                | exact (Bool.false_ne_true (h.symm.trans hd)).elim
                | exact (Bool.false_ne_true (h.symm.trans ha)).elim
                | exact (Bool.false_ne_true (h.symm.trans hb)).elim
                | assumption
                | (refine W.drawn TT_ok hmix1 rfl ?_; conv => whnf)
                | exact absurd (show false = true from h) Bool.false_ne_true
                | exact absurd (show true = false from h) (fun e => Bool.noConfusion e)
                | exact (congrArg Bool.not h)
                | (refine ⟨_, ⟨by first | assumption | decide | omega, by first | assumption | rfl⟩, ?_⟩; conv => whnf)
                | (refine ⟨_, fun _ => ⟨by first | assumption | decide | omega, by first | assumption | rfl⟩, ?_⟩; conv => whnf)
                | exact (rfl : (_ : Nat) = _)
                | exact (rfl : (_ : LV) = _)
                | (refine ⟨fun h => ?_, fun h => ?_⟩ <;> conv => whnf)
                | (refine ⟨?_, ?_⟩ <;> conv => whnf)
                | (intro h; conv => whnf)
                | (refine gand ?_ h; assumption)
              exact hnext w2 ⟨rfl, rfl, rfl, rfl, rfl, rfl, rfl, rfl, rfl, rfl, rfl, rfl, congrArg (LV.int .i64) wq, trivial⟩ rfl
            | false =>
              rw [ha, if_pos rfl] at e1
              rw [hb, if_neg (by decide)] at e2
              unfold eqV at ha hb
              have w1 : IntKind.i64.wrap ((cv l v q : Int) - (cv s v q : Int) + 1) = (cv l v (q + 1) : Int) - (cv s v (q + 1) : Int) := by rw [e1, e2]; exact (w64_small (by omega) (by omega)).trans (by omega)
              refine LoopW.round TT_ok [0, 2, 3, 4, 5, 6, 7, 8, 9, 10, 11, 12, 13, 14, 29, 45, 89, 90, 91, 92, 93, 107, 108, 109, 116, 124, 149, 151, 169] ?_
              conv => whnf
              repeat' first
                | with_reducible rfl
                | with_reducible exact True.intro
                | with_reducible assumption
                | exact (Bool.false_ne_true (h.symm.trans hd)).elim
                | exact (Bool.false_ne_true (h.symm.trans ha)).elim
                | exact (Bool.false_ne_true (hb.symm.trans h)).elim
                | assumption
                | (refine W.drawn TT_ok hmix1 rfl ?_; conv => whnf)
                | exact absurd (show false = true from h) Bool.false_ne_true
                | exact absurd (show true = false from h) (fun e => Bool.noConfusion e)
                | exact (congrArg Bool.not h)
                | (refine ⟨_, ⟨by first | assumption | decide | omega, by first | assumption | rfl⟩, ?_⟩; conv => whnf)
                | (refine ⟨_, fun _ => ⟨by first | assumption | decide | omega, by first | assumption | rfl⟩, ?_⟩; conv => whnf)
                | exact (rfl : (_ : Nat) = _)
                | exact (rfl : (_ : LV) = _)
                | (refine ⟨fun h => ?_, fun h => ?_⟩ <;> conv => whnf)
                | (refine ⟨?_, ?_⟩ <;> conv => whnf)
                | (intro h; conv => whnf)
                | (refine gand ?_ h; assumption)
              exact hnext w1 ⟨rfl, rfl, rfl, rfl, rfl, rfl, rfl, rfl, rfl, rfl, rfl, rfl, congrArg (LV.int .i64) wq, trivial⟩ rfl
          | false =>
            cases hb : eqV b v with
            | true =>
              rw [ha, if_neg (by decide)] at e1
              rw [hb, if_pos rfl] at e2
              unfold eqV at ha hb
              have w1 : IntKind.i64.wrap ((cv l v q : Int) - (cv s v q : Int) - 1) = (cv l v (q + 1) : Int) - (cv s v (q + 1) : Int) := by rw [e1, e2]; exact (w64_small (by omega) (by omega)).trans (by omega)
              refine LoopW.round TT_ok [0, 2, 3, 4, 5, 6, 7, 8, 9, 10, 11, 12, 13, 14, 29, 45, 89, 90, 91, 92, 93, 107, 108, 109, 116, 124, 149, 151, 169] ?_
              conv => whnf
              repeat' first
                | with_reducible rfl
                | with_reducible exact True.intro
                | with_reducible assumption
                | exact (Bool.false_ne_true (h.symm.trans hd)).elim
                | exact (Bool.false_ne_true (ha.symm.trans h)).elim
                | exact (Bool.false_ne_true (h.symm.trans hb)).elim
                | assumption
                | (refine W.drawn TT_ok hmix1 rfl ?_; conv => whnf)
                | exact absurd (show false = true from h) Bool.false_ne_true
                | exact absurd (show true = false from h) (fun e => Bool.noConfusion e)
                | exact (congrArg Bool.not h)
                | (refine ⟨_, ⟨by first | assumption | decide | omega, by first | assumption | rfl⟩, ?_⟩; conv => whnf)
                | (refine ⟨_, fun _ => ⟨by first | assumption | decide | omega, by first | assumption | rfl⟩, ?_⟩; conv => whnf)
                | exact (rfl : (_ : Nat) = _)
                | exact (rfl : (_ : LV) = _)
                | (refine ⟨fun h => ?_, fun h => ?_⟩ <;> conv => whnf)
                | (refine ⟨?_, ?_⟩ <;> conv => whnf)
                | (intro h; conv => whnf)
                | (refine gand ?_ h; assumption)
              exact hnext w1 ⟨rfl, rfl, rfl, rfl, rfl, rfl, rfl, rfl, rfl, rfl, rfl, rfl, congrArg (LV.int .i64) wq, trivial⟩ rfl
            | false =>
              rw [ha, if_neg (by decide)] at e1
              rw [hb, if_neg (by decide)] at e2
              unfold eqV at ha hb
              refine LoopW.round TT_ok [0, 2, 3, 4, 5, 6, 7, 8, 9, 10, 11, 12, 13, 14, 29, 45, 89, 90, 91, 92, 93, 107, 108, 109, 116, 124, 149, 151, 169] ?_
              conv => whnf
              repeat' first
                | with_reducible rfl
                | with_reducible exact True.intro
                | with_reducible assumption
                | exact (Bool.false_ne_true (h.symm.trans hd)).elim
                | exact (Bool.false_ne_true (ha.symm.trans h)).elim
                | exact (Bool.false_ne_true (hb.symm.trans h)).elim
                | assumption
                | (refine W.drawn TT_ok hmix1 rfl ?_; conv => whnf)
                | exact absurd (show false = true from h) Bool.false_ne_true
                | exact absurd (show true = false from h) (fun e => Bool.noConfusion e)
                | exact (congrArg Bool.not h)
                | (refine ⟨_, ⟨by first | assumption | decide | omega, by first | assumption | rfl⟩, ?_⟩; conv => whnf)
                | (refine ⟨_, fun _ => ⟨by first | assumption | decide | omega, by first | assumption | rfl⟩, ?_⟩; conv => whnf)
                | exact (rfl : (_ : Nat) = _)
                | exact (rfl : (_ : LV) = _)
                | (refine ⟨fun h => ?_, fun h => ?_⟩ <;> conv => whnf)
                | (refine ⟨?_, ?_⟩ <;> conv => whnf)
                | (intro h; conv => whnf)
                | (refine gand ?_ h; assumption)
              exact hnext (by rw [e1, e2]; omega) ⟨rfl, rfl, rfl, rfl, rfl, rfl, rfl, rfl, rfl, rfl, rfl, rfl, congrArg (LV.int .i64) wq, trivial⟩ rfl
        · have hd : decide ((q : Int) < ((l.map Vc.cells).length : Int)) = false := by rw [decide_eq_false_iff_not]; omega
          obtain rfl : q = l.length := by omega
          clear ih2 hqi
          have hcz : (cv l v l.length : Int) - (cv s v l.length : Int) = 0 := by
            have e1 : cv l v l.length = l.countP fun x => eqV x v := by unfold cv; rw [List.take_length]
            have e2 : cv s v l.length = s.countP fun x => eqV x v := by unfold cv; rw [← hsl, List.take_length]
            rw [e1, e2, hp.countP_eq]; omega
          rw [hcz]
          have hbk : (bif eqV v u then decide (((k : Nat) : Int) < ((at_ : Nat) : Int)) else false) = false := by
            cases he : eqV v u with
            | false => rfl
            | true =>
              rw [cond_true, decide_eq_false_iff_not]
              intro hka
              have h1 := hlt k v (by omega) hx
              rw [(eqV_iff v u).1 he] at h1
              unfold ltV Lt4 at h1
              omega
          have hA : (bif bif bif !decide ((0 : Int) = 0) then true else false then true else (bif eqV v u then decide (((k : Nat) : Int) < ((at_ : Nat) : Int)) else false) then true else !decide ((0 : Int) = 0)) = false := by rw [hbk]; rfl
          unfold eqV at hA
          have wk := w64_nat k (by omega)
          have hnext : ∀ {s1 : Slots} {H1 : Heap}, subC s1 (s3a l s at_ (k + 1)) → LoopW Try.prog Try.f3.ntmps 0 _ _ s1 H1 := fun {s1} {H1} h1 =>
            LoopW.norm (s3a l s at_ (k + 1)) 0 [] h1 trivial ⟨trivial, trivial, trivial, trivial, trivial, trivial, trivial⟩ rfl (ih (k + 1) _ _ ⟨hi, rfl, rfl⟩ (by omega))
          clear ih
          cases k with
          | zero =>
            have dk : decide ((0 : Int) < ((0 : Nat) : Int)) = false := by decide
            refine LoopW.round TT_ok [0, 2, 3, 4, 5, 6, 7, 8, 9, 10, 11, 12, 13, 14, 29, 45, 89, 90, 91, 92, 93, 107, 108, 109, 116, 124, 149, 151, 169] ?_
            conv => whnf
            repeat' first
              | with_reducible rfl
              | with_reducible exact True.intro
              | with_reducible assumption
              | exact (Bool.false_ne_true (hd.symm.trans h)).elim
              | (refine ⟨u.cells, fun _ => ⟨h0at, hbu2⟩, ?_⟩; conv => whnf)
              | exact (Bool.false_ne_true (hA.symm.trans h)).elim
              | exact (Bool.false_ne_true (dk.symm.trans h)).elim
              | assumption
              | (refine W.drawn TT_ok hmix1 rfl ?_; conv => whnf)
              | exact absurd (show false = true from h) Bool.false_ne_true
              | exact absurd (show true = false from h) (fun e => Bool.noConfusion e)
              | exact (congrArg Bool.not h)
              | (refine ⟨_, ⟨by first | assumption | decide | omega, by first | assumption | rfl⟩, ?_⟩; conv => whnf)
              | (refine ⟨_, fun _ => ⟨by first | assumption | decide | omega, by first | assumption | rfl⟩, ?_⟩; conv => whnf)
              | exact (rfl : (_ : Nat) = _)
              | exact (rfl : (_ : LV) = _)
              | (refine ⟨fun h => ?_, fun h => ?_⟩ <;> conv => whnf)
              | (refine ⟨?_, ?_⟩ <;> conv => whnf)
              | (intro h; conv => whnf)
              | (refine gand ?_ h; assumption)
            exact hnext ⟨rfl, rfl, rfl, rfl, rfl, congrArg (LV.int .i64) wk, trivial⟩
          | succ j =>
            have dk : decide ((0 : Int) < ((j + 1 : Nat) : Int)) = true := by rw [decide_eq_true_eq]; omega
            have hjs : j + 1 < s.length := by omega
            have hbA : (s.map Vc.cells)[j + 1]? = some s[j + 1].cells := by simp [hjs]
            have hjs0 : j < s.length := by omega
            have hwj : IntKind.i64.wrap (((j + 1 : Nat) : Int) - 1) = (j : Int) := by
              rw [show (((j + 1 : Nat) : Int) - 1) = (j : Int) by omega]; exact w64_small (by omega) (by omega)
            have hbB : (s.map Vc.cells)[(IntKind.i64.wrap (((j + 1 : Nat) : Int) - 1)).toNat]? = some s[j].cells := by rw [hwj]; simp [hjs0]
            have h0B : (IntKind.i64.wrap (((j + 1 : Nat) : Int) - 1) - 0).NonNeg := nn (by rw [hwj]; omega)
            have hRA := hR _ ((hp.mem_iff).1 (List.getElem_mem hjs))
            have hRB := hR _ ((hp.mem_iff).1 (List.getElem_mem hjs0))
            have hAB : leV s[j] s[j + 1] := List.pairwise_iff_getElem.1 hs j (j + 1) hjs0 hjs (by omega)
            generalize s[j + 1] = a at hbA hRA hAB
            generalize s[j] = b at hbB hRB hAB
            obtain ⟨b3, b4⟩ := better_no hRA hRB hAB
            have h9 := c9 a.r a.c a.b a.p b.r b.c b.b b.p
            rw [b3, b4] at h9
            refine LoopW.round TT_ok [0, 2, 3, 4, 5, 6, 7, 8, 9, 10, 11, 12, 13, 14, 29, 45, 89, 90, 91, 92, 93, 107, 108, 109, 116, 124, 149, 151, 169] ?_
            conv => whnf
            repeat' first
              | with_reducible rfl
              | with_reducible exact True.intro
              | with_reducible assumption
              | exact (Bool.false_ne_true (hd.symm.trans h)).elim
              | (refine ⟨u.cells, fun _ => ⟨h0at, hbu2⟩, ?_⟩; conv => whnf)
              | exact (Bool.false_ne_true (hA.symm.trans h)).elim
              | exact (Bool.false_ne_true (h.symm.trans dk)).elim
              | (refine ⟨b.cells, ⟨h0B, hbB⟩, ?_⟩; conv => whnf)
              | (refine CallP.use (h9) ?_; conv => whnf)
              | (refine ⟨_, _, CallP.at (h9), ?_⟩; conv => whnf)
              | (refine ⟨_, fun _ => h9, ?_⟩; conv => whnf)
              | assumption
              | (refine W.drawn TT_ok hmix1 rfl ?_; conv => whnf)
              | exact absurd (show false = true from h) Bool.false_ne_true
              | exact absurd (show true = false from h) (fun e => Bool.noConfusion e)
              | exact (congrArg Bool.not h)
              | (refine ⟨_, ⟨by first | assumption | decide | omega, by first | assumption | rfl⟩, ?_⟩; conv => whnf)
              | (refine ⟨_, fun _ => ⟨by first | assumption | decide | omega, by first | assumption | rfl⟩, ?_⟩; conv => whnf)
              | exact (rfl : (_ : Nat) = _)
              | exact (rfl : (_ : LV) = _)
              | (refine ⟨fun h => ?_, fun h => ?_⟩ <;> conv => whnf)
              | (refine ⟨?_, ?_⟩ <;> conv => whnf)
              | (intro h; conv => whnf)
              | (refine gand ?_ h; assumption)
            exact hnext ⟨rfl, rfl, rfl, rfl, rfl, congrArg (LV.int .i64) wk, trivial⟩
      · have hd : decide ((k : Int) < ((l.map Vc.cells).length : Int)) = false := by rw [decide_eq_false_iff_not]; omega
        refine LoopW.round TT_ok [0, 2, 3, 4, 5, 6, 7, 8, 9, 10, 11, 12, 13, 14, 29, 45, 89, 90, 91, 92, 93, 107, 108, 109, 116, 124, 149, 151, 169] ?_
        conv => whnf
        repeat' first
          | with_reducible rfl
          | with_reducible exact True.intro
          | with_reducible assumption
          | exact (Bool.false_ne_true (hd.symm.trans h)).elim
          | assumption
          | (refine W.drawn TT_ok hmix1 rfl ?_; conv => whnf)
          | exact absurd (show false = true from h) Bool.false_ne_true
          | exact absurd (show true = false from h) (fun e => Bool.noConfusion e)
          | exact (congrArg Bool.not h)
          | (refine ⟨_, ⟨by first | assumption | decide | omega, by first | assumption | rfl⟩, ?_⟩; conv => whnf)
          | (refine ⟨_, fun _ => ⟨by first | assumption | decide | omega, by first | assumption | rfl⟩, ?_⟩; conv => whnf)
          | exact (rfl : (_ : Nat) = _)
          | exact (rfl : (_ : LV) = _)
          | (refine ⟨fun h => ?_, fun h => ?_⟩ <;> conv => whnf)
          | (refine ⟨?_, ?_⟩ <;> conv => whnf)
          | (intro h; conv => whnf)
          | (refine gand ?_ h; assumption)
        all_goals skip
end Go.RX

