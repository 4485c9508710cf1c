/- The contract of footwaylaw20.JudgeSums. -/
import Derived.Test.YtbpgcejajdeafaaTyo
import Derived.Test.YtbpgcejajdeafaaTyk
set_option linter.unusedVariables false
set_option linter.unusedSimpArgs false
open Go Go.RX Go.Proofs
namespace Go.RX
set_option maxRecDepth 10000
set_option maxHeartbeats 1000000
theorem cn_cons (c : Cp) (m : List Cp) (x : Ky) : cn (c :: m) x = cn m x + if c.key = x then 1 else 0 := by
  simp only [cn, List.countP_cons, decide_eq_true_eq]
/-- How often some bytes are anywhere. -/
def cr (m : List Cp) (r : ByteArray) : Nat := m.countP fun c => decide (c.raw = r)
theorem cr_le (m : List Cp) (r : ByteArray) : cr m r ≤ m.length := List.countP_le_length
theorem cr_succ {l : List Cp} {k : Nat} {c : Cp} (h : l[k]? = some c) (r : ByteArray) : cr (l.take (k + 1)) r = cr (l.take k) r + if c.raw = r then 1 else 0 := by
  simp only [cr, List.take_add_one, h, Option.toList, List.countP_append, List.countP_cons, List.countP_nil, Nat.zero_add, decide_eq_true_eq]
theorem sum_cnts (r : ByteArray) : ∀ (m : List Cp), on 8 m → (cnts m r 8).sum = (cr m r : Int)
  | [], _ => by simp [cnts, cn, cr, List.range_succ]
  | c :: m, h => by
    have ih := sum_cnts r m fun d hd => h d (List.mem_cons_of_mem _ hd)
    have hc := h c List.mem_cons_self
    have e : cr (c :: m) r = cr m r + if c.raw = r then 1 else 0 := by simp only [cr, List.countP_cons, decide_eq_true_eq]
    have key : ∀ s : Int, (c.key = (s, r)) ↔ (c.seg = s ∧ c.raw = r) := fun s => by simp [Cp.key]
    rw [e]
    simp only [cnts, List.range_succ, List.range_zero, List.nil_append, List.cons_append, List.map_cons, List.map_nil, List.sum_cons, List.sum_nil, cn_cons, key] at ih ⊢
    have hs : c.seg = 0 ∨ c.seg = 1 ∨ c.seg = 2 ∨ c.seg = 3 ∨ c.seg = 4 ∨ c.seg = 5 ∨ c.seg = 6 ∨ c.seg = 7 := by omega
    by_cases hr : c.raw = r
    · rcases hs with h1 | h1 | h1 | h1 | h1 | h1 | h1 | h1 <;> simp [h1, hr] <;> simp at ih <;> omega
    · simp [hr]; simp at ih; omega
theorem sum_take_succ {w : List Int} {k : Nat} {x : Int} (h : w[k]? = some x) : (w.take (k + 1)).sum = (w.take k).sum + x := by
  rw [List.take_add_one, h]; simp
theorem sum_nonneg : ∀ {w : List Int}, (∀ x ∈ w, 0 ≤ x) → 0 ≤ w.sum
  | [], _ => by simp
  | x :: r, h => by
    have := sum_nonneg (w := r) fun y hy => h y (List.mem_cons_of_mem _ hy)
    have := h x List.mem_cons_self
    simp; omega
theorem sum_take_le {w : List Int} (h : ∀ x ∈ w, 0 ≤ x) (k : Nat) : 0 ≤ (w.take k).sum ∧ (w.take k).sum ≤ w.sum := by
  have h1 : w.sum = (w.take k).sum + (w.drop k).sum := by rw [← List.sum_append, List.take_append_drop]
  have h2 := sum_nonneg (w := w.take k) fun x hx => h x (List.mem_of_mem_take hx)
  have h3 := sum_nonneg (w := w.drop k) fun x hx => h x (List.mem_of_mem_drop hx)
  omega
theorem cnts_nonneg (m : List Cp) (r : ByteArray) (n : Nat) : ∀ x ∈ cnts m r n, 0 ≤ x := fun x hx => by
  simp only [cnts, List.mem_map] at hx
  obtain ⟨s, _, rfl⟩ := hx
  exact Int.natCast_nonneg _
def HGood (p : Ln) (m : List Cp) (host : Int) (hlv : LV) (e : Int) : Prop := NL hlv ∧ ((e ≠ 0 ∧ hlv = .nils) ∨
    (e = 0 ∧ ∃ (g : Hs) (xs : List Int), (0 ≤ host ∧ host < p.hosts.length) ∧ p.hosts[host.toNat]? = some g ∧ HInv m g.seg m.length xs ∧ hlv = intsL xs))
theorem c20' (p : Ln) (l : List Cp) (hl : l.length ≤ 1000) (host : Int) : CallS Try.prog 20 [lnL p, copsL l, I host] fun r => ∃ hlv e, r = .tup [hlv, I e] ∧ HGood p l host hlv e :=
  fun H => (c20 p l hl host H).mono fun lv H' ⟨h1, h2⟩ => ⟨by
    rcases h1 with ⟨e, he, rfl⟩ | ⟨g, xs, h3, h4, h5, rfl⟩
    · exact ⟨.nils, e, rfl, trivial, .inl ⟨he, rfl⟩⟩
    · exact ⟨intsL xs, 0, rfl, trivial, .inr ⟨rfl, g, xs, h3, h4, h5, rfl⟩⟩, h2⟩
attribute [local irreducible] CallW CallP CallS LoopW W IntKind.wrap Finds Int.tmod bitI HGood
abbrev s6a (n : Nat) (r : ByteArray) (host : Int) (i : Nat) : Slots := [(1, .sl 1 0 n), (2, .str r), (3, I host), (4, .ptr 0 0 0), (31, I n), (32, I i)]
abbrev s6b (m : List Cp) (r : ByteArray) (host : Int) (w : List Int) (hlv : LV) (e : Int) (k : Nat) : Slots := [(1, copsL m), (2, .str r), (3, I host), (4, .ptr 0 0 0), (10, intsL w), (12, hlv), (13, I e), (14, I (cr (m.take k) r)), (72, copsL m), (73, I (m.map Cp.cells).length), (74, I k)]
abbrev s6c (m : List Cp) (host : Int) (w : List Int) (hlv : LV) (e n : Int) (k : Nat) : Slots := [(1, copsL m), (3, I host), (4, .ptr 0 0 0), (12, hlv), (13, I e), (14, I (n - (w.take k).sum)), (85, intsL w), (86, I (w.map fun x => [I x]).length), (87, I k)]
abbrev s6d (m : List Cp) (host : Int) (xs : List Int) (k : Nat) : Slots := [(1, copsL m), (3, I host), (4, .ptr 0 0 0), (12, intsL xs), (111, intsL xs), (112, I (xs.map fun x => [I x]).length), (113, I k)]
theorem boxS {p : Ln} {l : List (Nat × Blk)} (h : look l 0 = some (bxL p)) : subL l 1 [(0, bxL p)] := ⟨⟨h, rfl, ⟨trivial, trivial, trivial, trivial⟩, trivial⟩, trivial⟩
theorem c6 (p0 : Ln) (l0 : List Cp) (raw0 : ByteArray) (host : Int) : CallP Try.prog 6 [lnL p0, copsL l0, .str raw0, I host] (.bool true) := by
  have h19 := c19 p0
  have hl := fw_len l0
  have h9 : ∀ H, CallW Try.prog 9 [copsL l0] H (fun lv H' => lv = .sl H.nx 0 ((fw l0).map Cp.cells).length ∧ H' = ⟨H.nx + 1, (H.nx, .row 26 5 ((fw l0).map Cp.cells)) :: H.live⟩) := fun H => (c9 l0).at (H := H) ⟨trivial, trivial⟩ (cps_nl _)
  generalize fw l0 = l at h9 hl
  generalize cutLn p0 = p at h19
  refine .intro (by first | (simp [NLs, NL]; done) | (simp [NLs, NL, nlx]; done)) (.intro TT_ok Try.func6 rfl rfl [0, 1, 2, 3, 4, 8, 9, 10, 11, 12, 13, 14, 16, 18, 19, 20, 31, 32, 33, 71, 72, 73, 74, 75, 81, 85, 86, 87, 88, 96, 98, 110, 111, 112, 113, 114, 152] rfl ?_)
  conv => whnf
  repeat' first
    | with_reducible rfl
    | with_reducible exact True.intro
    | with_reducible assumption
    | (refine W.drawnM (id := 1) 1 TT_ok hmix1 [0, 0, 0, 1, 0, 0, 0, 0, 0, 2, 3, 3] [0, 1, 1, 2, 3, 3, 3, 3, 3, 3, 3, 3] rfl ?_; conv => whnf)
    | exact mn_low _ 130
    | exact mn_top _ 130
    | (refine CallW.done ((h9 _)) ?_; conv => whnf)
    | (refine ⟨_, _, (h9 _), ?_⟩; conv => whnf)
    | (refine CallP.use (h19) ?_; conv => whnf)
    | (refine ⟨_, _, CallP.at (h19), ?_⟩; conv => whnf)
    | (refine ⟨_, fun _ => h19, ?_⟩; conv => whnf)
    | assumption
    | (refine W.drawn TT_ok hmix1 rfl ?_; conv => whnf)
    | (refine W.drawnM (id := 1) 0 TT_ok hmix1 [0, 0, 0, 0, 0, 0, 0, 0, 0, 0, 1, 1] [0, 0, 0, 0, 1, 1, 1, 1, 1, 1, 1, 1] rfl ?_; conv => whnf)
    | exact absurd (show false = true from h) Bool.false_ne_true
    | exact absurd (show true = false from h) (fun e => Bool.noConfusion e)
    | exact (congrArg Bool.not h)
    | (refine ⟨_, ⟨by first | assumption | decide | omega, by first | assumption | rfl⟩, ?_⟩; conv => whnf)
    | (refine ⟨_, fun _ => ⟨by first | assumption | decide | omega, by first | assumption | rfl⟩, ?_⟩; conv => whnf)
    | exact (rfl : (_ : Nat) = _)
    | exact (rfl : (_ : LV) = _)
    | (refine ⟨fun h => ?_, fun h => ?_⟩ <;> conv => whnf)
    | (refine ⟨?_, ?_⟩ <;> conv => whnf)
    | (intro h; conv => whnf)
    | (refine gand ?_ h; assumption)
  have hL : (l.map Cp.cells).length = l.length := List.length_map ..
  have hon := nrm_on l
  have hme := mxd_end l
  have hml : (l.map nrm).length = l.length := List.length_map ..
  have hN : (l.map Cp.cells).length = ((l.map nrm).map Cp.cells).length := by simp
  have hst : mxd l 0 = l := by simp [mxd]
  clear h9 h19
  generalize raw0.extract 0 (mn (raw0.size : Int) 130).toNat = r
  refine LoopW.norm (s6a ((l.map nrm).map Cp.cells).length r host 0) 2 [(0, bxL p), (1, .row 26 5 ((mxd l 0).map Cp.cells))] ⟨congrArg (LV.sl 1 0) hN, rfl, rfl, rfl, congrArg (fun n : Nat => I n) hN, rfl, trivial⟩ ⟨⟨rfl, rfl, ⟨trivial, trivial, trivial, trivial⟩, trivial⟩, ⟨congrArg (fun m : List Cp => some (Blk.row 26 5 (m.map Cp.cells))) hst.symm, rfl, (NLss_bel (cps_nl _))⟩, trivial⟩ ⟨rfl, trivial, trivial, rfl, trivial, trivial, trivial⟩ rfl ?_
  generalize hm : l.map nrm = m at *
  have hM : (m.map Cp.cells).length = m.length := List.length_map ..
  refine LoopW.ind (α := Nat) (fun i => l.length - i) (fun i s' H => i ≤ l.length ∧ s' = s6a (m.map Cp.cells).length r host i ∧ H = ⟨2, [(0, bxL p), (1, .row 26 5 ((mxd l i).map Cp.cells))]⟩) ?_ (a := 0) ⟨Nat.zero_le _, rfl, rfl⟩
  rintro i s' H ⟨hk, rfl, rfl⟩ ih
  by_cases hi : i < l.length
  · have hd : decide ((i : Int) < ((m.map Cp.cells).length : Int)) = true := by rw [decide_eq_true_eq]; omega
    have hnth : nth ((mxd l i).map Cp.cells) (0 + (i : Int).toNat) = some l[i].cells := by rw [nth_eq]; simp [mxd_at hi]
    have hlo : ((i : Int) - 0).NonNeg := Int.natCast_nonneg _
    have hhi : (((m.map Cp.cells).length : Int) - ((i : Int) + 1)).NonNeg := nn (by omega)
    have hset := congrArg (List.map Cp.cells) (mxd_set hi)
    rw [List.map_set, ← setN_eq, show setN ((mxd l i).map Cp.cells) i (nrm l[i]).cells = setN ((mxd l i).map Cp.cells) (0 + (i : Int).toNat) (nrm l[i]).cells by rw [Int.toNat_natCast, Nat.zero_add]] at hset
    generalize l[i] = c at hnth hset
    have hnext : ∀ {s1 : Slots} {H1 : Heap}, subC s1 (s6a (m.map Cp.cells).length r host (i + 1)) → look H1.live 0 = some (bxL p) → look H1.live 1 = some (.row 26 5 ((mxd l (i + 1)).map Cp.cells)) → LoopW Try.prog Try.f6.ntmps 0 _ _ s1 H1 := fun h1 h3 h2 =>
      LoopW.norm (s6a (m.map Cp.cells).length r host (i + 1)) 2 [(0, bxL p), (1, .row 26 5 ((mxd l (i + 1)).map Cp.cells))] h1 ⟨⟨h3, rfl, ⟨trivial, trivial, trivial, trivial⟩, trivial⟩, ⟨h2, rfl, NLss_bel (cps_nl _)⟩, trivial⟩ ⟨rfl, trivial, trivial, rfl, trivial, trivial, trivial⟩ rfl (ih (i + 1) _ _ ⟨hi, rfl, rfl⟩ (by omega))
    clear ih
    generalize (mxd l i).map Cp.cells = R at hnth hset ⊢
    refine LoopW.round TT_ok [0, 1, 2, 3, 4, 8, 9, 10, 11, 12, 13, 14, 16, 18, 19, 20, 31, 32, 33, 71, 72, 73, 74, 75, 81, 85, 86, 87, 88, 96, 98, 110, 111, 112, 113, 114, 152] ?_
    conv => whnf
    repeat' first
      | with_reducible rfl
      | with_reducible exact True.intro
      | with_reducible assumption
      | exact (Bool.false_ne_true (h.symm.trans hd)).elim
      | exact hlo
      | exact hhi
      | exact absurd h (by decide)
      | assumption
      | (refine W.drawn TT_ok hmix1 rfl ?_; conv => whnf)
      | (refine W.drawnM (id := 1) 0 TT_ok hmix1 [0, 0, 0, 0, 0, 0, 0, 0, 0, 0, 1, 1] [0, 0, 0, 0, 1, 1, 1, 1, 1, 1, 1, 1] rfl ?_; conv => whnf)
      | exact absurd (show false = true from h) Bool.false_ne_true
      | exact absurd (show true = false from h) (fun e => Bool.noConfusion e)
      | exact (congrArg Bool.not h)
      | (refine ⟨_, ⟨by first | assumption | decide | omega, by first | assumption | rfl⟩, ?_⟩; conv => whnf)
      | (refine ⟨_, fun _ => ⟨by first | assumption | decide | omega, by first | assumption | rfl⟩, ?_⟩; conv => whnf)
      | exact (rfl : (_ : Nat) = _)
      | exact (rfl : (_ : LV) = _)
      | (refine ⟨fun h => ?_, fun h => ?_⟩ <;> conv => whnf)
      | (refine ⟨?_, ?_⟩ <;> conv => whnf)
      | (intro h; conv => whnf)
      | (refine gand ?_ h; assumption)
      | (rw [hnth]; conv => whnf)
    exact hnext ⟨rfl, rfl, rfl, rfl, rfl, congrArg (LV.int .i64) (w64_nat (by omega)), trivial⟩ rfl (congrArg (fun r => some (Blk.row 26 5 r)) hset)
  · have hd : decide ((i : Int) < ((m.map Cp.cells).length : Int)) = false := by rw [decide_eq_false_iff_not]; omega
    obtain rfl : i = l.length := by omega
    clear ih hk hi
    rw [hme]
    have h11 := c11 m (by omega) r hon
    have h20 := c20' p m (by omega) host
    have hsum := sum_cnts r m hon
    have hwn := cnts_nonneg m r 8
    have hwl := cnts_len m r 8
    have hcr := cr_le m r
    generalize cnts m r 8 = w at h11 hsum hwn hwl
    have hWL : (w.map fun x => [I x]).length = 8 := by rw [List.length_map]; exact hwl
    refine LoopW.round TT_ok [0, 1, 2, 3, 4, 8, 9, 10, 11, 12, 13, 14, 16, 18, 19, 20, 31, 32, 33, 71, 72, 73, 74, 75, 81, 85, 86, 87, 88, 96, 98, 110, 111, 112, 113, 114, 152] ?_
    conv => whnf
    repeat' first
      | with_reducible rfl
      | with_reducible exact True.intro
      | with_reducible assumption
      | exact (Bool.false_ne_true (hd.symm.trans h)).elim
      | exact cps_nl _
      | (refine CallP.use (h11) ?_; conv => whnf)
      | (refine ⟨_, _, CallP.at (h11), ?_⟩; conv => whnf)
      | (refine ⟨_, fun _ => h11, ?_⟩; conv => whnf)
      | assumption
      | (refine W.drawn TT_ok hmix1 rfl ?_; conv => whnf)
      | (refine W.drawnM (id := 1) 0 TT_ok hmix1 [0, 0, 0, 0, 0, 0, 0, 0, 0, 0, 1, 1] [0, 0, 0, 0, 1, 1, 1, 1, 1, 1, 1, 1] rfl ?_; conv => whnf)
      | exact absurd (show false = true from h) Bool.false_ne_true
      | exact absurd (show true = false from h) (fun e => Bool.noConfusion e)
      | exact (congrArg Bool.not h)
      | (refine ⟨_, ⟨by first | assumption | decide | omega, by first | assumption | rfl⟩, ?_⟩; conv => whnf)
      | (refine ⟨_, fun _ => ⟨by first | assumption | decide | omega, by first | assumption | rfl⟩, ?_⟩; conv => whnf)
      | exact (rfl : (_ : Nat) = _)
      | exact (rfl : (_ : LV) = _)
      | (refine ⟨fun h => ?_, fun h => ?_⟩ <;> conv => whnf)
      | (refine ⟨?_, ?_⟩ <;> conv => whnf)
      | (intro h; conv => whnf)
      | (refine gand ?_ h; assumption)
    refine CallS.use h20 ?_
    rintro _ ⟨hlv, e, rfl, hgood⟩
    unfold HGood at hgood
    rcases hgood.2 with ⟨he, rfl⟩ | ⟨rfl, g, xs, hh, hg, hI, rfl⟩
    · have hQ : (bif bif !decide ((0 : Int) = 0) then true else !decide (((w.map fun x => [I x]).length : Int) = 8) then true else !true) = false := by rw [hWL]; rfl
      conv => whnf
      repeat' first
        | with_reducible rfl
        | with_reducible exact True.intro
        | with_reducible assumption
        | exact (Bool.false_ne_true (hQ.symm.trans h)).elim
        | (refine CallP.use (c12) ?_; conv => whnf)
        | (refine ⟨_, _, CallP.at (c12), ?_⟩; conv => whnf)
        | (refine ⟨_, fun _ => c12, ?_⟩; conv => whnf)
        | assumption
        | (refine W.drawn TT_ok hmix1 rfl ?_; conv => whnf)
        | (refine W.drawnM (id := 1) 0 TT_ok hmix1 [0, 0, 0, 0, 0, 0, 0, 0, 0, 0, 1, 1] [0, 0, 0, 0, 1, 1, 1, 1, 1, 1, 1, 1] rfl ?_; conv => whnf)
        | exact absurd (show false = true from h) Bool.false_ne_true
        | exact absurd (show true = false from h) (fun e => Bool.noConfusion e)
        | exact (congrArg Bool.not h)
        | (refine ⟨_, ⟨by first | assumption | decide | omega, by first | assumption | rfl⟩, ?_⟩; conv => whnf)
        | (refine ⟨_, fun _ => ⟨by first | assumption | decide | omega, by first | assumption | rfl⟩, ?_⟩; conv => whnf)
        | exact (rfl : (_ : Nat) = _)
        | exact (rfl : (_ : LV) = _)
        | (refine ⟨fun h => ?_, fun h => ?_⟩ <;> conv => whnf)
        | (refine ⟨?_, ?_⟩ <;> conv => whnf)
        | (intro h; conv => whnf)
        | (refine gand ?_ h; assumption)
      have hcr0 : (0 : Int) = ((cr (m.take 0) r : Nat) : Int) := by simp [cr]
      refine LoopW.norm (s6b m r host w .nils e 0) 1 [(0, bxL p)] ⟨rfl, rfl, rfl, rfl, rfl, rfl, rfl, congrArg (LV.int .i64) hcr0, rfl, rfl, rfl, trivial⟩ (boxS rfl) ⟨trivial, trivial, trivial, rfl, trivial, trivial, trivial, trivial, trivial, trivial, trivial, trivial⟩ rfl ?_
      refine LoopW.ind (α := Nat) (fun k => m.length - k) (fun k s' H => k ≤ m.length ∧ s' = s6b m r host w .nils e k ∧ H = ⟨1, [(0, bxL p)]⟩) ?_ (a := 0) ⟨Nat.zero_le _, rfl, rfl⟩
      rintro k s' H ⟨hk, rfl, rfl⟩ ih
      by_cases hi : k < m.length
      · have hd : decide ((k : Int) < ((m.map Cp.cells).length : Int)) = true := by rw [decide_eq_true_eq]; omega
        have hx := List.getElem?_eq_getElem hi
        have hb : (m.map Cp.cells)[k]? = some m[k].cells := by simp [hi]
        generalize m[k] = c at hx hb
        have hcs := cr_succ hx r
        have hck := cr_le (m.take k) r
        rw [List.length_take] at hck
        have hnext : ∀ {s1 : Slots} {H1 : Heap}, subC s1 (s6b m r host w .nils e (k + 1)) → look H1.live 0 = some (bxL p) → LoopW Try.prog Try.f6.ntmps 0 _ _ s1 H1 := fun h1 h2 =>
          LoopW.norm (s6b m r host w .nils e (k + 1)) 1 [(0, bxL p)] h1 (boxS h2) ⟨trivial, trivial, trivial, rfl, trivial, trivial, trivial, trivial, trivial, trivial, trivial, trivial⟩ rfl (ih (k + 1) _ _ ⟨hi, rfl, rfl⟩ (by omega))
        clear ih
        have hw : IntKind.i64.wrap ((cr (m.take k) r : Int) + 1) = ((cr (m.take k) r + 1 : Nat) : Int) := w64_nat (by omega)
        by_cases hr : c.raw = r
        · have hbq : (c.raw == r) = true := (bq _ _).2 hr
          rw [if_pos hr] at hcs
          refine LoopW.round TT_ok [0, 1, 2, 3, 4, 8, 9, 10, 11, 12, 13, 14, 16, 18, 19, 20, 31, 32, 33, 71, 72, 73, 74, 75, 81, 85, 86, 87, 88, 96, 98, 110, 111, 112, 113, 114, 152] ?_
          conv => whnf
          repeat' first
            | with_reducible rfl
            | with_reducible exact True.intro
            | with_reducible assumption
            | exact (Bool.false_ne_true (h.symm.trans hd)).elim
            | exact (Bool.false_ne_true (h.symm.trans hbq)).elim
            | assumption
            | (refine W.drawn TT_ok hmix1 rfl ?_; conv => whnf)
            | (refine W.drawnM (id := 1) 0 TT_ok hmix1 [0, 0, 0, 0, 0, 0, 0, 0, 0, 0, 1, 1] [0, 0, 0, 0, 1, 1, 1, 1, 1, 1, 1, 1] rfl ?_; conv => whnf)
            | exact absurd (show false = true from h) Bool.false_ne_true
            | exact absurd (show true = false from h) (fun e => Bool.noConfusion e)
            | exact (congrArg Bool.not h)
            | (refine ⟨_, ⟨by first | assumption | decide | omega, by first | assumption | rfl⟩, ?_⟩; conv => whnf)
            | (refine ⟨_, fun _ => ⟨by first | assumption | decide | omega, by first | assumption | rfl⟩, ?_⟩; conv => whnf)
            | exact (rfl : (_ : Nat) = _)
            | exact (rfl : (_ : LV) = _)
            | (refine ⟨fun h => ?_, fun h => ?_⟩ <;> conv => whnf)
            | (refine ⟨?_, ?_⟩ <;> conv => whnf)
            | (intro h; conv => whnf)
            | (refine gand ?_ h; assumption)
          exact hnext ⟨rfl, rfl, rfl, rfl, rfl, rfl, rfl, congrArg (LV.int .i64) (hw.trans (by rw [hcs])), rfl, rfl, congrArg (LV.int .i64) (w64_nat (by omega)), trivial⟩ rfl
        · have hbq : (c.raw == r) = false := by rw [← Bool.not_eq_true]; exact fun h => hr ((bq _ _).1 h)
          rw [if_neg hr] at hcs
          refine LoopW.round TT_ok [0, 1, 2, 3, 4, 8, 9, 10, 11, 12, 13, 14, 16, 18, 19, 20, 31, 32, 33, 71, 72, 73, 74, 75, 81, 85, 86, 87, 88, 96, 98, 110, 111, 112, 113, 114, 152] ?_
          conv => whnf
          repeat' first
            | with_reducible rfl
            | with_reducible exact True.intro
            | with_reducible assumption
            | exact (Bool.false_ne_true (h.symm.trans hd)).elim
            | exact (Bool.false_ne_true (hbq.symm.trans h)).elim
            | assumption
            | (refine W.drawn TT_ok hmix1 rfl ?_; conv => whnf)
            | (refine W.drawnM (id := 1) 0 TT_ok hmix1 [0, 0, 0, 0, 0, 0, 0, 0, 0, 0, 1, 1] [0, 0, 0, 0, 1, 1, 1, 1, 1, 1, 1, 1] rfl ?_; conv => whnf)
            | exact absurd (show false = true from h) Bool.false_ne_true
            | exact absurd (show true = false from h) (fun e => Bool.noConfusion e)
            | exact (congrArg Bool.not h)
            | (refine ⟨_, ⟨by first | assumption | decide | omega, by first | assumption | rfl⟩, ?_⟩; conv => whnf)
            | (refine ⟨_, fun _ => ⟨by first | assumption | decide | omega, by first | assumption | rfl⟩, ?_⟩; conv => whnf)
            | exact (rfl : (_ : Nat) = _)
            | exact (rfl : (_ : LV) = _)
            | (refine ⟨fun h => ?_, fun h => ?_⟩ <;> conv => whnf)
            | (refine ⟨?_, ?_⟩ <;> conv => whnf)
            | (intro h; conv => whnf)
            | (refine gand ?_ h; assumption)
          exact hnext ⟨rfl, rfl, rfl, rfl, rfl, rfl, rfl, congrArg (LV.int .i64) (by rw [hcs]; rfl), rfl, rfl, congrArg (LV.int .i64) (w64_nat (by omega)), trivial⟩ rfl
      · have hd : decide ((k : Int) < ((m.map Cp.cells).length : Int)) = false := by rw [decide_eq_false_iff_not]; omega
        obtain rfl : k = m.length := by omega
        clear ih hk hi
        refine LoopW.round TT_ok [0, 1, 2, 3, 4, 8, 9, 10, 11, 12, 13, 14, 16, 18, 19, 20, 31, 32, 33, 71, 72, 73, 74, 75, 81, 85, 86, 87, 88, 96, 98, 110, 111, 112, 113, 114, 152] ?_
        conv => whnf
        repeat' first
          | with_reducible rfl
          | with_reducible exact True.intro
          | with_reducible assumption
          | exact (Bool.false_ne_true (hd.symm.trans h)).elim
          | assumption
          | (refine W.drawn TT_ok hmix1 rfl ?_; conv => whnf)
          | (refine W.drawnM (id := 1) 0 TT_ok hmix1 [0, 0, 0, 0, 0, 0, 0, 0, 0, 0, 1, 1] [0, 0, 0, 0, 1, 1, 1, 1, 1, 1, 1, 1] rfl ?_; conv => whnf)
          | exact absurd (show false = true from h) Bool.false_ne_true
          | exact absurd (show true = false from h) (fun e => Bool.noConfusion e)
          | exact (congrArg Bool.not h)
          | (refine ⟨_, ⟨by first | assumption | decide | omega, by first | assumption | rfl⟩, ?_⟩; conv => whnf)
          | (refine ⟨_, fun _ => ⟨by first | assumption | decide | omega, by first | assumption | rfl⟩, ?_⟩; conv => whnf)
          | exact (rfl : (_ : Nat) = _)
          | exact (rfl : (_ : LV) = _)
          | (refine ⟨fun h => ?_, fun h => ?_⟩ <;> conv => whnf)
          | (refine ⟨?_, ?_⟩ <;> conv => whnf)
          | (intro h; conv => whnf)
          | (refine gand ?_ h; assumption)
        have e0 : ((cr (m.take m.length) r : Nat) : Int) = w.sum - (w.take 0).sum := by rw [List.take_length, hsum]; simp
        refine LoopW.norm (s6c m host w .nils e w.sum 0) 1 [(0, bxL p)] ⟨rfl, rfl, rfl, rfl, rfl, congrArg (LV.int .i64) e0, rfl, rfl, rfl, trivial⟩ (boxS rfl) ⟨trivial, trivial, rfl, trivial, trivial, trivial, trivial, trivial, trivial, trivial⟩ rfl ?_
        clear hd
        refine LoopW.ind (α := Nat) (fun k => w.length - k) (fun k s' H => k ≤ w.length ∧ s' = s6c m host w .nils e w.sum k ∧ H = ⟨1, [(0, bxL p)]⟩) ?_ (a := 0) ⟨Nat.zero_le _, rfl, rfl⟩
        rintro k s' H ⟨hk, rfl, rfl⟩ ih
        by_cases hi : k < w.length
        · have hd : decide ((k : Int) < ((w.map fun x => [I x]).length : Int)) = true := by rw [decide_eq_true_eq]; omega
          have hx := List.getElem?_eq_getElem hi
          have hb : (w.map fun x => [I x])[k]? = some [I w[k]] := by simp [hi]
          generalize w[k] = x at hx hb
          have hss := sum_take_succ hx
          have hs1 := sum_take_le hwn k
          have hs2 := sum_take_le hwn (k + 1)
          have hw : IntKind.i64.wrap (w.sum - (w.take k).sum - x) = w.sum - (w.take (k + 1)).sum := by rw [hss]; exact (w64_small (by omega) (by omega)).trans (by omega)
          refine LoopW.round TT_ok [0, 1, 2, 3, 4, 8, 9, 10, 11, 12, 13, 14, 16, 18, 19, 20, 31, 32, 33, 71, 72, 73, 74, 75, 81, 85, 86, 87, 88, 96, 98, 110, 111, 112, 113, 114, 152] ?_
          conv => whnf
          repeat' first
            | with_reducible rfl
            | with_reducible exact True.intro
            | with_reducible assumption
            | exact (Bool.false_ne_true (h.symm.trans hd)).elim
            | assumption
            | (refine W.drawn TT_ok hmix1 rfl ?_; conv => whnf)
            | (refine W.drawnM (id := 1) 0 TT_ok hmix1 [0, 0, 0, 0, 0, 0, 0, 0, 0, 0, 1, 1] [0, 0, 0, 0, 1, 1, 1, 1, 1, 1, 1, 1] rfl ?_; conv => whnf)
            | exact absurd (show false = true from h) Bool.false_ne_true
            | exact absurd (show true = false from h) (fun e => Bool.noConfusion e)
            | exact (congrArg Bool.not h)
            | (refine ⟨_, ⟨by first | assumption | decide | omega, by first | assumption | rfl⟩, ?_⟩; conv => whnf)
            | (refine ⟨_, fun _ => ⟨by first | assumption | decide | omega, by first | assumption | rfl⟩, ?_⟩; conv => whnf)
            | exact (rfl : (_ : Nat) = _)
            | exact (rfl : (_ : LV) = _)
            | (refine ⟨fun h => ?_, fun h => ?_⟩ <;> conv => whnf)
            | (refine ⟨?_, ?_⟩ <;> conv => whnf)
            | (intro h; conv => whnf)
            | (refine gand ?_ h; assumption)
          refine LoopW.norm (s6c m host w .nils e w.sum (k + 1)) 1 [(0, bxL p)] ⟨rfl, rfl, rfl, rfl, rfl, congrArg (LV.int .i64) hw, rfl, rfl, congrArg (LV.int .i64) (w64_nat (by omega)), trivial⟩ (boxS rfl) ⟨trivial, trivial, rfl, trivial, trivial, trivial, trivial, trivial, trivial, trivial⟩ rfl (ih (k + 1) _ _ ⟨hi, rfl, rfl⟩ (by omega))
        · have hd : decide ((k : Int) < ((w.map fun x => [I x]).length : Int)) = false := by rw [decide_eq_false_iff_not]; omega
          obtain rfl : k = w.length := by omega
          clear ih hk hi
          have hz : (!decide (w.sum - (w.take w.length).sum = 0)) = false := by rw [List.take_length]; simp
          have hE : (!decide (e = 0)) = true := by simp [he]
          refine LoopW.round TT_ok [0, 1, 2, 3, 4, 8, 9, 10, 11, 12, 13, 14, 16, 18, 19, 20, 31, 32, 33, 71, 72, 73, 74, 75, 81, 85, 86, 87, 88, 96, 98, 110, 111, 112, 113, 114, 152] ?_
          conv => whnf
          repeat' first
            | with_reducible rfl
            | with_reducible exact True.intro
            | with_reducible assumption
            | exact (Bool.false_ne_true (hd.symm.trans h)).elim
            | exact (Bool.false_ne_true (hz.symm.trans h)).elim
            | exact (Bool.false_ne_true (h.symm.trans hE)).elim
            | assumption
            | (refine W.drawn TT_ok hmix1 rfl ?_; conv => whnf)
            | (refine W.drawnM (id := 1) 0 TT_ok hmix1 [0, 0, 0, 0, 0, 0, 0, 0, 0, 0, 1, 1] [0, 0, 0, 0, 1, 1, 1, 1, 1, 1, 1, 1] rfl ?_; conv => whnf)
            | exact absurd (show false = true from h) Bool.false_ne_true
            | exact absurd (show true = false from h) (fun e => Bool.noConfusion e)
            | exact (congrArg Bool.not h)
            | (refine ⟨_, ⟨by first | assumption | decide | omega, by first | assumption | rfl⟩, ?_⟩; conv => whnf)
            | (refine ⟨_, fun _ => ⟨by first | assumption | decide | omega, by first | assumption | rfl⟩, ?_⟩; conv => whnf)
            | exact (rfl : (_ : Nat) = _)
            | exact (rfl : (_ : LV) = _)
            | (refine ⟨fun h => ?_, fun h => ?_⟩ <;> conv => whnf)
            | (refine ⟨?_, ?_⟩ <;> conv => whnf)
            | (intro h; conv => whnf)
            | (refine gand ?_ h; assumption)
          all_goals rfl
    · have hQ : (bif bif !decide ((0 : Int) = 0) then true else !decide (((w.map fun x => [I x]).length : Int) = 8) then true else !true) = false := by rw [hWL]; rfl
      conv => whnf
      repeat' first
        | with_reducible rfl
        | with_reducible exact True.intro
        | with_reducible assumption
        | exact (Bool.false_ne_true (hQ.symm.trans h)).elim
        | (refine CallP.use (c12) ?_; conv => whnf)
        | (refine ⟨_, _, CallP.at (c12), ?_⟩; conv => whnf)
        | (refine ⟨_, fun _ => c12, ?_⟩; conv => whnf)
        | assumption
        | (refine W.drawn TT_ok hmix1 rfl ?_; conv => whnf)
        | (refine W.drawnM (id := 1) 0 TT_ok hmix1 [0, 0, 0, 0, 0, 0, 0, 0, 0, 0, 1, 1] [0, 0, 0, 0, 1, 1, 1, 1, 1, 1, 1, 1] rfl ?_; conv => whnf)
        | exact absurd (show false = true from h) Bool.false_ne_true
        | exact absurd (show true = false from h) (fun e => Bool.noConfusion e)
        | exact (congrArg Bool.not h)
        | (refine ⟨_, ⟨by first | assumption | decide | omega, by first | assumption | rfl⟩, ?_⟩; conv => whnf)
        | (refine ⟨_, fun _ => ⟨by first | assumption | decide | omega, by first | assumption | rfl⟩, ?_⟩; conv => whnf)
        | exact (rfl : (_ : Nat) = _)
        | exact (rfl : (_ : LV) = _)
        | (refine ⟨fun h => ?_, fun h => ?_⟩ <;> conv => whnf)
        | (refine ⟨?_, ?_⟩ <;> conv => whnf)
        | (intro h; conv => whnf)
        | (refine gand ?_ h; assumption)
      have hcr0 : (0 : Int) = ((cr (m.take 0) r : Nat) : Int) := by simp [cr]
      refine LoopW.norm (s6b m r host w (intsL xs) 0 0) 1 [(0, bxL p)] ⟨rfl, rfl, rfl, rfl, rfl, rfl, rfl, congrArg (LV.int .i64) hcr0, rfl, rfl, rfl, trivial⟩ (boxS rfl) ⟨trivial, trivial, trivial, rfl, trivial, trivial, trivial, trivial, trivial, trivial, trivial, trivial⟩ rfl ?_
      refine LoopW.ind (α := Nat) (fun k => m.length - k) (fun k s' H => k ≤ m.length ∧ s' = s6b m r host w (intsL xs) 0 k ∧ H = ⟨1, [(0, bxL p)]⟩) ?_ (a := 0) ⟨Nat.zero_le _, rfl, rfl⟩
      rintro k s' H ⟨hk, rfl, rfl⟩ ih
      by_cases hi : k < m.length
      · have hd : decide ((k : Int) < ((m.map Cp.cells).length : Int)) = true := by rw [decide_eq_true_eq]; omega
        have hx := List.getElem?_eq_getElem hi
        have hb : (m.map Cp.cells)[k]? = some m[k].cells := by simp [hi]
        generalize m[k] = c at hx hb
        have hcs := cr_succ hx r
        have hck := cr_le (m.take k) r
        rw [List.length_take] at hck
        have hnext : ∀ {s1 : Slots} {H1 : Heap}, subC s1 (s6b m r host w (intsL xs) 0 (k + 1)) → look H1.live 0 = some (bxL p) → LoopW Try.prog Try.f6.ntmps 0 _ _ s1 H1 := fun h1 h2 =>
          LoopW.norm (s6b m r host w (intsL xs) 0 (k + 1)) 1 [(0, bxL p)] h1 (boxS h2) ⟨trivial, trivial, trivial, rfl, trivial, trivial, trivial, trivial, trivial, trivial, trivial, trivial⟩ rfl (ih (k + 1) _ _ ⟨hi, rfl, rfl⟩ (by omega))
        clear ih
        have hw : IntKind.i64.wrap ((cr (m.take k) r : Int) + 1) = ((cr (m.take k) r + 1 : Nat) : Int) := w64_nat (by omega)
        by_cases hr : c.raw = r
        · have hbq : (c.raw == r) = true := (bq _ _).2 hr
          rw [if_pos hr] at hcs
          refine LoopW.round TT_ok [0, 1, 2, 3, 4, 8, 9, 10, 11, 12, 13, 14, 16, 18, 19, 20, 31, 32, 33, 71, 72, 73, 74, 75, 81, 85, 86, 87, 88, 96, 98, 110, 111, 112, 113, 114, 152] ?_
          conv => whnf
          repeat' first
            | with_reducible rfl
            | with_reducible exact True.intro
            | with_reducible assumption
            | exact (Bool.false_ne_true (h.symm.trans hd)).elim
            | exact (Bool.false_ne_true (h.symm.trans hbq)).elim
            | assumption
            | (refine W.drawn TT_ok hmix1 rfl ?_; conv => whnf)
            | (refine W.drawnM (id := 1) 0 TT_ok hmix1 [0, 0, 0, 0, 0, 0, 0, 0, 0, 0, 1, 1] [0, 0, 0, 0, 1, 1, 1, 1, 1, 1, 1, 1] rfl ?_; conv => whnf)
            | exact absurd (show false = true from h) Bool.false_ne_true
            | exact absurd (show true = false from h) (fun e => Bool.noConfusion e)
            | exact (congrArg Bool.not h)
            | (refine ⟨_, ⟨by first | assumption | decide | omega, by first | assumption | rfl⟩, ?_⟩; conv => whnf)
            | (refine ⟨_, fun _ => ⟨by first | assumption | decide | omega, by first | assumption | rfl⟩, ?_⟩; conv => whnf)
            | exact (rfl : (_ : Nat) = _)
            | exact (rfl : (_ : LV) = _)
            | (refine ⟨fun h => ?_, fun h => ?_⟩ <;> conv => whnf)
            | (refine ⟨?_, ?_⟩ <;> conv => whnf)
            | (intro h; conv => whnf)
            | (refine gand ?_ h; assumption)
          exact hnext ⟨rfl, rfl, rfl, rfl, rfl, rfl, rfl, congrArg (LV.int .i64) (hw.trans (by rw [hcs])), rfl, rfl, congrArg (LV.int .i64) (w64_nat (by omega)), trivial⟩ rfl
        · have hbq : (c.raw == r) = false := by rw [← Bool.not_eq_true]; exact fun h => hr ((bq _ _).1 h)
          rw [if_neg hr] at hcs
          refine LoopW.round TT_ok [0, 1, 2, 3, 4, 8, 9, 10, 11, 12, 13, 14, 16, 18, 19, 20, 31, 32, 33, 71, 72, 73, 74, 75, 81, 85, 86, 87, 88, 96, 98, 110, 111, 112, 113, 114, 152] ?_
          conv => whnf
          repeat' first
            | with_reducible rfl
            | with_reducible exact True.intro
            | with_reducible assumption
            | exact (Bool.false_ne_true (h.symm.trans hd)).elim
            | exact (Bool.false_ne_true (hbq.symm.trans h)).elim
            | assumption
            | (refine W.drawn TT_ok hmix1 rfl ?_; conv => whnf)
            | (refine W.drawnM (id := 1) 0 TT_ok hmix1 [0, 0, 0, 0, 0, 0, 0, 0, 0, 0, 1, 1] [0, 0, 0, 0, 1, 1, 1, 1, 1, 1, 1, 1] rfl ?_; conv => whnf)
            | exact absurd (show false = true from h) Bool.false_ne_true
            | exact absurd (show true = false from h) (fun e => Bool.noConfusion e)
            | exact (congrArg Bool.not h)
            | (refine ⟨_, ⟨by first | assumption | decide | omega, by first | assumption | rfl⟩, ?_⟩; conv => whnf)
            | (refine ⟨_, fun _ => ⟨by first | assumption | decide | omega, by first | assumption | rfl⟩, ?_⟩; conv => whnf)
            | exact (rfl : (_ : Nat) = _)
            | exact (rfl : (_ : LV) = _)
            | (refine ⟨fun h => ?_, fun h => ?_⟩ <;> conv => whnf)
            | (refine ⟨?_, ?_⟩ <;> conv => whnf)
            | (intro h; conv => whnf)
            | (refine gand ?_ h; assumption)
          exact hnext ⟨rfl, rfl, rfl, rfl, rfl, rfl, rfl, congrArg (LV.int .i64) (by rw [hcs]; rfl), rfl, rfl, congrArg (LV.int .i64) (w64_nat (by omega)), trivial⟩ rfl
      · have hd : decide ((k : Int) < ((m.map Cp.cells).length : Int)) = false := by rw [decide_eq_false_iff_not]; omega
        obtain rfl : k = m.length := by omega
        clear ih hk hi
        refine LoopW.round TT_ok [0, 1, 2, 3, 4, 8, 9, 10, 11, 12, 13, 14, 16, 18, 19, 20, 31, 32, 33, 71, 72, 73, 74, 75, 81, 85, 86, 87, 88, 96, 98, 110, 111, 112, 113, 114, 152] ?_
        conv => whnf
        repeat' first
          | with_reducible rfl
          | with_reducible exact True.intro
          | with_reducible assumption
          | exact (Bool.false_ne_true (hd.symm.trans h)).elim
          | assumption
          | (refine W.drawn TT_ok hmix1 rfl ?_; conv => whnf)
          | (refine W.drawnM (id := 1) 0 TT_ok hmix1 [0, 0, 0, 0, 0, 0, 0, 0, 0, 0, 1, 1] [0, 0, 0, 0, 1, 1, 1, 1, 1, 1, 1, 1] rfl ?_; conv => whnf)
          | exact absurd (show false = true from h) Bool.false_ne_true
          | exact absurd (show true = false from h) (fun e => Bool.noConfusion e)
          | exact (congrArg Bool.not h)
          | (refine ⟨_, ⟨by first | assumption | decide | omega, by first | assumption | rfl⟩, ?_⟩; conv => whnf)
          | (refine ⟨_, fun _ => ⟨by first | assumption | decide | omega, by first | assumption | rfl⟩, ?_⟩; conv => whnf)
          | exact (rfl : (_ : Nat) = _)
          | exact (rfl : (_ : LV) = _)
          | (refine ⟨fun h => ?_, fun h => ?_⟩ <;> conv => whnf)
          | (refine ⟨?_, ?_⟩ <;> conv => whnf)
          | (intro h; conv => whnf)
          | (refine gand ?_ h; assumption)
        have e0 : ((cr (m.take m.length) r : Nat) : Int) = w.sum - (w.take 0).sum := by rw [List.take_length, hsum]; simp
        refine LoopW.norm (s6c m host w (intsL xs) 0 w.sum 0) 1 [(0, bxL p)] ⟨rfl, rfl, rfl, rfl, rfl, congrArg (LV.int .i64) e0, rfl, rfl, rfl, trivial⟩ (boxS rfl) ⟨trivial, trivial, rfl, trivial, trivial, trivial, trivial, trivial, trivial, trivial⟩ rfl ?_
        clear hd
        refine LoopW.ind (α := Nat) (fun k => w.length - k) (fun k s' H => k ≤ w.length ∧ s' = s6c m host w (intsL xs) 0 w.sum k ∧ H = ⟨1, [(0, bxL p)]⟩) ?_ (a := 0) ⟨Nat.zero_le _, rfl, rfl⟩
        rintro k s' H ⟨hk, rfl, rfl⟩ ih
        by_cases hi : k < w.length
        · have hd : decide ((k : Int) < ((w.map fun x => [I x]).length : Int)) = true := by rw [decide_eq_true_eq]; omega
          have hx := List.getElem?_eq_getElem hi
          have hb : (w.map fun x => [I x])[k]? = some [I w[k]] := by simp [hi]
          generalize w[k] = x at hx hb
          have hss := sum_take_succ hx
          have hs1 := sum_take_le hwn k
          have hs2 := sum_take_le hwn (k + 1)
          have hw : IntKind.i64.wrap (w.sum - (w.take k).sum - x) = w.sum - (w.take (k + 1)).sum := by rw [hss]; exact (w64_small (by omega) (by omega)).trans (by omega)
          refine LoopW.round TT_ok [0, 1, 2, 3, 4, 8, 9, 10, 11, 12, 13, 14, 16, 18, 19, 20, 31, 32, 33, 71, 72, 73, 74, 75, 81, 85, 86, 87, 88, 96, 98, 110, 111, 112, 113, 114, 152] ?_
          conv => whnf
          repeat' first
            | with_reducible rfl
            | with_reducible exact True.intro
            | with_reducible assumption
            | exact (Bool.false_ne_true (h.symm.trans hd)).elim
            | assumption
            | (refine W.drawn TT_ok hmix1 rfl ?_; conv => whnf)
            | (refine W.drawnM (id := 1) 0 TT_ok hmix1 [0, 0, 0, 0, 0, 0, 0, 0, 0, 0, 1, 1] [0, 0, 0, 0, 1, 1, 1, 1, 1, 1, 1, 1] rfl ?_; conv => whnf)
            | exact absurd (show false = true from h) Bool.false_ne_true
            | exact absurd (show true = false from h) (fun e => Bool.noConfusion e)
            | exact (congrArg Bool.not h)
            | (refine ⟨_, ⟨by first | assumption | decide | omega, by first | assumption | rfl⟩, ?_⟩; conv => whnf)
            | (refine ⟨_, fun _ => ⟨by first | assumption | decide | omega, by first | assumption | rfl⟩, ?_⟩; conv => whnf)
            | exact (rfl : (_ : Nat) = _)
            | exact (rfl : (_ : LV) = _)
            | (refine ⟨fun h => ?_, fun h => ?_⟩ <;> conv => whnf)
            | (refine ⟨?_, ?_⟩ <;> conv => whnf)
            | (intro h; conv => whnf)
            | (refine gand ?_ h; assumption)
          refine LoopW.norm (s6c m host w (intsL xs) 0 w.sum (k + 1)) 1 [(0, bxL p)] ⟨rfl, rfl, rfl, rfl, rfl, congrArg (LV.int .i64) hw, rfl, rfl, congrArg (LV.int .i64) (w64_nat (by omega)), trivial⟩ (boxS rfl) ⟨trivial, trivial, rfl, trivial, trivial, trivial, trivial, trivial, trivial, trivial⟩ rfl (ih (k + 1) _ _ ⟨hi, rfl, rfl⟩ (by omega))
        · have hd : decide ((k : Int) < ((w.map fun x => [I x]).length : Int)) = false := by rw [decide_eq_false_iff_not]; omega
          obtain rfl : k = w.length := by omega
          clear ih hk hi
          have hz : (!decide (w.sum - (w.take w.length).sum = 0)) = false := by rw [List.take_length]; simp
          have hE : (!decide ((0 : Int) = 0)) = false := by rfl
          have hLH : (p.hosts.map Hs.cells).length = p.hosts.length := List.length_map ..
          have hR : (bif decide (host < 0) then true else decide (((p.hosts.map Hs.cells).length : Int) ≤ host)) = false := by
            rw [hLH, show decide (host < 0) = false by rw [decide_eq_false_iff_not]; omega, cond_false, decide_eq_false_iff_not]; omega
          refine LoopW.round TT_ok [0, 1, 2, 3, 4, 8, 9, 10, 11, 12, 13, 14, 16, 18, 19, 20, 31, 32, 33, 71, 72, 73, 74, 75, 81, 85, 86, 87, 88, 96, 98, 110, 111, 112, 113, 114, 152] ?_
          conv => whnf
          repeat' first
            | with_reducible rfl
            | with_reducible exact True.intro
            | with_reducible assumption
            | exact (Bool.false_ne_true (hd.symm.trans h)).elim
            | exact (Bool.false_ne_true (hz.symm.trans h)).elim
            | exact (Bool.false_ne_true (hE.symm.trans h)).elim
            | exact (Bool.false_ne_true (hR.symm.trans h)).elim
            | assumption
            | (refine W.drawn TT_ok hmix1 rfl ?_; conv => whnf)
            | (refine W.drawnM (id := 1) 0 TT_ok hmix1 [0, 0, 0, 0, 0, 0, 0, 0, 0, 0, 1, 1] [0, 0, 0, 0, 1, 1, 1, 1, 1, 1, 1, 1] rfl ?_; conv => whnf)
            | exact absurd (show false = true from h) Bool.false_ne_true
            | exact absurd (show true = false from h) (fun e => Bool.noConfusion e)
            | exact (congrArg Bool.not h)
            | (refine ⟨_, ⟨by first | assumption | decide | omega, by first | assumption | rfl⟩, ?_⟩; conv => whnf)
            | (refine ⟨_, fun _ => ⟨by first | assumption | decide | omega, by first | assumption | rfl⟩, ?_⟩; conv => whnf)
            | exact (rfl : (_ : Nat) = _)
            | exact (rfl : (_ : LV) = _)
            | (refine ⟨fun h => ?_, fun h => ?_⟩ <;> conv => whnf)
            | (refine ⟨?_, ?_⟩ <;> conv => whnf)
            | (intro h; conv => whnf)
            | (refine gand ?_ h; assumption)
          refine LoopW.norm (s6d m host xs 0) 1 [(0, bxL p)] ⟨rfl, rfl, rfl, rfl, rfl, rfl, rfl, trivial⟩ (boxS rfl) ⟨trivial, trivial, rfl, trivial, trivial, trivial, trivial, trivial⟩ rfl ?_
          clear hd
          refine LoopW.ind (α := Nat) (fun k => xs.length - k) (fun k s' H => k ≤ xs.length ∧ s' = s6d m host xs k ∧ H = ⟨1, [(0, bxL p)]⟩) ?_ (a := 0) ⟨Nat.zero_le _, rfl, rfl⟩
          rintro k s' H ⟨hk, rfl, rfl⟩ ih
          have hxl : (xs.map fun x => [I x]).length = xs.length := List.length_map ..
          have hIl := hI.len
          by_cases hi : k < xs.length
          · have hd : decide ((k : Int) < ((xs.map fun x => [I x]).length : Int)) = true := by rw [decide_eq_true_eq]; omega
            have hx := List.getElem?_eq_getElem hi
            have hb : (xs.map fun x => [I x])[k]? = some [I xs[k]] := by simp [hi]
            obtain ⟨ix, hix, hil, c, hc, hcg⟩ := hI.at_ _ (List.getElem_mem hi)
            have hbc : (m.map Cp.cells)[(ix : Int).toNat]? = some c.cells := by simp [hc]
            have h0i : ((ix : Int) - 0).NonNeg := Int.natCast_nonneg _
            have hbg : (p.hosts.map Hs.cells)[host.toNat]? = some g.cells := by simp [hg]
            have h0h : (host - 0).NonNeg := nn hh.1
            have hnext : ∀ {s1 : Slots} {H1 : Heap}, subC s1 (s6d m host xs (k + 1)) → look H1.live 0 = some (bxL p) → LoopW Try.prog Try.f6.ntmps 0 _ _ s1 H1 := fun h1 h2 =>
              LoopW.norm (s6d m host xs (k + 1)) 1 [(0, bxL p)] h1 (boxS h2) ⟨trivial, trivial, rfl, trivial, trivial, trivial, trivial, trivial⟩ rfl (ih (k + 1) _ _ ⟨hi, rfl, rfl⟩ (by omega))
            clear ih
            have hprev : ∀ j, k = j + 1 → ∃ y, xs[j]? = some y ∧ y < xs[k] := fun j hj => by
              have hjl : j < xs.length := by omega
              exact ⟨xs[j], List.getElem?_eq_getElem hjl, List.pairwise_iff_getElem.1 hI.asc j k hjl hi (by omega)⟩
            rw [hix] at hb hprev
            have d1 : decide ((ix : Int) < 0) = false := by rw [decide_eq_false_iff_not]; omega
            have d2 : decide (((m.map Cp.cells).length : Int) ≤ (ix : Int)) = false := by rw [decide_eq_false_iff_not]; omega
            have d3 : decide (c.seg = g.seg) = true := decide_eq_true hcg
            cases k with
            | zero =>
              refine LoopW.round TT_ok [0, 1, 2, 3, 4, 8, 9, 10, 11, 12, 13, 14, 16, 18, 19, 20, 31, 32, 33, 71, 72, 73, 74, 75, 81, 85, 86, 87, 88, 96, 98, 110, 111, 112, 113, 114, 152] ?_
              conv => whnf
              repeat' first
                | with_reducible rfl
                | with_reducible exact True.intro
                | with_reducible assumption
                | exact (Bool.false_ne_true (h.symm.trans hd)).elim
                | (refine ⟨c.cells, fun _ => ⟨h0i, hbc⟩, ?_⟩; conv => whnf)
                | (refine ⟨g.cells, fun _ => ⟨h0h, hbg⟩, ?_⟩; conv => whnf)
                | (refine ⟨[I 0], fun hg => (gz _ hg).elim, ?_⟩; conv => whnf)
                | assumption
                | (refine W.drawn TT_ok hmix1 rfl ?_; conv => whnf)
                | (refine W.drawnM (id := 1) 0 TT_ok hmix1 [0, 0, 0, 0, 0, 0, 0, 0, 0, 0, 1, 1] [0, 0, 0, 0, 1, 1, 1, 1, 1, 1, 1, 1] rfl ?_; conv => whnf)
                | exact absurd (show false = true from h) Bool.false_ne_true
                | exact absurd (show true = false from h) (fun e => Bool.noConfusion e)
                | exact (congrArg Bool.not h)
                | (refine ⟨_, ⟨by first | assumption | decide | omega, by first | assumption | rfl⟩, ?_⟩; conv => whnf)
                | (refine ⟨_, fun _ => ⟨by first | assumption | decide | omega, by first | assumption | rfl⟩, ?_⟩; conv => whnf)
                | exact (rfl : (_ : Nat) = _)
                | exact (rfl : (_ : LV) = _)
                | (refine ⟨fun h => ?_, fun h => ?_⟩ <;> conv => whnf)
                | (refine ⟨?_, ?_⟩ <;> conv => whnf)
                | (intro h; conv => whnf)
                | (refine gand ?_ h; assumption)
                | exact hnext ⟨rfl, rfl, rfl, rfl, rfl, rfl, congrArg (LV.int .i64) (w64_nat (k := 0) (by omega)), trivial⟩ rfl
                | (exfalso; rw [d1, d2, d3] at h; simp at h; done)
            | succ j =>
              obtain ⟨y, hy, hlt⟩ := hprev j rfl
              have hwj : IntKind.i64.wrap (((j + 1 : Nat) : Int) - 1) = (j : Int) := by
                rw [show (((j + 1 : Nat) : Int) - 1) = (j : Int) by omega]; exact w64_small (by omega) (by omega)
              have h0j : (IntKind.i64.wrap (((j + 1 : Nat) : Int) - 1) - 0).NonNeg := nn (by rw [hwj]; omega)
              have hbj : (xs.map fun x => [I x])[(IntKind.i64.wrap (((j + 1 : Nat) : Int) - 1)).toNat]? = some [I y] := by rw [hwj]; simp [hy]
              have d4 : decide ((ix : Int) ≤ y) = false := by rw [decide_eq_false_iff_not]; omega
              refine LoopW.round TT_ok [0, 1, 2, 3, 4, 8, 9, 10, 11, 12, 13, 14, 16, 18, 19, 20, 31, 32, 33, 71, 72, 73, 74, 75, 81, 85, 86, 87, 88, 96, 98, 110, 111, 112, 113, 114, 152] ?_
              conv => whnf
              repeat' first
                | with_reducible rfl
                | with_reducible exact True.intro
                | with_reducible assumption
                | exact (Bool.false_ne_true (h.symm.trans hd)).elim
                | (refine ⟨c.cells, fun _ => ⟨h0i, hbc⟩, ?_⟩; conv => whnf)
                | (refine ⟨g.cells, fun _ => ⟨h0h, hbg⟩, ?_⟩; conv => whnf)
                | (refine ⟨[I y], fun _ => ⟨h0j, hbj⟩, ?_⟩; conv => whnf)
                | assumption
                | (refine W.drawn TT_ok hmix1 rfl ?_; conv => whnf)
                | (refine W.drawnM (id := 1) 0 TT_ok hmix1 [0, 0, 0, 0, 0, 0, 0, 0, 0, 0, 1, 1] [0, 0, 0, 0, 1, 1, 1, 1, 1, 1, 1, 1] rfl ?_; conv => whnf)
                | exact absurd (show false = true from h) Bool.false_ne_true
                | exact absurd (show true = false from h) (fun e => Bool.noConfusion e)
                | exact (congrArg Bool.not h)
                | (refine ⟨_, ⟨by first | assumption | decide | omega, by first | assumption | rfl⟩, ?_⟩; conv => whnf)
                | (refine ⟨_, fun _ => ⟨by first | assumption | decide | omega, by first | assumption | rfl⟩, ?_⟩; conv => whnf)
                | exact (rfl : (_ : Nat) = _)
                | exact (rfl : (_ : LV) = _)
                | (refine ⟨fun h => ?_, fun h => ?_⟩ <;> conv => whnf)
                | (refine ⟨?_, ?_⟩ <;> conv => whnf)
                | (intro h; conv => whnf)
                | (refine gand ?_ h; assumption)
                | exact hnext ⟨rfl, rfl, rfl, rfl, rfl, rfl, congrArg (LV.int .i64) (w64_nat (k := j + 1) (by omega)), trivial⟩ rfl
                | (exfalso; rw [d1, d2, d3, d4] at h; revert h; cases decide ((0 : Int) < ((j + 1 : Nat) : Int)) <;> simp; done)
          · have hd : decide ((k : Int) < ((xs.map fun x => [I x]).length : Int)) = false := by rw [decide_eq_false_iff_not]; omega
            refine LoopW.round TT_ok [0, 1, 2, 3, 4, 8, 9, 10, 11, 12, 13, 14, 16, 18, 19, 20, 31, 32, 33, 71, 72, 73, 74, 75, 81, 85, 86, 87, 88, 96, 98, 110, 111, 112, 113, 114, 152] ?_
            conv => whnf
            repeat' first
              | with_reducible rfl
              | with_reducible exact True.intro
              | with_reducible assumption
              | exact (Bool.false_ne_true (hd.symm.trans h)).elim
              | assumption
              | (refine W.drawn TT_ok hmix1 rfl ?_; conv => whnf)
              | (refine W.drawnM (id := 1) 0 TT_ok hmix1 [0, 0, 0, 0, 0, 0, 0, 0, 0, 0, 1, 1] [0, 0, 0, 0, 1, 1, 1, 1, 1, 1, 1, 1] rfl ?_; conv => whnf)
              | exact absurd (show false = true from h) Bool.false_ne_true
              | exact absurd (show true = false from h) (fun e => Bool.noConfusion e)
              | exact (congrArg Bool.not h)
              | (refine ⟨_, ⟨by first | assumption | decide | omega, by first | assumption | rfl⟩, ?_⟩; conv => whnf)
              | (refine ⟨_, fun _ => ⟨by first | assumption | decide | omega, by first | assumption | rfl⟩, ?_⟩; conv => whnf)
              | exact (rfl : (_ : Nat) = _)
              | exact (rfl : (_ : LV) = _)
              | (refine ⟨fun h => ?_, fun h => ?_⟩ <;> conv => whnf)
              | (refine ⟨?_, ?_⟩ <;> conv => whnf)
              | (intro h; conv => whnf)
              | (refine gand ?_ h; assumption)
            all_goals skip
end Go.RX

