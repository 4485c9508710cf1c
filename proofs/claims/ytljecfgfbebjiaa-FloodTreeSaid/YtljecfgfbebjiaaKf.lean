/- tree.Open: the rows of a nested row that grow one by one: what the program's function answers. -/
import Derived.Test.YtljecfgfbebjiaaKc
set_option linter.unusedVariables false
set_option linter.unusedSimpArgs false
open Go Go.RX Go.Proofs
namespace Go.RX
set_option maxRecDepth 10000
set_option maxHeartbeats 4000000
section
variable {P : Program}
theorem LoopW.frzR {n n0 : Nat} {c : Code} {Q : Exit → Slots → Heap → Prop} {s : Slots} {H : Heap} (y z : Nat) {ey sz e sz' : Nat} {es zs : List (List LV)} (zs' : List (List LV)) (hy : look H.live y = some (.row ey sz es)) (hz : look H.live z = some (.row e sz' zs)) (hzy : Nat.beq z y = false)
  (hn : NLss es) (hc : ∀ cs ∈ zs, fzCs y es.length cs) (he : zs.map (fzL y sz es) = zs') (h : fzS y sz es s fun s' => LoopW P n n0 c Q s' ⟨H.nx, upd z (.row e sz' zs') (rm y H.live)⟩) : LoopW P n n0 c Q s H := by
 subst he
 intro E0 w0 hn0 E w a hsr hr hx
 obtain ⟨s1, h1, h2⟩ := fzS_spec h
 obtain ⟨E1, hr1, hx1, hf, hp⟩ := relH_freeze hr hy (NLss_iff.1 hn)
 have hz1 : look (rm y H.live) z = some (.row e sz' zs) := by
  rw [look_rm]
  rw [if_neg (by intro q; subst q; simp at hzy)]
  exact hz
 have hr2 := relH_rows hr1 (zs' := zs.map (fzL y sz es)) hz1 (by rw [List.length_map]) (fun i cs cs' h3 h4 => by
  rw [List.getElem?_map, h3] at h4
  cases h4
  exact fzL_length y sz es cs) (fun k arr h3 h4 i cs' h5 j x hj => by
  rw [List.getElem?_map] at h5
  obtain ⟨cs, hcs, rfl⟩ := Option.map_eq_some_iff.1 h5
  rw [fzL_get, Option.map_eq_some_iff] at hj
  obtain ⟨x0, hx0, rfl⟩ := hj
  have hlt : z < E.nx := by rw [hr.nx]; exact hr.lt z _ hz
  have hφ : E.φ z = some (some k, sz') := by
   rcases hx1.old z hlt with h6 | h6
   ·rw [h6] at h3; cases h3
   ·rw [← h6]; exact h3
  rcases hr.row z e sz' zs hz with ⟨h6, h7⟩ | ⟨k', arr', h6, h7, _, _, h8⟩
  ·rw [h7] at hcs; simp at hcs
  ·rw [hφ] at h6; cases h6
   rw [h4] at h7; cases h7
   exact fzV_spec hr hx1 hf hp ((h8 i cs hcs).2 j x0 hx0) (fzCs_get (hc cs (List.mem_of_getElem? hcs)) hx0))
 exact h1 E0 w0 hn0 E1 w a (hsr.fz hr hx1 hf hp h2) hr2 (hx.trans hx1)
theorem map_rens {ρ : List (Nat × Nat)} : ∀ {l : List (List LV)}, NLss l → l.map (rens ρ) = l
 | [], _ => rfl
 | c :: r, h => by
  rw [List.map_cons, map_rens h.2, rens_eq]
  congr 1
  refine (List.map_congr_left fun x hx => ?_).trans (List.map_id' _)
  exact ren_NL (NLs_iff.1 h.1 x hx)
end
theorem fits_of' {n : Nat} (h : n ≤ 100000) : fits n 1 := ⟨by omega, by omega⟩
attribute [local irreducible] CallW CallP LoopW W IntKind.wrap bitI
def opB (x : Int) : Bool := bif decide (x = 0) then true else decide (x = 1)
def tree_Open (a0 : LanT) : Option (List (List Bool) × Int) :=
 (tree_Roles a0).bind fun y3 =>
 (bif (!decide (y3.2 = 0)) then
  some ([], y3.2)
 else
  grd (y3.1.length ≤ 1000 ∧ ∀ row ∈ y3.1, row ≠ [] ∧ row.length ≤ 1000) <|
  some (y3.1.map fun row => row.map opB, 0))
def opO {ρ : Type} (k : Nat) (x : List Int) (s : List (List Bool)) : Option (Step ρ (List (List Bool))) := if s.length = k then some (.nxt (s ++ [x.map opB])) else none
theorem opO_eq {ρ : Type} {xs : List (List Int)} (h : xs.length ≤ 1000000) : rangeL (opO (ρ := ρ)) xs [] = some (.nxt (xs.map fun row => row.map opB)) := by
 obtain ⟨s, h1, h2⟩ := rangeL_inv (s0 := ([] : List (List Bool))) (body := opO (ρ := ρ)) h (fun k s => s = (xs.take k).map fun row => row.map opB) rfl fun k x s hx hs => by
  have hlt := (List.getElem?_eq_some_iff.1 hx).1
  refine ⟨_, if_pos (by rw [hs]; simp; omega), ?_⟩
  rw [hs, List.take_add_one, hx]; simp
 rw [h1, h2, List.take_length]
def opR (s : List (List Bool)) (m : Nat) : List (List LV) := s.map (roC 1 bC) ++ List.replicate m [LV.nils]
theorem nlRep : ∀ {m : Nat}, NLss (List.replicate m [LV.nils])
 | 0 => True.intro
 | m + 1 => ⟨⟨True.intro, True.intro⟩, nlRep (m := m)⟩
theorem opR_nl {s : List (List Bool)} {m : Nat} : NLss (opR s m) := NLss_app (NLss_map' _) (NLss_rep ⟨True.intro, True.intro⟩)
theorem opR_bel {n m : Nat} {s : List (List Bool)} : belss n (opR s m) := NLss_bel opR_nl
def opS (s : List (List Bool)) (c : List Bool) (m : Nat) : List (List LV) := s.map (roC 1 bC) ++ [LV.sl 2 0 c.length] :: List.replicate m [LV.nils]
def opI {ρ : Type} (k : Nat) (x : Int) (c : List Bool) : Option (Step ρ (List Bool)) := if c.length ≤ 1000 then some (.nxt (c ++ [opB x])) else none
theorem opI_eq {ρ : Type} {xs : List Int} {x0 : Int} (h : (x0 :: xs).length ≤ 1000) : rangeL (opI (ρ := ρ)) xs [opB x0] = some (.nxt ((x0 :: xs).map opB)) := by
 rw [List.length_cons] at h
 obtain ⟨s, h1, h2⟩ := rangeL_inv (s0 := [opB x0]) (body := opI (ρ := ρ)) (xs := xs) (by omega) (fun k s => s = opB x0 :: (xs.take k).map opB) rfl fun k x s hx hs => by
  have hlt := (List.getElem?_eq_some_iff.1 hx).1
  refine ⟨_, if_pos (by rw [hs]; simp; omega), ?_⟩
  rw [hs, List.take_add_one, hx]; simp
 rw [h1, h2, List.take_length]; rfl
theorem op_set {ρ : List (Nat × Nat)} {A : List (List LV)} {n m : Nat} {u v v' : LV} (hn : A.length = n) (hA : NLss A) (hv : ren ρ v = v') :
  (setN (A ++ [u] :: List.replicate m [LV.nils]) (0 + ((n : Nat) : Int).toNat) [v]).map (rens ρ) = A ++ [v'] :: List.replicate m [LV.nils] := by
 have e : setN (A ++ [u] :: List.replicate m [LV.nils]) (0 + ((n : Nat) : Int).toNat) [v] = A ++ [v] :: List.replicate m [LV.nils] := by
  rw [Int.toNat_natCast, Nat.zero_add, ← hn]
  clear hn hA
  induction A with
  | nil => rfl
  | cons a A ih => exact congrArg (a :: ·) ih
 rw [e, List.map_append, List.map_cons, map_rens hA, map_rens nlRep]
 congr 1
 rw [rens_eq, List.map_cons, hv]; rfl
theorem op_nth {A : List (List LV)} {n m : Nat} {u : LV} (hn : A.length = n) : nth (A ++ [u] :: List.replicate m [LV.nils]) (0 + (((n : Nat) : Int).toNat)) = some [u] := by
 rw [nth_eq, Int.toNat_natCast, Nat.zero_add, List.getElem?_append_right (by omega), hn, Nat.sub_self]; rfl
theorem op_fzC {s : List (List Bool)} {c : List Bool} {m : Nat} : ∀ cs ∈ opS s c m, fzCs 2 (c.map bC).length cs := fun cs h => by
 unfold opS at h
 rcases List.mem_append.1 h with h | h
 ·obtain ⟨r, _, rfl⟩ := List.mem_map.1 h
  exact ⟨True.intro, True.intro⟩
 ·rcases List.mem_cons.1 h with rfl | h
  ·exact ⟨(List.length_map _).symm, True.intro⟩
  ·rw [List.eq_of_mem_replicate h]; exact ⟨True.intro, True.intro⟩
theorem op_fz {s : List (List Bool)} {c : List Bool} {m : Nat} : (opS s c m).map (fzL 2 1 (c.map bC)) = opR (s ++ [c]) m := by
 unfold opS opR
 rw [List.map_append, List.map_cons, List.map_map, List.map_replicate, List.map_append, List.append_assoc]
 rfl
theorem c_tree_Open (a0 : LanT) (r : List (List Bool) × Int) (h : tree_Open a0 = some r) : CallP Try.prog 15 [(LV.agg [(I a0.Segs), (LV.ro 2 (a0.Plans.map PlanT.cells)), (LV.ro 2 (a0.Hosts.map HostT.cells))])] (LV.tup [(LV.ro 1 (r.1.map (roC 1 bC))), (I r.2)]) := by
 unfold tree_Open at h
 refine .intro nlA (.intro TT_ok Try.func15 rfl rfl [0, 1, 2, 3, 4, 5, 6, 7, 8, 10, 17, 22, 23, 24, 25, 29, 30, 31, 32] rfl ?_)
 conv => whnf
 replace h := bindS h
 obtain ⟨y3, hy3, h⟩ := h
 have c4 := c_tree_Roles a0 _ hy3
 repeat' first | exact rA _ | refine parkI ?_ | (refine CallP.use c4 ?_; conv => whnf) | (refine And.intro ?_ ?_ <;> conv => whnf) | fail
 refine parkE (fun hc => ?_) (fun hc => ?_)
 ·replace h := condT hc h
  conv => whnf
  have e := Option.some.inj h
  subst e
  repeat' first | exact rA _ | exact clA _ | (refine And.intro ?_ ?_ <;> conv => whnf) | exact clG _ | (refine gand ?_ h; assumption) | exact clN _ | fail
 ·replace h := condF hc h
  conv => whnf
  replace h := grdS h
  obtain ⟨⟨hn, hrows⟩, h⟩ := h
  have e := Option.some.inj h
  subst e
  have hL : (y3.1.map (roC 1 iC)).length = y3.1.length := List.length_map _
  have g1 : (0 : Int) ≤ (((y3.1.map (roC 1 iC)).length : Nat) : Int) ∧ (((y3.1.map (roC 1 iC)).length : Nat) : Int) ≤ (((y3.1.map (roC 1 iC)).length : Nat) : Int) ∧ fits ((((y3.1.map (roC 1 iC)).length : Nat) : Int)).toNat 24 := ⟨by omega, by omega, by rw [Int.toNat_natCast, hL]; exact ⟨by omega, by omega⟩⟩
  repeat' first | exact rA _ | refine parkI ?_ | exact g1 | (refine And.intro ?_ ?_ <;> conv => whnf) | fail
  have ho : rangeL (opO (ρ := Unit)) y3.1 [] = some (.nxt (y3.1.map fun row => row.map opB)) := opO_eq (by omega)
  refine LoopW.norm [(6, (LV.sl 1 0 y3.1.length)), (22, (LV.ro 1 (y3.1.map (roC 1 iC)))), (23, (I ((y3.1.length : Nat) : Int))), (24, (I (([] : List (List Bool)).length : Int)))] 2 [(1, (.row 54 1 (opR ([] : List (List Bool)) (y3.1.length - ([] : List (List Bool)).length))))] ⟨(congrArg (LV.sl 1 0) (by rw [Int.toNat_natCast]; exact hL)), rfl, (congrArg (fun z : Nat => LV.int .i64 (z : Int)) hL), rfl, trivial⟩ ⟨⟨(congrArg (fun q => some (Blk.row 54 1 q)) (by rw [Int.toNat_natCast, hL]; rfl)), rfl, opR_bel⟩, trivial⟩ blT rfl ?_
  refine LoopW.forR (fun k s => [(6, (LV.sl 1 0 y3.1.length)), (22, (LV.ro 1 (y3.1.map (roC 1 iC)))), (23, (I ((y3.1.length : Nat) : Int))), (24, (I ((s.length : Nat) : Int)))]) (fun s => ⟨2, [(1, (.row 54 1 (opR s (y3.1.length - s.length))))]⟩) ho (fun hl s hs => ?_) (fun hl k x s o1 hk hx b K hret hbrk => ?_)
  ·have hs' := Step.nxt.inj hs
   subst hs'
   generalize hR : (y3.1.map fun row => row.map opB) = R
   have hRl : R.length = y3.1.length := by rw [← hR, List.length_map]
   refine LoopW.norm [(6, (LV.sl 1 0 (R.map (roC 1 bC)).length)), (23, (I ((y3.1.length : Nat) : Int))), (24, (I ((y3.1.length : Nat) : Int)))] 2 [(1, (.row 54 1 (R.map (roC 1 bC))))] ⟨(congrArg (LV.sl 1 0) (by rw [List.length_map]; exact hRl.symm)), rfl, (congrArg (fun z : Nat => LV.int .i64 (z : Int)) hRl), trivial⟩ ⟨⟨(congrArg (fun q => some (Blk.row 54 1 q)) (by unfold opR; rw [hRl, Nat.sub_self]; exact List.append_nil _)), rfl, NLss_bel (NLss_map' _)⟩, trivial⟩ blT rfl ?_
   have hd : decide (((y3.1.length : Nat) : Int) < ((y3.1.length : Nat) : Int)) = false := decide_eq_false (Int.lt_irrefl _)
   refine LoopW.round TT_ok [0, 1, 2, 3, 4, 5, 6, 7, 8, 10, 17, 22, 23, 24, 25, 29, 30, 31, 32] ?_
   conv => whnf
   repeat' first | exact rA _ | refine parkI ?_ | (refine And.intro ?_ ?_ <;> conv => whnf) | fail
   refine parkE (fun hc => ?_) (fun hc => ?_)
   ·exact (Bool.false_ne_true (hd.symm.trans hc)).elim
   ·conv => whnf
    repeat' first | exact rA _ | exact clA _ | (refine And.intro ?_ ?_ <;> conv => whnf) | exact clG _ | (refine gand ?_ h; assumption) | exact clN _ | fail
  ·have hsk : s.length = k ∧ o1 = .nxt (s ++ [x.map opB]) := by
    unfold opO at b
    split at b
    ·exact ⟨by assumption, (Option.some.inj b).symm⟩
    ·cases b
   obtain ⟨hsk, rfl⟩ := hsk
   subst hsk
   obtain ⟨hx0, hxl⟩ := hrows x (List.mem_of_getElem? hx)
   have hd : decide (((s.length : Nat) : Int) < ((y3.1.length : Nat) : Int)) = true := decide_eq_true (by omega)
   obtain ⟨x0, xt, rfl⟩ : ∃ x0 xt, x = x0 :: xt := by
    cases x with
    | nil => exact absurd rfl hx0
    | cons u v => exact ⟨u, v, rfl⟩
   refine LoopW.round TT_ok [0, 1, 2, 3, 4, 5, 6, 7, 8, 10, 17, 22, 23, 24, 25, 29, 30, 31, 32] ?_
   conv => whnf
   repeat' first | exact rA _ | refine parkI ?_ | (refine And.intro ?_ ?_ <;> conv => whnf) | fail
   refine parkE (fun hc => ?_) (fun hc => ?_)
   ·clear hd
    conv => whnf
    repeat' first | exact rA _ | refine parkI ?_ | (refine ⟨_, (kixF (f := roC 1 iC) hx), ?_⟩; conv => whnf) | (refine And.intro ?_ ?_ <;> conv => whnf) | fail
    obtain ⟨m, hm⟩ : ∃ m, y3.1.length - s.length = m + 1 := ⟨y3.1.length - s.length - 1, by omega⟩
    have hR1 : opR s (y3.1.length - s.length) = s.map (roC 1 bC) ++ [LV.nils] :: List.replicate m [LV.nils] := by rw [hm]; rfl
    rw [hR1]
    have i1 : nth (s.map (roC 1 bC) ++ [LV.nils] :: List.replicate m [LV.nils]) (0 + (((s.length : Nat) : Int).toNat)) = some [LV.nils] := op_nth (List.length_map _)
    have g3 : fits 1 1 := ⟨by omega, by omega⟩
    have g2 : (0 : Int) ≤ ((s.length : Nat) : Int) ∧ ((s.length : Nat) : Int) < ((y3.1.length : Nat) : Int) := ⟨by omega, by omega⟩
    have hx00 : (x0 :: xt)[0]? = some x0 := rfl
    have hd2 : decide ((0 : Int) < (((List.map iC (x0 :: xt)).length : Nat) : Int)) = true := decide_eq_true (by rw [List.length_map, List.length_cons]; omega)
    refine LoopW.round TT_ok [0, 1, 2, 3, 4, 5, 6, 7, 8, 10, 17, 22, 23, 24, 25, 29, 30, 31, 32] ?_
    conv => whnf
    repeat' first | exact rA _ | refine parkI ?_ | (refine And.intro ?_ ?_ <;> conv => whnf) | fail
    refine parkE (fun hc2 => ?_) (fun hc2 => ?_)
    ·conv => whnf
     repeat' first | exact rA _ | refine parkI ?_ | exact g2 | exact g3 | (rw [i1]; conv => whnf) | (refine ⟨_, (kixF (f := iC) hx00), ?_⟩; conv => whnf) | exact clA _ | exact (rfl : (_ : Nat) = _) | (refine And.intro ?_ ?_ <;> conv => whnf) | exact clG _ | exact clN _ | fail
     refine LoopW.ren [(1, 1), (3, 2)] [(6, (LV.sl 1 0 y3.1.length)), (7, (I ((s.length : Nat) : Int))), (22, (LV.ro 1 (y3.1.map (roC 1 iC)))), (23, (I ((y3.1.length : Nat) : Int))), (24, (I ((s.length : Nat) : Int))), (29, (LV.ro 1 ((x0 :: xt).map iC))), (30, (I ((((x0 :: xt).map iC).length : Nat) : Int))), (31, (I ((0 + 1 : Nat) : Int)))] 3 [(1, (.row 54 1 (opS s [opB x0] m))), (2, (.row 4 1 (([opB x0]).map bC)))] rfl ⟨rfl, rfl, rfl, rfl, rfl, rfl, rfl, (congrArg (LV.int .i64) (w64_nat 0 (by omega))), trivial⟩ ⟨⟨rfl, rfl, .inr (op_set (List.length_map _) (NLss_map' _) rfl)⟩, rfl, rfl, ⟨⟨rfl, rfl, .inl ⟨rfl, nlT⟩⟩, rfl, rfl, trivial⟩⟩ rfl ?_
     have ho2 : rangeL (opI (ρ := Unit)) xt [opB x0] = some (.nxt ((x0 :: xt).map opB)) := opI_eq hxl
     refine LoopW.forR (fun j c => [(6, (LV.sl 1 0 y3.1.length)), (7, (I ((s.length : Nat) : Int))), (22, (LV.ro 1 (y3.1.map (roC 1 iC)))), (23, (I ((y3.1.length : Nat) : Int))), (24, (I ((s.length : Nat) : Int))), (29, (LV.ro 1 ((x0 :: xt).map iC))), (30, (I ((((x0 :: xt).map iC).length : Nat) : Int))), (31, (I ((j + 1 : Nat) : Int)))]) (fun c => ⟨3, [(1, (.row 54 1 (opS s c m))), (2, (.row 4 1 ((c).map bC)))]⟩) ho2 (fun hl2 c hc3 => ?_) (fun hl2 j x c o2 hj hxj b2 K2 hret2 hbrk2 => ?_)
     ·have hc4 := Step.nxt.inj hc3
      subst hc4
      refine LoopW.frzR 2 1 (opR (s ++ [(x0 :: xt).map opB]) m) rfl rfl rfl nlT op_fzC op_fz ?_
      conv => whnf
      have hd4 : decide (((xt.length + 1 : Nat) : Int) < (((List.map iC (x0 :: xt)).length : Nat) : Int)) = false := decide_eq_false (by rw [List.length_map, List.length_cons]; omega)
      refine LoopW.round TT_ok [0, 1, 2, 3, 4, 5, 6, 7, 8, 10, 17, 22, 23, 24, 25, 29, 30, 31, 32] ?_
      conv => whnf
      repeat' first | exact rA _ | refine parkI ?_ | (refine And.intro ?_ ?_ <;> conv => whnf) | fail
      refine parkE (fun hc5 => ?_) (fun hc5 => ?_)
      ·exact (Bool.false_ne_true (hd4.symm.trans hc5)).elim
      ·conv => whnf
       repeat' first | exact rA _ | refine parkI ?_ | (refine And.intro ?_ ?_ <;> conv => whnf) | fail
       have hm2 : y3.1.length - (s ++ [(x0 :: xt).map opB]).length = m := by rw [List.length_append]; simp only [List.length_cons, List.length_nil]; omega
       have hk2 := K _ rfl
       rw [hm2] at hk2
       refine LoopW.norm [(6, (LV.sl 1 0 y3.1.length)), (22, (LV.ro 1 (y3.1.map (roC 1 iC)))), (23, (I ((y3.1.length : Nat) : Int))), (24, (I (((s ++ [(x0 :: xt).map opB]).length : Nat) : Int)))] 2 [(1, (.row 54 1 (opR (s ++ [(x0 :: xt).map opB]) m)))] ⟨rfl, rfl, rfl, (congrArg (LV.int .i64) ((w64_nat _ (by omega)).trans (by rw [List.length_append]; rfl))), trivial⟩ ⟨⟨rfl, rfl, opR_bel⟩, trivial⟩ blT rfl hk2
     ·have hcl : c.length ≤ 1000 ∧ o2 = .nxt (c ++ [opB x]) := by
       unfold opI at b2
       split at b2
       ·exact ⟨by assumption, (Option.some.inj b2).symm⟩
       ·cases b2
      obtain ⟨hcl, rfl⟩ := hcl
      have hx2 : (x0 :: xt)[j + 1]? = some x := hxj
      have hd3 : decide (((j + 1 : Nat) : Int) < (((List.map iC (x0 :: xt)).length : Nat) : Int)) = true := decide_eq_true (by rw [List.length_map, List.length_cons]; omega)
      have i2 : nth (opS s c m) (0 + (((s.length : Nat) : Int).toNat)) = some [LV.sl 2 0 c.length] := op_nth (List.length_map _)
      have g4 : fits ((c.map bC) ++ [[LV.bool (opB x)]]).length 1 := fits_of' (by rw [List.length_append, List.length_map]; simp only [List.length_cons, List.length_nil]; omega)
      refine LoopW.round TT_ok [0, 1, 2, 3, 4, 5, 6, 7, 8, 10, 17, 22, 23, 24, 25, 29, 30, 31, 32] ?_
      conv => whnf
      repeat' first | exact rA _ | refine parkI ?_ | (refine And.intro ?_ ?_ <;> conv => whnf) | fail
      refine parkE (fun hc5 => ?_) (fun hc5 => ?_)
      ·conv => whnf
       repeat' first | exact rA _ | refine parkI ?_ | exact g2 | exact g4 | (rw [i2]; conv => whnf) | (refine ⟨_, (kixF (f := iC) hx2), ?_⟩; conv => whnf) | exact clA _ | exact (rfl : (_ : Nat) = _) | (refine And.intro ?_ ?_ <;> conv => whnf) | exact clG _ | exact clN _ | fail
       refine LoopW.ren [(1, 1), (4, 2)] [(6, (LV.sl 1 0 y3.1.length)), (7, (I ((s.length : Nat) : Int))), (22, (LV.ro 1 (y3.1.map (roC 1 iC)))), (23, (I ((y3.1.length : Nat) : Int))), (24, (I ((s.length : Nat) : Int))), (29, (LV.ro 1 ((x0 :: xt).map iC))), (30, (I ((((x0 :: xt).map iC).length : Nat) : Int))), (31, (I (((j + 1) + 1 : Nat) : Int)))] 3 [(1, (.row 54 1 (opS s (c ++ [opB x]) m))), (2, (.row 4 1 (((c ++ [opB x])).map bC)))] rfl ⟨rfl, rfl, rfl, rfl, rfl, rfl, rfl, (congrArg (LV.int .i64) (w64_nat _ (by omega))), trivial⟩ ⟨⟨rfl, rfl, .inr (op_set (List.length_map _) (NLss_map' _) (congrArg (LV.sl 2 0) (by simp only [List.length_append, List.length_map]; rfl)))⟩, rfl, rfl, ⟨⟨rfl, rfl, .inl ⟨(Eq.trans (show _ = (c.map bC) ++ [opB x].map bC from rfl) (List.map_append (f := bC) (l₁ := c) (l₂ := [opB x])).symm), NLss_app (NLss_map' _) nlT⟩⟩, rfl, rfl, trivial⟩⟩ rfl (K2 _ rfl)
      ·exact (Bool.false_ne_true (hc5.symm.trans hd3)).elim
    ·exact (Bool.false_ne_true (hc2.symm.trans hd2)).elim
   ·exact (Bool.false_ne_true (hc.symm.trans hd)).elim
end Go.RX
