/- Plain functions, and what says that the program's functions compute them. -/
import Derived.Test.YtknjenjjhdhemaaGreatUf
import Derived.Test.YtknjenjjhdhemaaGreatVi
set_option linter.unusedVariables false
set_option linter.unusedSimpArgs false
open Go Go.RX Go.Proofs
namespace Go.RX
set_option maxRecDepth 10000
set_option maxHeartbeats 4000000
attribute [local irreducible] CallW CallP LoopW W IntKind.wrap bitI
theorem ke_42 (a b : En) : eqL TT 8 42 ((fun z : En => (LV.agg [(I z.Mac), (I z.Port), (I z.Seen), (LV.bool z.Static)])) a) ((fun z : En => (LV.agg [(I z.Mac), (I z.Port), (I z.Seen), (LV.bool z.Static)])) b) = some (decide (a = b)) := by
 refine (show eqL TT 8 42 ((fun z : En => (LV.agg [(I z.Mac), (I z.Port), (I z.Seen), (LV.bool z.Static)])) a) ((fun z : En => (LV.agg [(I z.Mac), (I z.Port), (I z.Seen), (LV.bool z.Static)])) b) = some ((decide (a.Mac = b.Mac)) && ((decide (a.Port = b.Port)) && ((decide (a.Seen = b.Seen)) && ((a.Static == b.Static) && true)))) from rfl).trans (congrArg some ?_)
 rw [Bool.eq_iff_iff]
 cases a; cases b; simp [En.mk.injEq, ba_beq]

def fdb_Sweep_1_x (a0 : En) (a1 : (List (En × Bool))) : Option Bool :=
 some (!(mget a1 a0 false))

theorem w_fdb_Sweep_1_x (a0 : En) (a1 : (List (En × Bool))) (r : Bool) (h : fdb_Sweep_1_x a0 a1 = some r) : CallW Tryz.prog 30 [(LV.agg [(I a0.Mac), (I a0.Port), (I a0.Seen), (LV.bool a0.Static)]), (LV.ptr 0 0 0)] ⟨2, [(0, (.row 52 1 [[(LV.map 1)]])), (1, (.mp (a1.map (mpC (fun z : En => (LV.agg [(I z.Mac), (I z.Port), (I z.Seen), (LV.bool z.Static)])) (fun z : Bool => (LV.bool z))))))]⟩ (fun lv H' => lv = (LV.bool r) ∧ H' = ⟨2, [(0, (.row 52 1 [[(LV.map 1)]])), (1, (.mp (a1.map (mpC (fun z : En => (LV.agg [(I z.Mac), (I z.Port), (I z.Seen), (LV.bool z.Static)])) (fun z : Bool => (LV.bool z))))))]⟩) := by
 unfold fdb_Sweep_1_x at h
 refine CallW.shrinkR (CallW.intro TT_ok Tryz.func30 rfl rfl [0, 1, 2, 3] rfl ?_)
 conv => whnf
 rcases m3_ : mfind a1 a0 with _ | ⟨w3_, u3_⟩
 ·try simp only [mget_none m3_, mput_none m3_, mhas_none m3_, mget_mput] at h
  have e := Option.some.inj h
  subst e
  repeat' first | exact rA _ | exact ⟨[(0, 0), (1, 1)], 2, [(0, (.row 52 1 [[(LV.map 1)]])), (1, (.mp (a1.map (mpC (fun z : En => (LV.agg [(I z.Mac), (I z.Port), (I z.Seen), (LV.bool z.Static)])) (fun z : Bool => (LV.bool z))))))], rfl, ⟨⟨rfl, rfl, .inr rfl⟩, rfl, rfl, ⟨.inl ⟨rfl, (NL_mp (fun _ => by repeat' first | exact True.intro | refine ⟨?_, ?_⟩) (fun _ => by repeat' first | exact True.intro | refine ⟨?_, ?_⟩) _)⟩, rfl, rfl, trivial⟩⟩, rfl, rfl, rfl, rfl⟩ | (refine ⟨_, (finds_none (g := (fun z : Bool => (LV.bool z))) ke_42 m3_), ?_⟩; conv => whnf) | exact clA _ | (refine And.intro ?_ ?_ <;> conv => whnf) | exact clH _ | (refine gand ?_ h; assumption) | exact clN _ | exact clL _ | fail
 ·try simp only [mget_some m3_, mput_some m3_, mhas_some m3_, mget_mput] at h
  have e := Option.some.inj h
  subst e
  repeat' first | exact rA _ | exact ⟨[(0, 0), (1, 1)], 2, [(0, (.row 52 1 [[(LV.map 1)]])), (1, (.mp (a1.map (mpC (fun z : En => (LV.agg [(I z.Mac), (I z.Port), (I z.Seen), (LV.bool z.Static)])) (fun z : Bool => (LV.bool z))))))], rfl, ⟨⟨rfl, rfl, .inr rfl⟩, rfl, rfl, ⟨.inl ⟨rfl, (NL_mp (fun _ => by repeat' first | exact True.intro | refine ⟨?_, ?_⟩) (fun _ => by repeat' first | exact True.intro | refine ⟨?_, ?_⟩) _)⟩, rfl, rfl, trivial⟩⟩, rfl, rfl, rfl, rfl⟩ | (refine ⟨_, (finds_some (g := (fun z : Bool => (LV.bool z))) ke_42 m3_), ?_⟩; conv => whnf) | exact clA _ | (refine And.intro ?_ ?_ <;> conv => whnf) | exact clH _ | (refine gand ?_ h; assumption) | exact clN _ | exact clL _ | fail

def fdb_keep_1_x (a0 : En) (a1 : (List (En × Bool))) : Option Bool :=
 (fdb_Sweep_1_x a0 a1).bind fun y24 =>
 some (!y24)

theorem w_fdb_keep_1_x (a0 : En) (a1 : (List (En × Bool))) (r : Bool) (h : fdb_keep_1_x a0 a1 = some r) : CallW Tryz.prog 57 [(LV.agg [(I a0.Mac), (I a0.Port), (I a0.Seen), (LV.bool a0.Static)]), (LV.ptr 0 0 0)] ⟨3, [(0, (.row 44 1 [[(LV.func (.func 30) [] [(LV.ptr 1 0 0)])]])), (1, (.row 52 1 [[(LV.map 2)]])), (2, (.mp (a1.map (mpC (fun z : En => (LV.agg [(I z.Mac), (I z.Port), (I z.Seen), (LV.bool z.Static)])) (fun z : Bool => (LV.bool z))))))]⟩ (fun lv H' => lv = (LV.bool r) ∧ H' = ⟨3, [(0, (.row 44 1 [[(LV.func (.func 30) [] [(LV.ptr 1 0 0)])]])), (1, (.row 52 1 [[(LV.map 2)]])), (2, (.mp (a1.map (mpC (fun z : En => (LV.agg [(I z.Mac), (I z.Port), (I z.Seen), (LV.bool z.Static)])) (fun z : Bool => (LV.bool z))))))]⟩) := by
 unfold fdb_keep_1_x at h
 refine CallW.shrinkR (CallW.intro TT_ok Tryz.func57 rfl rfl [0, 1, 2, 3, 999999] rfl ?_)
 conv => whnf
 replace h := bindS h
 obtain ⟨y24, hy24, h⟩ := h
 have c25 : CallW Tryz.prog 30 [(LV.agg [(I a0.Mac), (I a0.Port), (I a0.Seen), (LV.bool a0.Static)]), (LV.ptr 0 0 0)] ⟨2, [(0, (.row 52 1 [[(LV.map 1)]])), (1, (.mp (a1.map (mpC (fun z : En => (LV.agg [(I z.Mac), (I z.Port), (I z.Seen), (LV.bool z.Static)])) (fun z : Bool => (LV.bool z))))))]⟩ (fun lv H' => lv = (LV.bool y24) ∧ H' = ⟨2, [(0, (.row 52 1 [[(LV.map 1)]])), (1, (.mp (a1.map (mpC (fun z : En => (LV.agg [(I z.Mac), (I z.Port), (I z.Seen), (LV.bool z.Static)])) (fun z : Bool => (LV.bool z))))))]⟩) := w_fdb_Sweep_1_x a0 a1 _ hy24
 have e := Option.some.inj h
 subst e
 repeat' first | exact rA _ | exact ⟨[(0, 0), (1, 1), (2, 2)], 3, [(0, (.row 44 1 [[(LV.func (.func 30) [] [(LV.ptr 1 0 0)])]])), (1, (.row 52 1 [[(LV.map 2)]])), (2, (.mp (a1.map (mpC (fun z : En => (LV.agg [(I z.Mac), (I z.Port), (I z.Seen), (LV.bool z.Static)])) (fun z : Bool => (LV.bool z))))))], rfl, ⟨⟨rfl, rfl, .inr rfl⟩, rfl, rfl, ⟨⟨rfl, rfl, .inr rfl⟩, rfl, rfl, ⟨.inl ⟨rfl, (NL_mp (fun _ => by repeat' first | exact True.intro | refine ⟨?_, ?_⟩) (fun _ => by repeat' first | exact True.intro | refine ⟨?_, ?_⟩) _)⟩, rfl, rfl, trivial⟩⟩⟩, rfl, rfl, rfl, rfl⟩ | (refine CallW.frame (nx2 := 4) (l2 := [(1, (.row 52 1 [[(LV.map 2)]])), (2, (.mp (a1.map (mpC (fun z : En => (LV.agg [(I z.Mac), (I z.Port), (I z.Seen), (LV.bool z.Static)])) (fun z : Bool => (LV.bool z))))))]) [(1, 0), (2, 1)] [(0, 1), (1, 2)] c25 rfl rfl ⟨⟨rfl, rfl, .inr rfl⟩, rfl, rfl, ⟨.inl ⟨rfl, (NL_mp (fun _ => by repeat' first | exact True.intro | refine ⟨?_, ?_⟩) (fun _ => by repeat' first | exact True.intro | refine ⟨?_, ?_⟩) _)⟩, rfl, rfl, trivial⟩⟩ rfl rfl ⟨⟨rfl, rfl, .inr rfl⟩, rfl, rfl, ⟨.inl ⟨rfl, (NL_mp (fun _ => by repeat' first | exact True.intro | refine ⟨?_, ?_⟩) (fun _ => by repeat' first | exact True.intro | refine ⟨?_, ?_⟩) _)⟩, rfl, rfl, trivial⟩⟩ ?_; conv => whnf) | exact clA _ | (refine And.intro ?_ ?_ <;> conv => whnf) | exact clH _ | (refine gand ?_ h; assumption) | exact clN _ | exact clL _ | fail

def slices_IndexFunc_Entry_x_c0 (a0 : (List En)) (a1 : (List (En × Bool))) (k23 : Nat) (s23 : Unit) : Option (Step Int Unit) :=
 grd ((0 : Int) ≤ ((k23 : Nat) : Int) ∧ ((k23 : Nat) : Int) < ((a0.length : Nat) : Int)) <|
 (gixN a0 (((k23 : Nat) : Int) : Int).toNat).bind fun v22 =>
 (fdb_keep_1_x v22 a1).bind fun y24 =>
 (bif y24 then
  some (.ret ((k23 : Nat) : Int))
 else
  some (.nxt ()))

def slices_IndexFunc_Entry_x (a0 : (List En)) (a1 : (List (En × Bool))) : Option Int :=
 aft (rangeN (slices_IndexFunc_Entry_x_c0 a0 a1) ((a0.length : Nat) : Int) ()) fun s23 =>
 some (-1)

theorem w_slices_IndexFunc_Entry_x (a0 : (List En)) (a1 : (List (En × Bool))) (r : Int) (h : slices_IndexFunc_Entry_x a0 a1 = some r) : CallW Tryz.prog 70 [(LV.sl 0 0 (a0.map EnC).length), (LV.func (.func 57) [] [(LV.ptr 1 0 0)])] ⟨4, [(0, (.row 42 4 (a0.map EnC))), (1, (.row 44 1 [[(LV.func (.func 30) [] [(LV.ptr 2 0 0)])]])), (2, (.row 52 1 [[(LV.map 3)]])), (3, (.mp (a1.map (mpC (fun z : En => (LV.agg [(I z.Mac), (I z.Port), (I z.Seen), (LV.bool z.Static)])) (fun z : Bool => (LV.bool z))))))]⟩ (fun lv H' => lv = (I r) ∧ H' = ⟨4, [(0, (.row 42 4 (a0.map EnC))), (1, (.row 44 1 [[(LV.func (.func 30) [] [(LV.ptr 2 0 0)])]])), (2, (.row 52 1 [[(LV.map 3)]])), (3, (.mp (a1.map (mpC (fun z : En => (LV.agg [(I z.Mac), (I z.Port), (I z.Seen), (LV.bool z.Static)])) (fun z : Bool => (LV.bool z))))))]⟩) := by
 unfold slices_IndexFunc_Entry_x at h
 refine CallW.shrinkR (CallW.intro TT_ok Tryz.func70 rfl rfl [0, 1, 4, 5, 7, 8, 9, 16, 999999] rfl ?_)
 conv => whnf
 repeat' first | exact rA _ | refine parkI ?_ | (refine And.intro ?_ ?_ <;> conv => whnf) | exact clL _ | fail
 replace h := aftS h
 obtain ⟨O23, hO23, r23⟩ := h
 refine LoopW.norm [(0, (LV.sl 0 0 (a0.map EnC).length)), (1, (LV.func (.func 57) [] [(LV.ptr 1 0 0)])), (7, (I (((a0.map EnC).length : Nat) : Int))), (8, (I ((0 : Nat) : Int)))] 4 [(0, (.row 42 4 (a0.map EnC))), (1, (.row 44 1 [[(LV.func (.func 30) [] [(LV.ptr 2 0 0)])]])), (2, (.row 52 1 [[(LV.map 3)]])), (3, (.mp (a1.map (mpC (fun z : En => (LV.agg [(I z.Mac), (I z.Port), (I z.Seen), (LV.bool z.Static)])) (fun z : Bool => (LV.bool z))))))] ⟨rfl, rfl, rfl, rfl, trivial⟩ ⟨⟨rfl, rfl, NLss_bel (NLss_map' _)⟩, ⟨⟨rfl, rfl, blT⟩, ⟨⟨rfl, rfl, blT⟩, ⟨⟨rfl, rfl, bel_mp (f := (fun z : En => (LV.agg [(I z.Mac), (I z.Port), (I z.Seen), (LV.bool z.Static)]))) (g := (fun z : Bool => (LV.bool z))) (fun _ => by repeat' first | exact True.intro | refine ⟨?_, ?_⟩) (fun _ => by repeat' first | exact True.intro | refine ⟨?_, ?_⟩) _ _⟩, trivial⟩⟩⟩⟩ blT rfl ?_
 refine LoopW.forN (fun k23 s23 => [(0, (LV.sl 0 0 (a0.map EnC).length)), (1, (LV.func (.func 57) [] [(LV.ptr 1 0 0)])), (7, (I (((a0.map EnC).length : Nat) : Int))), (8, (I ((k23 : Nat) : Int)))]) (fun s23 => ⟨4, [(0, (.row 42 4 (a0.map EnC))), (1, (.row 44 1 [[(LV.func (.func 30) [] [(LV.ptr 2 0 0)])]])), (2, (.row 52 1 [[(LV.map 3)]])), (3, (.mp (a1.map (mpC (fun z : En => (LV.agg [(I z.Mac), (I z.Port), (I z.Seen), (LV.bool z.Static)])) (fun z : Bool => (LV.bool z))))))]⟩) hO23 (fun hl23 s23 hs23 => ?_) (fun hl23 k23 s23 o23 hk23 b23 K23 hret23 hbrk23 => ?_)
 ·rw [hs23] at r23
  dsimp only [aftM] at r23
  have hd : decide ((((((a0.length : Nat) : Int) : Int).toNat : Nat) : Int) < (((a0.map EnC).length : Nat) : Int)) = false := by rw [decide_eq_false_iff_not]; (try simp only [se_len, se_ch, List.length_map]); omega
  refine LoopW.round TT_ok [0, 1, 4, 5, 7, 8, 9, 16, 999999] ?_
  conv => whnf
  repeat' first | exact rA _ | refine parkI ?_ | (refine And.intro ?_ ?_ <;> conv => whnf) | exact clL _ | fail
  refine parkE (fun hc => ?_) (fun hc => ?_)
  ·exact (Bool.false_ne_true (hd.symm.trans hc)).elim
  ·clear hd
   conv => whnf
   have e := Option.some.inj r23
   subst e
   repeat' first | exact rA _ | exact ⟨[(0, 0), (1, 1), (2, 2), (3, 3)], 4, [(0, (.row 42 4 (a0.map EnC))), (1, (.row 44 1 [[(LV.func (.func 30) [] [(LV.ptr 2 0 0)])]])), (2, (.row 52 1 [[(LV.map 3)]])), (3, (.mp (a1.map (mpC (fun z : En => (LV.agg [(I z.Mac), (I z.Port), (I z.Seen), (LV.bool z.Static)])) (fun z : Bool => (LV.bool z))))))], rfl, ⟨⟨rfl, rfl, .inl ⟨rfl, nlT⟩⟩, rfl, rfl, ⟨⟨rfl, rfl, .inr rfl⟩, rfl, rfl, ⟨⟨rfl, rfl, .inr rfl⟩, rfl, rfl, ⟨.inl ⟨rfl, (NL_mp (fun _ => by repeat' first | exact True.intro | refine ⟨?_, ?_⟩) (fun _ => by repeat' first | exact True.intro | refine ⟨?_, ?_⟩) _)⟩, rfl, rfl, trivial⟩⟩⟩⟩, rfl, rfl, rfl, rfl⟩ | exact clA _ | (refine And.intro ?_ ?_ <;> conv => whnf) | exact clH _ | (refine gand ?_ h; assumption) | exact clN _ | exact clL _ | fail
 ·unfold slices_IndexFunc_Entry_x_c0 at b23
  have hd : decide (((k23 : Nat) : Int) < (((a0.map EnC).length : Nat) : Int)) = true := by rw [decide_eq_true_eq]; (try simp only [se_len, se_ch, List.length_map] at hk23); (try simp only [se_len, se_ch, List.length_map]); omega
  refine LoopW.round TT_ok [0, 1, 4, 5, 7, 8, 9, 16, 999999] ?_
  conv => whnf
  repeat' first | exact rA _ | refine parkI ?_ | (refine And.intro ?_ ?_ <;> conv => whnf) | exact clL _ | fail
  refine parkE (fun hc => ?_) (fun hc => ?_)
  ·clear hd
   conv => whnf
   replace b23 := grdS b23
   obtain ⟨g21, b23⟩ := b23
   replace g21 : (0 : Int) ≤ ((k23 : Nat) : Int) ∧ ((k23 : Nat) : Int) < (((a0.map EnC).length : Nat) : Int) := by simpa only [se_len, se_ch, List.length_map] using g21
   replace b23 := bindS b23
   obtain ⟨v22, hv22, b23⟩ := b23
   have i23 : nth (a0.map EnC) (0 + ((((k23 : Nat) : Int) : Int).toNat)) = some [(I v22.Mac), (I v22.Port), (I v22.Seen), (LV.bool v22.Static)] := by simpa only [se_map, se_len, se_ch, List.length_map, nth_eq, Nat.zero_add, List.getElem?_map] using gixNF (f := EnC) hv22
   replace b23 := bindS b23
   obtain ⟨y24, hy24, b23⟩ := b23
   have c25 : CallW Tryz.prog 57 [(LV.agg [(I v22.Mac), (I v22.Port), (I v22.Seen), (LV.bool v22.Static)]), (LV.ptr 0 0 0)] ⟨3, [(0, (.row 44 1 [[(LV.func (.func 30) [] [(LV.ptr 1 0 0)])]])), (1, (.row 52 1 [[(LV.map 2)]])), (2, (.mp (a1.map (mpC (fun z : En => (LV.agg [(I z.Mac), (I z.Port), (I z.Seen), (LV.bool z.Static)])) (fun z : Bool => (LV.bool z))))))]⟩ (fun lv H' => lv = (LV.bool y24) ∧ H' = ⟨3, [(0, (.row 44 1 [[(LV.func (.func 30) [] [(LV.ptr 1 0 0)])]])), (1, (.row 52 1 [[(LV.map 2)]])), (2, (.mp (a1.map (mpC (fun z : En => (LV.agg [(I z.Mac), (I z.Port), (I z.Seen), (LV.bool z.Static)])) (fun z : Bool => (LV.bool z))))))]⟩) := w_fdb_keep_1_x v22 a1 _ hy24
   repeat' first | exact rA _ | refine parkI ?_ | exact g21 | (rw [i23]; conv => whnf) | (refine CallW.frame (nx2 := 4) (l2 := [(1, (.row 44 1 [[(LV.func (.func 30) [] [(LV.ptr 2 0 0)])]])), (2, (.row 52 1 [[(LV.map 3)]])), (3, (.mp (a1.map (mpC (fun z : En => (LV.agg [(I z.Mac), (I z.Port), (I z.Seen), (LV.bool z.Static)])) (fun z : Bool => (LV.bool z))))))]) [(1, 0), (2, 1), (3, 2)] [(0, 1), (1, 2), (2, 3)] c25 rfl rfl ⟨⟨rfl, rfl, .inr rfl⟩, rfl, rfl, ⟨⟨rfl, rfl, .inr rfl⟩, rfl, rfl, ⟨.inl ⟨rfl, (NL_mp (fun _ => by repeat' first | exact True.intro | refine ⟨?_, ?_⟩) (fun _ => by repeat' first | exact True.intro | refine ⟨?_, ?_⟩) _)⟩, rfl, rfl, trivial⟩⟩⟩ rfl rfl ⟨⟨rfl, rfl, .inr rfl⟩, rfl, rfl, ⟨⟨rfl, rfl, .inr rfl⟩, rfl, rfl, ⟨.inl ⟨rfl, (NL_mp (fun _ => by repeat' first | exact True.intro | refine ⟨?_, ?_⟩) (fun _ => by repeat' first | exact True.intro | refine ⟨?_, ?_⟩) _)⟩, rfl, rfl, trivial⟩⟩⟩ ?_; conv => whnf) | exact clA _ | (refine And.intro ?_ ?_ <;> conv => whnf) | exact clN _ | exact clL _ | fail
   refine parkE (fun hc => ?_) (fun hc => ?_)
   ·replace b23 := condT hc b23
    conv => whnf
    have e := Option.some.inj b23
    replace e := hret23 _ e.symm
    rw [e] at r23
    replace e := Option.some.inj r23
    subst e
    repeat' first | exact rA _ | exact ⟨[(0, 0), (1, 1), (2, 2), (3, 3)], 4, [(0, (.row 42 4 (a0.map EnC))), (1, (.row 44 1 [[(LV.func (.func 30) [] [(LV.ptr 2 0 0)])]])), (2, (.row 52 1 [[(LV.map 3)]])), (3, (.mp (a1.map (mpC (fun z : En => (LV.agg [(I z.Mac), (I z.Port), (I z.Seen), (LV.bool z.Static)])) (fun z : Bool => (LV.bool z))))))], rfl, ⟨⟨rfl, rfl, .inl ⟨rfl, nlT⟩⟩, rfl, rfl, ⟨⟨rfl, rfl, .inr rfl⟩, rfl, rfl, ⟨⟨rfl, rfl, .inr rfl⟩, rfl, rfl, ⟨.inl ⟨rfl, (NL_mp (fun _ => by repeat' first | exact True.intro | refine ⟨?_, ?_⟩) (fun _ => by repeat' first | exact True.intro | refine ⟨?_, ?_⟩) _)⟩, rfl, rfl, trivial⟩⟩⟩⟩, rfl, rfl, rfl, rfl⟩ | exact clA _ | (refine And.intro ?_ ?_ <;> conv => whnf) | exact clH _ | (refine gand ?_ h; assumption) | exact clN _ | exact clL _ | fail
   ·replace b23 := condF hc b23
    conv => whnf
    repeat' first | exact rA _ | refine parkI ?_ | (refine And.intro ?_ ?_ <;> conv => whnf) | exact clL _ | fail
    have e := Option.some.inj b23
    refine LoopW.norm [(0, (LV.sl 0 0 (a0.map EnC).length)), (1, (LV.func (.func 57) [] [(LV.ptr 1 0 0)])), (7, (I (((a0.map EnC).length : Nat) : Int))), (8, (I ((k23 + 1 : Nat) : Int)))] 4 [(0, (.row 42 4 (a0.map EnC))), (1, (.row 44 1 [[(LV.func (.func 30) [] [(LV.ptr 2 0 0)])]])), (2, (.row 52 1 [[(LV.map 3)]])), (3, (.mp (a1.map (mpC (fun z : En => (LV.agg [(I z.Mac), (I z.Port), (I z.Seen), (LV.bool z.Static)])) (fun z : Bool => (LV.bool z))))))] ⟨rfl, rfl, rfl, (congrArg (LV.int .i64) (w64_nat _ (by omega))), trivial⟩ ⟨⟨rfl, rfl, NLss_bel (NLss_map' _)⟩, ⟨⟨rfl, rfl, blT⟩, ⟨⟨rfl, rfl, blT⟩, ⟨⟨rfl, rfl, bel_mp (f := (fun z : En => (LV.agg [(I z.Mac), (I z.Port), (I z.Seen), (LV.bool z.Static)]))) (g := (fun z : Bool => (LV.bool z))) (fun _ => by repeat' first | exact True.intro | refine ⟨?_, ?_⟩) (fun _ => by repeat' first | exact True.intro | refine ⟨?_, ?_⟩) _ _⟩, trivial⟩⟩⟩⟩ blT rfl (K23 _ e.symm)
  ·exact (Bool.false_ne_true (hc.symm.trans hd)).elim

def slices_DeleteFunc_Entry_x_c0 (a1 : (List (En × Bool))) (s23 : (Int × Int × (List En))) : Option (Step (List En) (Int × Int × (List En))) :=
 (bif (decide (s23.2.1 < ((s23.2.2.length : Nat) : Int))) then
  grd ((0 : Int) ≤ s23.2.1 ∧ s23.2.1 < ((s23.2.2.length : Nat) : Int)) <|
  (gixN s23.2.2 (s23.2.1 : Int).toNat).bind fun v24 =>
  (fdb_keep_1_x v24 a1).bind fun y26 =>
  (bif (!y26) then
   grd ((0 : Int) ≤ s23.1 ∧ s23.1 < ((s23.2.2.length : Nat) : Int)) <|
   (gixN s23.2.2 (s23.1 : Int).toNat).bind fun v29 =>
   some (.nxt ((IntKind.i64.wrap (s23.1 + 1)), (IntKind.i64.wrap (s23.2.1 + 1)), (s23.2.2.set (s23.1 : Int).toNat v24)))
  else
   some (.nxt (s23.1, (IntKind.i64.wrap (s23.2.1 + 1)), s23.2.2)))
 else
  some (.brk (s23.1, s23.2.1, s23.2.2)))

def slices_DeleteFunc_Entry_x (a0 : (List En)) (a1 : (List (En × Bool))) : Option (List En) :=
 (slices_IndexFunc_Entry_x a0 a1).bind fun y21 =>
 (bif (decide (y21 = (-1))) then
  some a0
 else
  aft (loopF 1000000 (slices_DeleteFunc_Entry_x_c0 a1) (y21, (IntKind.i64.wrap (y21 + 1)), a0)) fun s23 =>
  grd ((0 : Int) ≤ s23.1 ∧ s23.1 < ((s23.2.2.length : Nat) : Int)) <|
  grd ((0 : Int) ≤ s23.1 ∧ s23.1 ≤ ((s23.2.2.length : Nat) : Int)) <|
  some (s23.2.2.take (s23.1 : Int).toNat))

theorem w_slices_DeleteFunc_Entry_x (a0 : (List En)) (a1 : (List (En × Bool))) (r : (List En)) (h : slices_DeleteFunc_Entry_x a0 a1 = some r) : CallW Tryz.prog 56 [(LV.sl 0 0 (a0.map EnC).length), (LV.func (.func 57) [] [(LV.ptr 1 0 0)])] ⟨4, [(0, (.row 42 4 (a0.map EnC))), (1, (.row 44 1 [[(LV.func (.func 30) [] [(LV.ptr 2 0 0)])]])), (2, (.row 52 1 [[(LV.map 3)]])), (3, (.mp (a1.map (mpC (fun z : En => (LV.agg [(I z.Mac), (I z.Port), (I z.Seen), (LV.bool z.Static)])) (fun z : Bool => (LV.bool z))))))]⟩ (fun lv H' => lv = (LV.sl 4 0 (r.map EnC).length) ∧ H' = ⟨5, [(4, (.row 42 4 (r.map EnC))), (1, (.row 44 1 [[(LV.func (.func 30) [] [(LV.ptr 2 0 0)])]])), (2, (.row 52 1 [[(LV.map 3)]])), (3, (.mp (a1.map (mpC (fun z : En => (LV.agg [(I z.Mac), (I z.Port), (I z.Seen), (LV.bool z.Static)])) (fun z : Bool => (LV.bool z))))))]⟩) := by
 unfold slices_DeleteFunc_Entry_x at h
 refine CallW.shrinkR (CallW.intro TT_ok Tryz.func56 rfl rfl [0, 1, 4, 5, 6, 7, 12, 19, 29, 999999, 1000070] rfl ?_)
 conv => whnf
 replace h := bindS h
 obtain ⟨y21, hy21, h⟩ := h
 have c22 : CallW Tryz.prog 70 [(LV.sl 0 0 (a0.map EnC).length), (LV.func (.func 57) [] [(LV.ptr 1 0 0)])] ⟨4, [(0, (.row 42 4 (a0.map EnC))), (1, (.row 44 1 [[(LV.func (.func 30) [] [(LV.ptr 2 0 0)])]])), (2, (.row 52 1 [[(LV.map 3)]])), (3, (.mp (a1.map (mpC (fun z : En => (LV.agg [(I z.Mac), (I z.Port), (I z.Seen), (LV.bool z.Static)])) (fun z : Bool => (LV.bool z))))))]⟩ (fun lv H' => lv = (I y21) ∧ H' = ⟨4, [(0, (.row 42 4 (a0.map EnC))), (1, (.row 44 1 [[(LV.func (.func 30) [] [(LV.ptr 2 0 0)])]])), (2, (.row 52 1 [[(LV.map 3)]])), (3, (.mp (a1.map (mpC (fun z : En => (LV.agg [(I z.Mac), (I z.Port), (I z.Seen), (LV.bool z.Static)])) (fun z : Bool => (LV.bool z))))))]⟩) := w_slices_IndexFunc_Entry_x a0 a1 _ hy21
 repeat' first | exact rA _ | refine parkI ?_ | (refine CallW.frame (nx2 := 4) (l2 := [(0, (.row 42 4 (a0.map EnC))), (1, (.row 44 1 [[(LV.func (.func 30) [] [(LV.ptr 2 0 0)])]])), (2, (.row 52 1 [[(LV.map 3)]])), (3, (.mp (a1.map (mpC (fun z : En => (LV.agg [(I z.Mac), (I z.Port), (I z.Seen), (LV.bool z.Static)])) (fun z : Bool => (LV.bool z))))))]) [(0, 0), (1, 1), (2, 2), (3, 3)] [(0, 0), (1, 1), (2, 2), (3, 3)] c22 rfl rfl ⟨⟨rfl, rfl, .inl ⟨rfl, nlT⟩⟩, rfl, rfl, ⟨⟨rfl, rfl, .inr rfl⟩, rfl, rfl, ⟨⟨rfl, rfl, .inr rfl⟩, rfl, rfl, ⟨.inl ⟨rfl, (NL_mp (fun _ => by repeat' first | exact True.intro | refine ⟨?_, ?_⟩) (fun _ => by repeat' first | exact True.intro | refine ⟨?_, ?_⟩) _)⟩, rfl, rfl, trivial⟩⟩⟩⟩ rfl rfl ⟨⟨rfl, rfl, .inl ⟨rfl, nlT⟩⟩, rfl, rfl, ⟨⟨rfl, rfl, .inr rfl⟩, rfl, rfl, ⟨⟨rfl, rfl, .inr rfl⟩, rfl, rfl, ⟨.inl ⟨rfl, (NL_mp (fun _ => by repeat' first | exact True.intro | refine ⟨?_, ?_⟩) (fun _ => by repeat' first | exact True.intro | refine ⟨?_, ?_⟩) _)⟩, rfl, rfl, trivial⟩⟩⟩⟩ ?_; conv => whnf) | exact clA _ | (refine And.intro ?_ ?_ <;> conv => whnf) | exact clN _ | exact clL _ | fail
 refine parkE (fun hc => ?_) (fun hc => ?_)
 ·replace h := condT hc h
  conv => whnf
  have e := Option.some.inj h
  subst e
  repeat' first | exact rA _ | exact ⟨[(0, 4), (1, 1), (2, 2), (3, 3)], 5, [(4, (.row 42 4 (a0.map EnC))), (1, (.row 44 1 [[(LV.func (.func 30) [] [(LV.ptr 2 0 0)])]])), (2, (.row 52 1 [[(LV.map 3)]])), (3, (.mp (a1.map (mpC (fun z : En => (LV.agg [(I z.Mac), (I z.Port), (I z.Seen), (LV.bool z.Static)])) (fun z : Bool => (LV.bool z))))))], rfl, ⟨⟨rfl, rfl, .inl ⟨rfl, nlT⟩⟩, rfl, rfl, ⟨⟨rfl, rfl, .inr rfl⟩, rfl, rfl, ⟨⟨rfl, rfl, .inr rfl⟩, rfl, rfl, ⟨.inl ⟨rfl, (NL_mp (fun _ => by repeat' first | exact True.intro | refine ⟨?_, ?_⟩) (fun _ => by repeat' first | exact True.intro | refine ⟨?_, ?_⟩) _)⟩, rfl, rfl, trivial⟩⟩⟩⟩, rfl, rfl, rfl, rfl⟩ | exact clA _ | (refine And.intro ?_ ?_ <;> conv => whnf) | exact clH _ | (refine gand ?_ h; assumption) | exact clN _ | exact clL _ | fail
 ·replace h := condF hc h
  conv => whnf
  repeat' first | exact rA _ | refine parkI ?_ | (refine And.intro ?_ ?_ <;> conv => whnf) | exact clL _ | fail
  replace h := aftS h
  obtain ⟨O23, hO23, r23⟩ := h
  refine LoopW.norm [(0, (LV.sl 0 0 (a0.map EnC).length)), (1, (LV.func (.func 57) [] [(LV.ptr 1 0 0)])), (5, (I y21)), (6, (I (IntKind.i64.wrap (y21 + 1))))] 4 [(0, (.row 42 4 (a0.map EnC))), (1, (.row 44 1 [[(LV.func (.func 30) [] [(LV.ptr 2 0 0)])]])), (2, (.row 52 1 [[(LV.map 3)]])), (3, (.mp (a1.map (mpC (fun z : En => (LV.agg [(I z.Mac), (I z.Port), (I z.Seen), (LV.bool z.Static)])) (fun z : Bool => (LV.bool z))))))] ⟨(by exact congrArg (LV.sl 0 0) (clL _ : (a0.map EnC).length = (a0.map EnC).length)), rfl, (smT : ((I y21) : LV) = (I y21)), (smT : ((I (IntKind.i64.wrap (y21 + 1))) : LV) = (I (IntKind.i64.wrap (y21 + 1)))), trivial⟩ ⟨⟨(congrArg (fun q => some (Blk.row 42 4 q)) (smT : ((a0.map EnC) : List (List LV)) = (a0.map EnC))), rfl, NLss_bel (NLss_map' _)⟩, ⟨⟨rfl, rfl, blT⟩, ⟨⟨rfl, rfl, blT⟩, ⟨⟨rfl, rfl, bel_mp (f := (fun z : En => (LV.agg [(I z.Mac), (I z.Port), (I z.Seen), (LV.bool z.Static)]))) (g := (fun z : Bool => (LV.bool z))) (fun _ => by repeat' first | exact True.intro | refine ⟨?_, ?_⟩) (fun _ => by repeat' first | exact True.intro | refine ⟨?_, ?_⟩) _ _⟩, trivial⟩⟩⟩⟩ blT rfl ?_
  refine LoopW.forF (fun s23 => [(0, (LV.sl 0 0 (s23.2.2.map EnC).length)), (1, (LV.func (.func 57) [] [(LV.ptr 1 0 0)])), (5, (I s23.1)), (6, (I s23.2.1))]) (fun s23 => ⟨4, [(0, (.row 42 4 (s23.2.2.map EnC))), (1, (.row 44 1 [[(LV.func (.func 30) [] [(LV.ptr 2 0 0)])]])), (2, (.row 52 1 [[(LV.map 3)]])), (3, (.mp (a1.map (mpC (fun z : En => (LV.agg [(I z.Mac), (I z.Port), (I z.Seen), (LV.bool z.Static)])) (fun z : Bool => (LV.bool z))))))]⟩) hO23 (fun s23 o23 b23 K23 hret23 hbrk23 => ?_)
  unfold slices_DeleteFunc_Entry_x_c0 at b23
  refine LoopW.round TT_ok [0, 1, 4, 5, 6, 7, 12, 19, 29, 999999, 1000070] ?_
  conv => whnf
  repeat' first | exact rA _ | refine parkI ?_ | (refine And.intro ?_ ?_ <;> conv => whnf) | exact clL _ | fail
  refine parkE (fun hc => ?_) (fun hc => ?_)
  ·replace b23 := condT (by first | exact hc | (simpa only [se_len, se_ch, List.length_map] using hc; done) | (have h0 : (decide (s23.2.1 < (((s23.2.2.map EnC).length : Nat) : Int))) = true := hc; simpa only [se_len, se_ch, List.length_map] using h0)) b23
   conv => whnf
   replace b23 := grdS b23
   obtain ⟨g23, b23⟩ := b23
   replace g23 : (0 : Int) ≤ s23.2.1 ∧ s23.2.1 < (((s23.2.2.map EnC).length : Nat) : Int) := by simpa only [se_len, se_ch, List.length_map] using g23
   replace b23 := bindS b23
   obtain ⟨v24, hv24, b23⟩ := b23
   have i25 : nth (s23.2.2.map EnC) (0 + ((s23.2.1 : Int).toNat)) = some [(I v24.Mac), (I v24.Port), (I v24.Seen), (LV.bool v24.Static)] := by simpa only [se_map, se_len, se_ch, List.length_map, nth_eq, Nat.zero_add, List.getElem?_map] using gixNF (f := EnC) hv24
   replace b23 := bindS b23
   obtain ⟨y26, hy26, b23⟩ := b23
   have c27 : CallW Tryz.prog 57 [(LV.agg [(I v24.Mac), (I v24.Port), (I v24.Seen), (LV.bool v24.Static)]), (LV.ptr 0 0 0)] ⟨3, [(0, (.row 44 1 [[(LV.func (.func 30) [] [(LV.ptr 1 0 0)])]])), (1, (.row 52 1 [[(LV.map 2)]])), (2, (.mp (a1.map (mpC (fun z : En => (LV.agg [(I z.Mac), (I z.Port), (I z.Seen), (LV.bool z.Static)])) (fun z : Bool => (LV.bool z))))))]⟩ (fun lv H' => lv = (LV.bool y26) ∧ H' = ⟨3, [(0, (.row 44 1 [[(LV.func (.func 30) [] [(LV.ptr 1 0 0)])]])), (1, (.row 52 1 [[(LV.map 2)]])), (2, (.mp (a1.map (mpC (fun z : En => (LV.agg [(I z.Mac), (I z.Port), (I z.Seen), (LV.bool z.Static)])) (fun z : Bool => (LV.bool z))))))]⟩) := w_fdb_keep_1_x v24 a1 _ hy26
   repeat' first | exact rA _ | refine parkI ?_ | exact g23 | (rw [i25]; conv => whnf) | (refine CallW.frame (nx2 := 5) (l2 := [(1, (.row 44 1 [[(LV.func (.func 30) [] [(LV.ptr 2 0 0)])]])), (2, (.row 52 1 [[(LV.map 3)]])), (3, (.mp (a1.map (mpC (fun z : En => (LV.agg [(I z.Mac), (I z.Port), (I z.Seen), (LV.bool z.Static)])) (fun z : Bool => (LV.bool z))))))]) [(1, 0), (2, 1), (3, 2)] [(0, 1), (1, 2), (2, 3)] c27 rfl rfl ⟨⟨rfl, rfl, .inr rfl⟩, rfl, rfl, ⟨⟨rfl, rfl, .inr rfl⟩, rfl, rfl, ⟨.inl ⟨rfl, (NL_mp (fun _ => by repeat' first | exact True.intro | refine ⟨?_, ?_⟩) (fun _ => by repeat' first | exact True.intro | refine ⟨?_, ?_⟩) _)⟩, rfl, rfl, trivial⟩⟩⟩ rfl rfl ⟨⟨rfl, rfl, .inr rfl⟩, rfl, rfl, ⟨⟨rfl, rfl, .inr rfl⟩, rfl, rfl, ⟨.inl ⟨rfl, (NL_mp (fun _ => by repeat' first | exact True.intro | refine ⟨?_, ?_⟩) (fun _ => by repeat' first | exact True.intro | refine ⟨?_, ?_⟩) _)⟩, rfl, rfl, trivial⟩⟩⟩ ?_; conv => whnf) | exact clA _ | (refine And.intro ?_ ?_ <;> conv => whnf) | exact clN _ | exact clL _ | fail
   refine parkE (fun hc => ?_) (fun hc => ?_)
   ·replace b23 := condT hc b23
    conv => whnf
    replace b23 := grdS b23
    obtain ⟨g28, b23⟩ := b23
    replace g28 : (0 : Int) ≤ s23.1 ∧ s23.1 < (((s23.2.2.map EnC).length : Nat) : Int) := by simpa only [se_len, se_ch, List.length_map] using g28
    replace b23 := bindS b23
    obtain ⟨v29, hv29, b23⟩ := b23
    have i30 : nth (s23.2.2.map EnC) (0 + ((s23.1 : Int).toNat)) = some [(I v29.Mac), (I v29.Port), (I v29.Seen), (LV.bool v29.Static)] := by simpa only [se_map, se_len, se_ch, List.length_map, nth_eq, Nat.zero_add, List.getElem?_map] using gixNF (f := EnC) hv29
    repeat' first | exact rA _ | refine parkI ?_ | exact g28 | (rw [i30]; conv => whnf) | (refine And.intro ?_ ?_ <;> conv => whnf) | exact clL _ | fail
    have e := Option.some.inj b23
    refine LoopW.norm [(0, (LV.sl 0 0 ((s23.2.2.set (s23.1 : Int).toNat v24).map EnC).length)), (1, (LV.func (.func 57) [] [(LV.ptr 1 0 0)])), (5, (I (IntKind.i64.wrap (s23.1 + 1)))), (6, (I (IntKind.i64.wrap (s23.2.1 + 1))))] 4 [(0, (.row 42 4 ((s23.2.2.set (s23.1 : Int).toNat v24).map EnC))), (1, (.row 44 1 [[(LV.func (.func 30) [] [(LV.ptr 2 0 0)])]])), (2, (.row 52 1 [[(LV.map 3)]])), (3, (.mp (a1.map (mpC (fun z : En => (LV.agg [(I z.Mac), (I z.Port), (I z.Seen), (LV.bool z.Static)])) (fun z : Bool => (LV.bool z))))))] ⟨(by exact congrArg (LV.sl 0 0) (clL _ : (s23.2.2.map EnC).length = ((s23.2.2.set (s23.1 : Int).toNat v24).map EnC).length)), rfl, (smT : ((I (IntKind.i64.wrap (s23.1 + 1))) : LV) = (I (IntKind.i64.wrap (s23.1 + 1)))), (smT : ((I (IntKind.i64.wrap (s23.2.1 + 1))) : LV) = (I (IntKind.i64.wrap (s23.2.1 + 1)))), trivial⟩ ⟨⟨(congrArg (fun q => some (Blk.row 42 4 q)) (smT : ((setN (s23.2.2.map EnC) (0 + ((s23.1 : Int).toNat)) [(I v24.Mac), (I v24.Port), (I v24.Seen), (LV.bool v24.Static)]) : List (List LV)) = ((s23.2.2.set (s23.1 : Int).toNat v24).map EnC))), rfl, NLss_bel (NLss_map' _)⟩, ⟨⟨rfl, rfl, blT⟩, ⟨⟨rfl, rfl, blT⟩, ⟨⟨rfl, rfl, bel_mp (f := (fun z : En => (LV.agg [(I z.Mac), (I z.Port), (I z.Seen), (LV.bool z.Static)]))) (g := (fun z : Bool => (LV.bool z))) (fun _ => by repeat' first | exact True.intro | refine ⟨?_, ?_⟩) (fun _ => by repeat' first | exact True.intro | refine ⟨?_, ?_⟩) _ _⟩, trivial⟩⟩⟩⟩ blT rfl (K23 _ e.symm)
   ·replace b23 := condF hc b23
    conv => whnf
    repeat' first | exact rA _ | refine parkI ?_ | (refine And.intro ?_ ?_ <;> conv => whnf) | exact clL _ | fail
    have e := Option.some.inj b23
    refine LoopW.norm [(0, (LV.sl 0 0 (s23.2.2.map EnC).length)), (1, (LV.func (.func 57) [] [(LV.ptr 1 0 0)])), (5, (I s23.1)), (6, (I (IntKind.i64.wrap (s23.2.1 + 1))))] 4 [(0, (.row 42 4 (s23.2.2.map EnC))), (1, (.row 44 1 [[(LV.func (.func 30) [] [(LV.ptr 2 0 0)])]])), (2, (.row 52 1 [[(LV.map 3)]])), (3, (.mp (a1.map (mpC (fun z : En => (LV.agg [(I z.Mac), (I z.Port), (I z.Seen), (LV.bool z.Static)])) (fun z : Bool => (LV.bool z))))))] ⟨(by exact congrArg (LV.sl 0 0) (clL _ : (s23.2.2.map EnC).length = (s23.2.2.map EnC).length)), rfl, (smT : ((I s23.1) : LV) = (I s23.1)), (smT : ((I (IntKind.i64.wrap (s23.2.1 + 1))) : LV) = (I (IntKind.i64.wrap (s23.2.1 + 1)))), trivial⟩ ⟨⟨(congrArg (fun q => some (Blk.row 42 4 q)) (smT : ((s23.2.2.map EnC) : List (List LV)) = (s23.2.2.map EnC))), rfl, NLss_bel (NLss_map' _)⟩, ⟨⟨rfl, rfl, blT⟩, ⟨⟨rfl, rfl, blT⟩, ⟨⟨rfl, rfl, bel_mp (f := (fun z : En => (LV.agg [(I z.Mac), (I z.Port), (I z.Seen), (LV.bool z.Static)]))) (g := (fun z : Bool => (LV.bool z))) (fun _ => by repeat' first | exact True.intro | refine ⟨?_, ?_⟩) (fun _ => by repeat' first | exact True.intro | refine ⟨?_, ?_⟩) _ _⟩, trivial⟩⟩⟩⟩ blT rfl (K23 _ e.symm)
  ·replace b23 := condF (by first | exact hc | (simpa only [se_len, se_ch, List.length_map] using hc; done) | (have h0 : (decide (s23.2.1 < (((s23.2.2.map EnC).length : Nat) : Int))) = false := hc; simpa only [se_len, se_ch, List.length_map] using h0)) b23
   conv => whnf
   have e := Option.some.inj b23
   replace e := hbrk23 _ e.symm
   rw [e] at r23
   dsimp only [aftM] at r23
   replace r23 := grdS r23
   obtain ⟨g31, r23⟩ := r23
   replace g31 : (0 : Int) ≤ s23.1 ∧ s23.1 < (((s23.2.2.map EnC).length : Nat) : Int) := by simpa only [se_len, se_ch, List.length_map] using g31
   have l32 : (0 + (s23.1 : Int).toNat) + ((s23.2.2.map EnC).length - (s23.1 : Int).toNat) = (s23.2.2.map EnC).length := by (try simp only [se_len, se_ch, List.length_map]); (try simp only [se_len, se_ch, List.length_map] at *); omega
   replace r23 := grdS r23
   obtain ⟨g33, r23⟩ := r23
   replace g33 : (0 : Int) ≤ s23.1 ∧ s23.1 ≤ (((s23.2.2.map EnC).length : Nat) : Int) := by simpa only [se_len, se_ch, List.length_map] using g33
   have e := Option.some.inj r23
   subst e
   repeat' first | exact rA _ | exact ⟨[(0, 4), (1, 1), (2, 2), (3, 3)], 5, [(4, (.row 42 4 ((s23.2.2.take (s23.1 : Int).toNat).map EnC))), (1, (.row 44 1 [[(LV.func (.func 30) [] [(LV.ptr 2 0 0)])]])), (2, (.row 52 1 [[(LV.map 3)]])), (3, (.mp (a1.map (mpC (fun z : En => (LV.agg [(I z.Mac), (I z.Port), (I z.Seen), (LV.bool z.Static)])) (fun z : Bool => (LV.bool z))))))], rfl, ⟨⟨rfl, rfl, .inl ⟨(by first | (simp only [se_map, se_byL, se_len, se_ch, List.length_map]; done) | (simp only [se_map, se_byL, se_len, se_ch, List.length_map, Nat.zero_add]; done) : (((s23.2.2.map EnC).take (0 + (s23.1 : Int).toNat)) : List (List LV)) = ((s23.2.2.take (s23.1 : Int).toNat).map EnC)), nlT⟩⟩, rfl, rfl, ⟨⟨rfl, rfl, .inr rfl⟩, rfl, rfl, ⟨⟨rfl, rfl, .inr rfl⟩, rfl, rfl, ⟨.inl ⟨rfl, (NL_mp (fun _ => by repeat' first | exact True.intro | refine ⟨?_, ?_⟩) (fun _ => by repeat' first | exact True.intro | refine ⟨?_, ?_⟩) _)⟩, rfl, rfl, trivial⟩⟩⟩⟩, rfl, rfl, (by first | exact rfl | (show ((LV.sl 4 0 (s23.1 : Int).toNat) : LV) = (LV.sl 4 0 ((s23.2.2.take (s23.1 : Int).toNat).map EnC).length); simp only [se_map, se_byL, se_len, se_ch, List.length_map]; done) | (show ((LV.sl 4 0 (s23.1 : Int).toNat) : LV) = (LV.sl 4 0 ((s23.2.2.take (s23.1 : Int).toNat).map EnC).length); (try simp only [se_map, se_byL, se_len, se_ch, List.length_map]); first | (congr 1; (try simp only [se_len, se_ch, List.length_map] at *); omega) | (simp only [LV.agg.injEq, LV.tup.injEq, List.cons.injEq, LV.sl.injEq, true_and, and_true]; omega))), rfl⟩ | exact g31 | exact g33 | exact l32 | exact clA _ | (refine And.intro ?_ ?_ <;> conv => whnf) | exact clH _ | (refine gand ?_ h; assumption) | exact clN _ | exact clL _ | fail

def fdb_keep_x_c0 (a1 : (List (En × Bool))) (k22 : Nat) (s22 : Tb) : Option (Step Tb Tb) :=
 grd ((0 : Int) ≤ ((k22 : Nat) : Int) ∧ ((k22 : Nat) : Int) < ((s22.Buckets.length : Nat) : Int)) <|
 (gixN s22.Buckets (((k22 : Nat) : Int) : Int).toNat).bind fun v17 =>
 (slices_Clone_Entry v17).bind fun y19 =>
 (slices_DeleteFunc_Entry_x y19 a1).bind fun y21 =>
 grd ((0 : Int) ≤ ((k22 : Nat) : Int) ∧ ((k22 : Nat) : Int) < ((s22.Buckets.length : Nat) : Int)) <|
 some (.nxt (⟨(s22.Buckets.set (((k22 : Nat) : Int) : Int).toNat y21), s22.Slots, s22.Age⟩ : Tb))

def fdb_keep_x (a0 : Tb) (a1 : (List (En × Bool))) : Option Tb :=
 (fdb_own_x a0).bind fun y14 =>
 aft (rangeN (fdb_keep_x_c0 a1) ((y14.Buckets.length : Nat) : Int) y14) fun s22 =>
 some s22

theorem w_fdb_keep_x (a0 : Tb) (a1 : (List (En × Bool))) (r : Tb) (h : fdb_keep_x a0 a1 = some r) : CallW Tryz.prog 25 [(LV.agg [(LV.ro 1 (a0.Buckets.map (roC 4 EnC))), (I a0.Slots), (I a0.Age)]), (LV.func (.func 30) [] [(LV.ptr 0 0 0)])] ⟨2, [(0, (.row 52 1 [[(LV.map 1)]])), (1, (.mp (a1.map (mpC (fun z : En => (LV.agg [(I z.Mac), (I z.Port), (I z.Seen), (LV.bool z.Static)])) (fun z : Bool => (LV.bool z))))))]⟩ (fun lv H' => lv = (LV.agg [(LV.sl 2 0 (r.Buckets.map (roC 4 EnC)).length), (I r.Slots), (I r.Age)]) ∧ H' = ⟨3, [(2, (.row 39 1 (r.Buckets.map (roC 4 EnC)))), (0, (.row 52 1 [[(LV.map 1)]])), (1, (.mp (a1.map (mpC (fun z : En => (LV.agg [(I z.Mac), (I z.Port), (I z.Seen), (LV.bool z.Static)])) (fun z : Bool => (LV.bool z))))))]⟩) := by
 unfold fdb_keep_x at h
 refine CallW.shrinkR (CallW.intro TT_ok Tryz.func25 rfl rfl [0, 1, 2, 3, 4, 5, 6, 10, 11, 12, 13, 1000055, 1000056] rfl ?_)
 conv => whnf
 replace h := bindS h
 obtain ⟨y14, hy14, h⟩ := h
 have c15 : CallW Tryz.prog 55 [(LV.agg [(LV.ro 1 (a0.Buckets.map (roC 4 EnC))), (I a0.Slots), (I a0.Age)])] ⟨0, []⟩ (fun lv H' => lv = (LV.agg [(LV.sl 0 0 (y14.Buckets.map (roC 4 EnC)).length), (I y14.Slots), (I y14.Age)]) ∧ H' = ⟨1, [(0, (.row 39 1 (y14.Buckets.map (roC 4 EnC))))]⟩) := w_fdb_own_x a0 _ hy14
 repeat' first | exact rA _ | refine parkI ?_ | (refine CallW.frame (nx2 := 6) (l2 := [(5, (.row 39 1 (y14.Buckets.map (roC 4 EnC))))]) [] [(0, 5)] c15 rfl rfl trivial rfl rfl ⟨⟨rfl, rfl, .inl ⟨rfl, nlT⟩⟩, rfl, rfl, trivial⟩ ?_; conv => whnf) | (refine W.drawnM (id := 5) 8 TT_ok hmix1 [0, 0, 0, 0, 0, 0, 1, 2, 2] [2, 2, 2, 0, 1, 1, 2, 2, 3] rfl ?_; conv => whnf) | exact clA _ | (refine And.intro ?_ ?_ <;> conv => whnf) | exact clH _ | (refine gand ?_ h; assumption) | exact clN _ | exact clL _ | fail
 replace h := aftS h
 obtain ⟨O22, hO22, r22⟩ := h
 refine LoopW.norm [(2, (LV.ptr 2 0 0)), (3, (LV.ptr 3 0 0)), (4, (LV.ptr 4 0 0)), (10, (LV.sl 5 0 (y14.Buckets.map (roC 4 EnC)).length)), (11, (I (((y14.Buckets.map (roC 4 EnC)).length : Nat) : Int))), (12, (I ((0 : Nat) : Int)))] 6 [(2, (.row 24 3 [[(LV.sl 5 0 (y14.Buckets.map (roC 4 EnC)).length), (I y14.Slots), (I y14.Age)]])), (5, (.row 39 1 (y14.Buckets.map (roC 4 EnC)))), (3, (.row 44 1 [[(LV.func (.func 30) [] [(LV.ptr 0 0 0)])]])), (0, (.row 52 1 [[(LV.map 1)]])), (1, (.mp (a1.map (mpC (fun z : En => (LV.agg [(I z.Mac), (I z.Port), (I z.Seen), (LV.bool z.Static)])) (fun z : Bool => (LV.bool z)))))), (4, (.row 24 3 [[LV.nils, (I 0), (I 0)]]))] ⟨rfl, rfl, rfl, rfl, rfl, rfl, trivial⟩ ⟨⟨rfl, rfl, blT⟩, ⟨⟨rfl, rfl, NLss_bel (NLss_map' _)⟩, ⟨⟨rfl, rfl, blT⟩, ⟨⟨rfl, rfl, blT⟩, ⟨⟨rfl, rfl, bel_mp (f := (fun z : En => (LV.agg [(I z.Mac), (I z.Port), (I z.Seen), (LV.bool z.Static)]))) (g := (fun z : Bool => (LV.bool z))) (fun _ => by repeat' first | exact True.intro | refine ⟨?_, ?_⟩) (fun _ => by repeat' first | exact True.intro | refine ⟨?_, ?_⟩) _ _⟩, ⟨⟨rfl, rfl, blT⟩, trivial⟩⟩⟩⟩⟩⟩ blT rfl ?_
 refine LoopW.forN (fun k22 s22 => [(2, (LV.ptr 2 0 0)), (3, (LV.ptr 3 0 0)), (4, (LV.ptr 4 0 0)), (10, (LV.sl 5 0 (s22.Buckets.map (roC 4 EnC)).length)), (11, (I (((y14.Buckets.map (roC 4 EnC)).length : Nat) : Int))), (12, (I ((k22 : Nat) : Int)))]) (fun s22 => ⟨6, [(2, (.row 24 3 [[(LV.sl 5 0 (s22.Buckets.map (roC 4 EnC)).length), (I s22.Slots), (I s22.Age)]])), (5, (.row 39 1 (s22.Buckets.map (roC 4 EnC)))), (3, (.row 44 1 [[(LV.func (.func 30) [] [(LV.ptr 0 0 0)])]])), (0, (.row 52 1 [[(LV.map 1)]])), (1, (.mp (a1.map (mpC (fun z : En => (LV.agg [(I z.Mac), (I z.Port), (I z.Seen), (LV.bool z.Static)])) (fun z : Bool => (LV.bool z)))))), (4, (.row 24 3 [[LV.nils, (I 0), (I 0)]]))]⟩) hO22 (fun hl22 s22 hs22 => ?_) (fun hl22 k22 s22 o22 hk22 b22 K22 hret22 hbrk22 => ?_)
 ·rw [hs22] at r22
  dsimp only [aftM] at r22
  have hd : decide ((((((y14.Buckets.length : Nat) : Int) : Int).toNat : Nat) : Int) < (((y14.Buckets.map (roC 4 EnC)).length : Nat) : Int)) = false := by rw [decide_eq_false_iff_not]; (try simp only [se_len, se_ch, List.length_map]); omega
  refine LoopW.round TT_ok [0, 1, 2, 3, 4, 5, 6, 10, 11, 12, 13, 1000055, 1000056] ?_
  conv => whnf
  repeat' first | exact rA _ | refine parkI ?_ | (refine W.drawnM (id := 5) 8 TT_ok hmix1 [0, 0, 0, 0, 0, 0, 1, 2, 2] [2, 2, 2, 0, 1, 1, 2, 2, 3] rfl ?_; conv => whnf) | exact clA _ | (refine And.intro ?_ ?_ <;> conv => whnf) | exact clH _ | (refine gand ?_ h; assumption) | exact clN _ | exact clL _ | fail
  refine parkE (fun hc => ?_) (fun hc => ?_)
  ·exact (Bool.false_ne_true (hd.symm.trans hc)).elim
  ·clear hd
   conv => whnf
   have e := Option.some.inj r22
   subst e
   repeat' first | exact rA _ | exact ⟨[(5, 2), (0, 0), (1, 1)], 3, [(2, (.row 39 1 (s22.Buckets.map (roC 4 EnC)))), (0, (.row 52 1 [[(LV.map 1)]])), (1, (.mp (a1.map (mpC (fun z : En => (LV.agg [(I z.Mac), (I z.Port), (I z.Seen), (LV.bool z.Static)])) (fun z : Bool => (LV.bool z))))))], rfl, ⟨⟨rfl, rfl, .inl ⟨rfl, nlT⟩⟩, rfl, rfl, ⟨⟨rfl, rfl, .inr rfl⟩, rfl, rfl, ⟨.inl ⟨rfl, (NL_mp (fun _ => by repeat' first | exact True.intro | refine ⟨?_, ?_⟩) (fun _ => by repeat' first | exact True.intro | refine ⟨?_, ?_⟩) _)⟩, rfl, rfl, trivial⟩⟩⟩, rfl, rfl, rfl, rfl⟩ | (refine W.drawnM (id := 5) 8 TT_ok hmix1 [0, 0, 0, 0, 0, 0, 1, 2, 2] [2, 2, 2, 0, 1, 1, 2, 2, 3] rfl ?_; conv => whnf) | exact clA _ | (refine And.intro ?_ ?_ <;> conv => whnf) | exact clH _ | (refine gand ?_ h; assumption) | exact clN _ | exact clL _ | fail
 ·unfold fdb_keep_x_c0 at b22
  have hd : decide (((k22 : Nat) : Int) < (((y14.Buckets.map (roC 4 EnC)).length : Nat) : Int)) = true := by rw [decide_eq_true_eq]; (try simp only [se_len, se_ch, List.length_map] at hk22); (try simp only [se_len, se_ch, List.length_map]); omega
  refine LoopW.round TT_ok [0, 1, 2, 3, 4, 5, 6, 10, 11, 12, 13, 1000055, 1000056] ?_
  conv => whnf
  repeat' first | exact rA _ | refine parkI ?_ | (refine W.drawnM (id := 5) 8 TT_ok hmix1 [0, 0, 0, 0, 0, 0, 1, 2, 2] [2, 2, 2, 0, 1, 1, 2, 2, 3] rfl ?_; conv => whnf) | exact clA _ | (refine And.intro ?_ ?_ <;> conv => whnf) | exact clH _ | (refine gand ?_ h; assumption) | exact clN _ | exact clL _ | fail
  refine parkE (fun hc => ?_) (fun hc => ?_)
  ·clear hd
   conv => whnf
   replace b22 := grdS b22
   obtain ⟨g16, b22⟩ := b22
   replace g16 : (0 : Int) ≤ ((k22 : Nat) : Int) ∧ ((k22 : Nat) : Int) < (((s22.Buckets.map (roC 4 EnC)).length : Nat) : Int) := by simpa only [se_len, se_ch, List.length_map] using g16
   replace b22 := bindS b22
   obtain ⟨v17, hv17, b22⟩ := b22
   have i18 : nth (s22.Buckets.map (roC 4 EnC)) (0 + ((((k22 : Nat) : Int) : Int).toNat)) = some [(LV.ro 4 (v17.map EnC))] := by simpa only [se_map, se_len, se_ch, List.length_map, nth_eq, Nat.zero_add, List.getElem?_map] using gixNF (f := (roC 4 EnC)) hv17
   replace b22 := bindS b22
   obtain ⟨y19, hy19, b22⟩ := b22
   have c20 := cf_slices_Clone_Entry v17 _ hy19
   replace b22 := bindS b22
   obtain ⟨y21, hy21, b22⟩ := b22
   have c22 : CallW Tryz.prog 56 [(LV.sl 0 0 (y19.map EnC).length), (LV.func (.func 57) [] [(LV.ptr 1 0 0)])] ⟨4, [(0, (.row 42 4 (y19.map EnC))), (1, (.row 44 1 [[(LV.func (.func 30) [] [(LV.ptr 2 0 0)])]])), (2, (.row 52 1 [[(LV.map 3)]])), (3, (.mp (a1.map (mpC (fun z : En => (LV.agg [(I z.Mac), (I z.Port), (I z.Seen), (LV.bool z.Static)])) (fun z : Bool => (LV.bool z))))))]⟩ (fun lv H' => lv = (LV.sl 4 0 (y21.map EnC).length) ∧ H' = ⟨5, [(4, (.row 42 4 (y21.map EnC))), (1, (.row 44 1 [[(LV.func (.func 30) [] [(LV.ptr 2 0 0)])]])), (2, (.row 52 1 [[(LV.map 3)]])), (3, (.mp (a1.map (mpC (fun z : En => (LV.agg [(I z.Mac), (I z.Port), (I z.Seen), (LV.bool z.Static)])) (fun z : Bool => (LV.bool z))))))]⟩) := w_slices_DeleteFunc_Entry_x y19 a1 _ hy21
   replace b22 := grdS b22
   obtain ⟨g23, b22⟩ := b22
   replace g23 : (0 : Int) ≤ ((k22 : Nat) : Int) ∧ ((k22 : Nat) : Int) < (((s22.Buckets.map (roC 4 EnC)).length : Nat) : Int) := by simpa only [se_len, se_ch, List.length_map] using g23
   repeat' first | exact rA _ | refine parkI ?_ | exact g16 | exact g23 | (rw [i18]; conv => whnf) | (refine CallW.done (CallF.at c20 nlA (NLss_map' _)) ?_; conv => whnf) | (refine ⟨_, _, CallF.at c20 nlA (NLss_map' _), ?_⟩; conv => whnf) | (refine CallW.frame (nx2 := 8) (l2 := [(7, (.row 42 4 (y21.map EnC))), (3, (.row 44 1 [[(LV.func (.func 30) [] [(LV.ptr 0 0 0)])]])), (0, (.row 52 1 [[(LV.map 1)]])), (1, (.mp (a1.map (mpC (fun z : En => (LV.agg [(I z.Mac), (I z.Port), (I z.Seen), (LV.bool z.Static)])) (fun z : Bool => (LV.bool z))))))]) [(6, 0), (3, 1), (0, 2), (1, 3)] [(4, 7), (1, 3), (2, 0), (3, 1)] c22 rfl rfl ⟨⟨rfl, rfl, .inl ⟨rfl, nlT⟩⟩, rfl, rfl, ⟨⟨rfl, rfl, .inr rfl⟩, rfl, rfl, ⟨⟨rfl, rfl, .inr rfl⟩, rfl, rfl, ⟨.inl ⟨rfl, (NL_mp (fun _ => by repeat' first | exact True.intro | refine ⟨?_, ?_⟩) (fun _ => by repeat' first | exact True.intro | refine ⟨?_, ?_⟩) _)⟩, rfl, rfl, trivial⟩⟩⟩⟩ rfl rfl ⟨⟨rfl, rfl, .inl ⟨rfl, nlT⟩⟩, rfl, rfl, ⟨⟨rfl, rfl, .inr rfl⟩, rfl, rfl, ⟨⟨rfl, rfl, .inr rfl⟩, rfl, rfl, ⟨.inl ⟨rfl, (NL_mp (fun _ => by repeat' first | exact True.intro | refine ⟨?_, ?_⟩) (fun _ => by repeat' first | exact True.intro | refine ⟨?_, ?_⟩) _)⟩, rfl, rfl, trivial⟩⟩⟩⟩ ?_; conv => whnf) | (refine ⟨_, _, CallW.frame (nx2 := 8) (l2 := [(7, (.row 42 4 (y21.map EnC))), (3, (.row 44 1 [[(LV.func (.func 30) [] [(LV.ptr 0 0 0)])]])), (0, (.row 52 1 [[(LV.map 1)]])), (1, (.mp (a1.map (mpC (fun z : En => (LV.agg [(I z.Mac), (I z.Port), (I z.Seen), (LV.bool z.Static)])) (fun z : Bool => (LV.bool z))))))]) [(6, 0), (3, 1), (0, 2), (1, 3)] [(4, 7), (1, 3), (2, 0), (3, 1)] c22 rfl rfl ⟨⟨rfl, rfl, .inl ⟨rfl, nlT⟩⟩, rfl, rfl, ⟨⟨rfl, rfl, .inr rfl⟩, rfl, rfl, ⟨⟨rfl, rfl, .inr rfl⟩, rfl, rfl, ⟨.inl ⟨rfl, (NL_mp (fun _ => by repeat' first | exact True.intro | refine ⟨?_, ?_⟩) (fun _ => by repeat' first | exact True.intro | refine ⟨?_, ?_⟩) _)⟩, rfl, rfl, trivial⟩⟩⟩⟩ rfl rfl ⟨⟨rfl, rfl, .inl ⟨rfl, nlT⟩⟩, rfl, rfl, ⟨⟨rfl, rfl, .inr rfl⟩, rfl, rfl, ⟨⟨rfl, rfl, .inr rfl⟩, rfl, rfl, ⟨.inl ⟨rfl, (NL_mp (fun _ => by repeat' first | exact True.intro | refine ⟨?_, ?_⟩) (fun _ => by repeat' first | exact True.intro | refine ⟨?_, ?_⟩) _)⟩, rfl, rfl, trivial⟩⟩⟩⟩ ⟨rfl, rfl⟩, ?_⟩; conv => whnf) | (refine W.drawnM (id := 5) 8 TT_ok hmix1 [0, 0, 0, 0, 0, 0, 1, 2, 2] [2, 2, 2, 0, 1, 1, 2, 2, 3] rfl ?_; conv => whnf) | exact clA _ | (refine And.intro ?_ ?_ <;> conv => whnf) | exact clH _ | (refine gand ?_ h; assumption) | exact clN _ | exact clL _ | fail
   have e := Option.some.inj b22
   refine LoopW.norm [(2, (LV.ptr 2 0 0)), (3, (LV.ptr 3 0 0)), (4, (LV.ptr 4 0 0)), (10, (LV.sl 5 0 ((⟨(s22.Buckets.set (((k22 : Nat) : Int) : Int).toNat y21), s22.Slots, s22.Age⟩ : Tb).Buckets.map (roC 4 EnC)).length)), (11, (I (((y14.Buckets.map (roC 4 EnC)).length : Nat) : Int))), (12, (I ((k22 + 1 : Nat) : Int)))] 6 [(2, (.row 24 3 [[(LV.sl 5 0 ((⟨(s22.Buckets.set (((k22 : Nat) : Int) : Int).toNat y21), s22.Slots, s22.Age⟩ : Tb).Buckets.map (roC 4 EnC)).length), (I (⟨(s22.Buckets.set (((k22 : Nat) : Int) : Int).toNat y21), s22.Slots, s22.Age⟩ : Tb).Slots), (I (⟨(s22.Buckets.set (((k22 : Nat) : Int) : Int).toNat y21), s22.Slots, s22.Age⟩ : Tb).Age)]])), (5, (.row 39 1 ((⟨(s22.Buckets.set (((k22 : Nat) : Int) : Int).toNat y21), s22.Slots, s22.Age⟩ : Tb).Buckets.map (roC 4 EnC)))), (3, (.row 44 1 [[(LV.func (.func 30) [] [(LV.ptr 0 0 0)])]])), (0, (.row 52 1 [[(LV.map 1)]])), (1, (.mp (a1.map (mpC (fun z : En => (LV.agg [(I z.Mac), (I z.Port), (I z.Seen), (LV.bool z.Static)])) (fun z : Bool => (LV.bool z)))))), (4, (.row 24 3 [[LV.nils, (I 0), (I 0)]]))] ⟨rfl, rfl, rfl, (by exact congrArg (LV.sl 5 0) (clL _ : (s22.Buckets.map (roC 4 EnC)).length = ((⟨(s22.Buckets.set (((k22 : Nat) : Int) : Int).toNat y21), s22.Slots, s22.Age⟩ : Tb).Buckets.map (roC 4 EnC)).length)), rfl, (congrArg (LV.int .i64) (w64_nat _ (by omega))), trivial⟩ ⟨⟨(congrArg (fun q => some (Blk.row 24 3 q)) (by first | (simp only [se_map, se_byL, se_len, se_ch, List.length_map]; done) | (simp only [se_map, se_byL, se_len, se_ch, List.length_map, TbC]; done) | (simp only [se_map, se_byL, se_len, se_ch, List.length_map, roC]; done) : ([[(LV.sl 5 0 (s22.Buckets.map (roC 4 EnC)).length), (I s22.Slots), (I s22.Age)]] : List (List LV)) = [[(LV.sl 5 0 ((⟨(s22.Buckets.set (((k22 : Nat) : Int) : Int).toNat y21), s22.Slots, s22.Age⟩ : Tb).Buckets.map (roC 4 EnC)).length), (I (⟨(s22.Buckets.set (((k22 : Nat) : Int) : Int).toNat y21), s22.Slots, s22.Age⟩ : Tb).Slots), (I (⟨(s22.Buckets.set (((k22 : Nat) : Int) : Int).toNat y21), s22.Slots, s22.Age⟩ : Tb).Age)]])), rfl, blT⟩, ⟨⟨(congrArg (fun q => some (Blk.row 39 1 q)) (by first | (simp only [se_map, se_byL, se_len, se_ch, List.length_map]; done) | (simp only [se_map, se_byL, se_len, se_ch, List.length_map, TbC]; done) | (simp only [se_map, se_byL, se_len, se_ch, List.length_map, roC]; done) : ((setN (s22.Buckets.map (roC 4 EnC)) (0 + ((((k22 : Nat) : Int) : Int).toNat)) [(LV.ro 4 (y21.map EnC))]) : List (List LV)) = ((⟨(s22.Buckets.set (((k22 : Nat) : Int) : Int).toNat y21), s22.Slots, s22.Age⟩ : Tb).Buckets.map (roC 4 EnC)))), rfl, NLss_bel (NLss_map' _)⟩, ⟨⟨rfl, rfl, blT⟩, ⟨⟨rfl, rfl, blT⟩, ⟨⟨rfl, rfl, bel_mp (f := (fun z : En => (LV.agg [(I z.Mac), (I z.Port), (I z.Seen), (LV.bool z.Static)]))) (g := (fun z : Bool => (LV.bool z))) (fun _ => by repeat' first | exact True.intro | refine ⟨?_, ?_⟩) (fun _ => by repeat' first | exact True.intro | refine ⟨?_, ?_⟩) _ _⟩, ⟨⟨rfl, rfl, blT⟩, trivial⟩⟩⟩⟩⟩⟩ blT rfl (K22 _ e.symm)
  ·exact (Bool.false_ne_true (hc.symm.trans hd)).elim

def fdb_Sweep_c1 (a0 : Tb) (k20 : Nat) (x20 : En) (s20 : ((List Tm) × (List En))) : Option (Step (Step (Tb × Int) ((List Tm) × (List En))) ((List Tm) × (List En))) :=
 (bif (bif (!x20.Static) then (decide ((IntKind.i64.wrap ((IntKind.i64.wrap (x20.Seen + a0.Age)) + 1)) ≤ 1099511627776)) else false) then
  (wheel_Arm s20.1 (⟨((s20.2.length : Nat) : Int), (IntKind.i64.wrap ((IntKind.i64.wrap (x20.Seen + a0.Age)) + 1))⟩ : Tm)).bind fun y5 =>
  grd (fits ((s20.2 ++ ([x20] : (List En))) : List En).length 32) <|
  some (.nxt (y5.1, (s20.2 ++ ([x20] : (List En)))))
 else
  some (.nxt (s20.1, s20.2)))

def fdb_Sweep_c0 (a0 : Tb) (k19 : Nat) (x19 : (List En)) (s19 : ((List Tm) × (List En))) : Option (Step (Tb × Int) ((List Tm) × (List En))) :=
 aft (rangeL (fdb_Sweep_c1 a0) x19 (s19.1, s19.2)) fun s20 =>
 some (.nxt (s20.1, s20.2))

def fdb_Sweep_c2 (s19 : ((List Tm) × (List En))) (k21 : Nat) (x21 : Tm) (s21 : (List (En × Bool))) : Option (Step (Tb × Int) (List (En × Bool))) :=
 grd ((0 : Int) ≤ x21.ID ∧ x21.ID < ((s19.2.length : Nat) : Int)) <|
 (gixN s19.2 (x21.ID : Int).toNat).bind fun v11 =>
 some (.nxt (mput s21 v11 true))

def fdb_Sweep (a0 : Tb) (a1 : Int) : Option (Tb × Int) :=
 (fdb_Right a0).bind fun y1 =>
 (gd (!(!y1)) (fdb_isTime a1)).bind fun y3 =>
 (bif (bif (!y1) then true else (!y3)) then
  some ((⟨[], 0, 0⟩ : Tb), 1)
 else
  aft (rangeL (fdb_Sweep_c0 a0) a0.Buckets (([] : (List Tm)), ([] : (List En)))) fun s19 =>
  (wheel_Advance s19.1 a1).bind fun y8 =>
  aft (rangeL (fdb_Sweep_c2 s19) y8.2.1 ([] : List (En × Bool))) fun s21 =>
  (fdb_keep_x a0 s21).bind fun y14 =>
  some (y14, 0))

theorem c_fdb_Sweep (a0 : Tb) (a1 : Int) (r : (Tb × Int)) (h : fdb_Sweep a0 a1 = some r) : CallP Tryz.prog 7 [(LV.agg [(LV.ro 1 (a0.Buckets.map (roC 4 EnC))), (I a0.Slots), (I a0.Age)]), (I a1)] (LV.tup [(LV.agg [(LV.ro 1 (r.1.Buckets.map (roC 4 EnC))), (I r.1.Slots), (I r.1.Age)]), (I r.2)]) := by
 unfold fdb_Sweep at h
 refine .intro nlA (.intro TT_ok Tryz.func7 rfl rfl [0, 1, 2, 4, 5, 6, 7, 9, 11, 12, 14, 16, 18, 26, 29, 30, 31, 32, 35, 36, 37, 38, 53, 77, 78, 79, 80, 1000025] rfl ?_)
 conv => whnf
 replace h := bindS h
 obtain ⟨y1, hy1, h⟩ := h
 have c2 := c_fdb_Right a0 _ hy1
 replace h := bindS h
 obtain ⟨y3, hy3, h⟩ := h
 have c4 := fun (hg : (!(!y1)) = true) => c_fdb_isTime a1 _ (gdS hg hy3)
 repeat' first | exact rA _ | refine parkI ?_ | (refine ⟨_, c4, ?_⟩; conv => whnf) | (refine CallP.use c2 ?_; conv => whnf) | (refine ⟨_, _, CallP.at c2, ?_⟩; conv => whnf) | (refine ⟨_, fun _ => c2, ?_⟩; conv => whnf) | (refine W.drawnM (id := 22) 0 TT_ok hmix1 [0, 0, 0, 0, 0, 0, 0] [0, 0, 0, 0, 0, 0, 1] rfl ?_; conv => whnf) | exact clA _ | (refine And.intro ?_ ?_ <;> conv => whnf) | exact clG _ | (refine gand ?_ h; assumption) | exact clN _ | fail
 refine parkE (fun hc => ?_) (fun hc => ?_)
 ·replace h := condT hc h
  conv => whnf
  have e := Option.some.inj h
  subst e
  repeat' first | exact rA _ | (refine W.drawnM (id := 22) 0 TT_ok hmix1 [0, 0, 0, 0, 0, 0, 0] [0, 0, 0, 0, 0, 0, 1] rfl ?_; conv => whnf) | exact clA _ | (refine And.intro ?_ ?_ <;> conv => whnf) | exact clG _ | (refine gand ?_ h; assumption) | exact clN _ | fail
 ·replace h := condF hc h
  conv => whnf
  repeat' first | exact rA _ | refine parkI ?_ | (refine W.drawnM (id := 22) 0 TT_ok hmix1 [0, 0, 0, 0, 0, 0, 0] [0, 0, 0, 0, 0, 0, 1] rfl ?_; conv => whnf) | exact clA _ | (refine And.intro ?_ ?_ <;> conv => whnf) | exact clG _ | (refine gand ?_ h; assumption) | exact clN _ | fail
  replace h := aftS h
  obtain ⟨O19, hO19, r19⟩ := h
  refine LoopW.virt 7 42 4 rfl ?_
  refine LoopW.up [(1, (I a1)), (2, (LV.ptr 0 0 0)), (4, (LV.ptr 1 0 0)), (6, (LV.ro 2 ([] : List (List LV)))), (7, (LV.sl 2 0 0)), (29, (LV.ro 1 (a0.Buckets.map (roC 4 EnC)))), (30, (I (((a0.Buckets.map (roC 4 EnC)).length : Nat) : Int))), (31, (I ((0 : Nat) : Int)))] ⟨Up.refl _, Up.refl _, Up.refl _, Up.nil _, Up.refl _, Up.refl _, Up.refl _, Up.refl _, trivial⟩ ?_
  refine LoopW.norm [(1, (I a1)), (2, (LV.ptr 0 0 0)), (4, (LV.ptr 1 0 0)), (6, (LV.ro 2 (([] : (List Tm)).map TmC))), (7, (LV.sl 2 0 (([] : (List En)).map EnC).length)), (29, (LV.ro 1 (a0.Buckets.map (roC 4 EnC)))), (30, (I (((a0.Buckets.map (roC 4 EnC)).length : Nat) : Int))), (31, (I ((0 : Nat) : Int)))] 3 [(0, (.row 24 3 [[(LV.ro 1 (a0.Buckets.map (roC 4 EnC))), (I a0.Slots), (I a0.Age)]])), (1, (.row 24 3 [[LV.nils, (I 0), (I 0)]])), (2, (.row 42 4 (([] : (List En)).map EnC)))] ⟨rfl, rfl, rfl, (smT : ((LV.ro 2 ([] : List (List LV))) : LV) = (LV.ro 2 (([] : (List Tm)).map TmC))), (by exact congrArg (LV.sl 2 0) (clL _ : 0 = (([] : (List En)).map EnC).length)), rfl, rfl, rfl, trivial⟩ ⟨⟨rfl, rfl, blT⟩, ⟨⟨rfl, rfl, blT⟩, ⟨⟨(congrArg (fun q => some (Blk.row 42 4 q)) (smT : ([] : List (List LV)) = (([] : (List En)).map EnC))), rfl, NLss_bel (NLss_map' _)⟩, trivial⟩⟩⟩ blT rfl ?_
  refine LoopW.forR (fun k19 s19 => [(1, (I a1)), (2, (LV.ptr 0 0 0)), (4, (LV.ptr 1 0 0)), (6, (LV.ro 2 (s19.1.map TmC))), (7, (LV.sl 2 0 (s19.2.map EnC).length)), (29, (LV.ro 1 (a0.Buckets.map (roC 4 EnC)))), (30, (I (((a0.Buckets.map (roC 4 EnC)).length : Nat) : Int))), (31, (I ((k19 : Nat) : Int)))]) (fun s19 => ⟨3, [(0, (.row 24 3 [[(LV.ro 1 (a0.Buckets.map (roC 4 EnC))), (I a0.Slots), (I a0.Age)]])), (1, (.row 24 3 [[LV.nils, (I 0), (I 0)]])), (2, (.row 42 4 (s19.2.map EnC)))]⟩) hO19 (fun hl19 s19 hs19 => ?_) (fun hl19 k19 x19 s19 o19 hk19 hx19 b19 K19 hret19 hbrk19 => ?_)
  ·rw [hs19] at r19
   dsimp only [aftM] at r19
   have hd : decide (((a0.Buckets.length : Nat) : Int) < (((a0.Buckets.map (roC 4 EnC)).length : Nat) : Int)) = false := by rw [decide_eq_false_iff_not]; (try simp only [se_len, se_ch, List.length_map]); omega
   refine LoopW.round TT_ok [0, 1, 2, 4, 5, 6, 7, 9, 11, 12, 14, 16, 18, 26, 29, 30, 31, 32, 35, 36, 37, 38, 53, 77, 78, 79, 80, 1000025] ?_
   conv => whnf
   repeat' first | exact rA _ | refine parkI ?_ | (refine W.drawnM (id := 22) 0 TT_ok hmix1 [0, 0, 0, 0, 0, 0, 0] [0, 0, 0, 0, 0, 0, 1] rfl ?_; conv => whnf) | exact clA _ | (refine And.intro ?_ ?_ <;> conv => whnf) | exact clG _ | (refine gand ?_ h; assumption) | exact clN _ | fail
   refine parkE (fun hc => ?_) (fun hc => ?_)
   ·exact (Bool.false_ne_true (hd.symm.trans hc)).elim
   ·clear hd
    conv => whnf
    replace r19 := bindS r19
    obtain ⟨y8, hy8, r19⟩ := r19
    have c9 := c_wheel_Advance s19.1 a1 _ hy8
    repeat' first | exact rA _ | refine parkI ?_ | (refine CallP.use c9 ?_; conv => whnf) | (refine ⟨_, _, CallP.at c9, ?_⟩; conv => whnf) | (refine ⟨_, fun _ => c9, ?_⟩; conv => whnf) | (refine W.drawnM (id := 22) 0 TT_ok hmix1 [0, 0, 0, 0, 0, 0, 0] [0, 0, 0, 0, 0, 0, 1] rfl ?_; conv => whnf) | exact clA _ | (refine And.intro ?_ ?_ <;> conv => whnf) | exact clG _ | (refine gand ?_ h; assumption) | exact clN _ | fail
    replace r19 := aftS r19
    obtain ⟨O21, hO21, r21⟩ := r19
    refine LoopW.norm [(2, (LV.ptr 0 0 0)), (4, (LV.ptr 1 0 0)), (7, (LV.sl 2 0 (s19.2.map EnC).length)), (16, (LV.ptr 4 0 0)), (77, (LV.ro 2 (y8.2.1.map TmC))), (78, (I (((y8.2.1.map TmC).length : Nat) : Int))), (79, (I ((0 : Nat) : Int)))] 5 [(0, (.row 24 3 [[(LV.ro 1 (a0.Buckets.map (roC 4 EnC))), (I a0.Slots), (I a0.Age)]])), (1, (.row 24 3 [[LV.nils, (I 0), (I 0)]])), (2, (.row 42 4 (s19.2.map EnC))), (4, (.row 52 1 [[(LV.map 3)]])), (3, (.mp (([] : List (En × Bool)).map (mpC (fun z : En => (LV.agg [(I z.Mac), (I z.Port), (I z.Seen), (LV.bool z.Static)])) (fun z : Bool => (LV.bool z))))))] ⟨rfl, rfl, rfl, rfl, rfl, rfl, rfl, trivial⟩ ⟨⟨rfl, rfl, blT⟩, ⟨⟨rfl, rfl, blT⟩, ⟨⟨rfl, rfl, NLss_bel (NLss_map' _)⟩, ⟨⟨rfl, rfl, blT⟩, ⟨⟨(congrArg (fun q => some (Blk.mp q)) (by simp only [se_mp] : (([] : List (LV × LV)) : List (LV × LV)) = (([] : List (En × Bool)).map (mpC (fun z : En => (LV.agg [(I z.Mac), (I z.Port), (I z.Seen), (LV.bool z.Static)])) (fun z : Bool => (LV.bool z)))))), rfl, bel_mp (f := (fun z : En => (LV.agg [(I z.Mac), (I z.Port), (I z.Seen), (LV.bool z.Static)]))) (g := (fun z : Bool => (LV.bool z))) (fun _ => by repeat' first | exact True.intro | refine ⟨?_, ?_⟩) (fun _ => by repeat' first | exact True.intro | refine ⟨?_, ?_⟩) _ _⟩, trivial⟩⟩⟩⟩⟩ blT rfl ?_
    refine LoopW.forR (fun k21 s21 => [(2, (LV.ptr 0 0 0)), (4, (LV.ptr 1 0 0)), (7, (LV.sl 2 0 (s19.2.map EnC).length)), (16, (LV.ptr 4 0 0)), (77, (LV.ro 2 (y8.2.1.map TmC))), (78, (I (((y8.2.1.map TmC).length : Nat) : Int))), (79, (I ((k21 : Nat) : Int)))]) (fun s21 => ⟨5, [(0, (.row 24 3 [[(LV.ro 1 (a0.Buckets.map (roC 4 EnC))), (I a0.Slots), (I a0.Age)]])), (1, (.row 24 3 [[LV.nils, (I 0), (I 0)]])), (2, (.row 42 4 (s19.2.map EnC))), (4, (.row 52 1 [[(LV.map 3)]])), (3, (.mp (s21.map (mpC (fun z : En => (LV.agg [(I z.Mac), (I z.Port), (I z.Seen), (LV.bool z.Static)])) (fun z : Bool => (LV.bool z))))))]⟩) hO21 (fun hl21 s21 hs21 => ?_) (fun hl21 k21 x21 s21 o21 hk21 hx21 b21 K21 hret21 hbrk21 => ?_)
    ·rw [hs21] at r21
     dsimp only [aftM] at r21
     have hd : decide (((y8.2.1.length : Nat) : Int) < (((y8.2.1.map TmC).length : Nat) : Int)) = false := by rw [decide_eq_false_iff_not]; (try simp only [se_len, se_ch, List.length_map]); omega
     refine LoopW.round TT_ok [0, 1, 2, 4, 5, 6, 7, 9, 11, 12, 14, 16, 18, 26, 29, 30, 31, 32, 35, 36, 37, 38, 53, 77, 78, 79, 80, 1000025] ?_
     conv => whnf
     repeat' first | exact rA _ | refine parkI ?_ | (refine W.drawnM (id := 22) 0 TT_ok hmix1 [0, 0, 0, 0, 0, 0, 0] [0, 0, 0, 0, 0, 0, 1] rfl ?_; conv => whnf) | exact clA _ | (refine And.intro ?_ ?_ <;> conv => whnf) | exact clG _ | (refine gand ?_ h; assumption) | exact clN _ | fail
     refine parkE (fun hc => ?_) (fun hc => ?_)
     ·exact (Bool.false_ne_true (hd.symm.trans hc)).elim
     ·clear hd
      conv => whnf
      replace r21 := bindS r21
      obtain ⟨y14, hy14, r21⟩ := r21
      have c15 : CallW Tryz.prog 25 [(LV.agg [(LV.ro 1 (a0.Buckets.map (roC 4 EnC))), (I a0.Slots), (I a0.Age)]), (LV.func (.func 30) [] [(LV.ptr 0 0 0)])] ⟨2, [(0, (.row 52 1 [[(LV.map 1)]])), (1, (.mp (s21.map (mpC (fun z : En => (LV.agg [(I z.Mac), (I z.Port), (I z.Seen), (LV.bool z.Static)])) (fun z : Bool => (LV.bool z))))))]⟩ (fun lv H' => lv = (LV.agg [(LV.sl 2 0 (y14.Buckets.map (roC 4 EnC)).length), (I y14.Slots), (I y14.Age)]) ∧ H' = ⟨3, [(2, (.row 39 1 (y14.Buckets.map (roC 4 EnC)))), (0, (.row 52 1 [[(LV.map 1)]])), (1, (.mp (s21.map (mpC (fun z : En => (LV.agg [(I z.Mac), (I z.Port), (I z.Seen), (LV.bool z.Static)])) (fun z : Bool => (LV.bool z))))))]⟩) := w_fdb_keep_x a0 s21 _ hy14
      have e := Option.some.inj r21
      subst e
      repeat' first | exact rA _ | (refine CallW.frame (nx2 := 6) (l2 := [(5, (.row 39 1 (y14.Buckets.map (roC 4 EnC)))), (4, (.row 52 1 [[(LV.map 3)]])), (3, (.mp (s21.map (mpC (fun z : En => (LV.agg [(I z.Mac), (I z.Port), (I z.Seen), (LV.bool z.Static)])) (fun z : Bool => (LV.bool z))))))]) [(4, 0), (3, 1)] [(2, 5), (0, 4), (1, 3)] c15 rfl rfl ⟨⟨rfl, rfl, .inr rfl⟩, rfl, rfl, ⟨.inl ⟨rfl, (NL_mp (fun _ => by repeat' first | exact True.intro | refine ⟨?_, ?_⟩) (fun _ => by repeat' first | exact True.intro | refine ⟨?_, ?_⟩) _)⟩, rfl, rfl, trivial⟩⟩ rfl rfl ⟨⟨rfl, rfl, .inl ⟨rfl, nlT⟩⟩, rfl, rfl, ⟨⟨rfl, rfl, .inr rfl⟩, rfl, rfl, ⟨.inl ⟨rfl, (NL_mp (fun _ => by repeat' first | exact True.intro | refine ⟨?_, ?_⟩) (fun _ => by repeat' first | exact True.intro | refine ⟨?_, ?_⟩) _)⟩, rfl, rfl, trivial⟩⟩⟩ ?_; conv => whnf) | (refine W.drawnM (id := 22) 0 TT_ok hmix1 [0, 0, 0, 0, 0, 0, 0] [0, 0, 0, 0, 0, 0, 1] rfl ?_; conv => whnf) | exact clA _ | (refine And.intro ?_ ?_ <;> conv => whnf) | exact clG _ | (refine gand ?_ h; assumption) | exact clN _ | fail
    ·unfold fdb_Sweep_c2 at b21
     have hd : decide (((k21 : Nat) : Int) < (((y8.2.1.map TmC).length : Nat) : Int)) = true := by rw [decide_eq_true_eq]; (try simp only [se_len, se_ch, List.length_map] at hk21); (try simp only [se_len, se_ch, List.length_map]); omega
     refine LoopW.round TT_ok [0, 1, 2, 4, 5, 6, 7, 9, 11, 12, 14, 16, 18, 26, 29, 30, 31, 32, 35, 36, 37, 38, 53, 77, 78, 79, 80, 1000025] ?_
     conv => whnf
     repeat' first | exact rA _ | refine parkI ?_ | (refine W.drawnM (id := 22) 0 TT_ok hmix1 [0, 0, 0, 0, 0, 0, 0] [0, 0, 0, 0, 0, 0, 1] rfl ?_; conv => whnf) | exact clA _ | (refine And.intro ?_ ?_ <;> conv => whnf) | exact clG _ | (refine gand ?_ h; assumption) | exact clN _ | fail
     refine parkE (fun hc => ?_) (fun hc => ?_)
     ·clear hd
      conv => whnf
      replace b21 := grdS b21
      obtain ⟨g10, b21⟩ := b21
      replace g10 : (0 : Int) ≤ x21.ID ∧ x21.ID < (((s19.2.map EnC).length : Nat) : Int) := by simpa only [se_len, se_ch, List.length_map] using g10
      replace b21 := bindS b21
      obtain ⟨v11, hv11, b21⟩ := b21
      have i12 : nth (s19.2.map EnC) (0 + ((x21.ID : Int).toNat)) = some [(I v11.Mac), (I v11.Port), (I v11.Seen), (LV.bool v11.Static)] := by simpa only [se_map, se_len, se_ch, List.length_map, nth_eq, Nat.zero_add, List.getElem?_map] using gixNF (f := EnC) hv11
      rcases m1_ : mfind s21 v11 with _ | ⟨w1_, u1_⟩
      ·try simp only [mget_none m1_, mput_none m1_, mhas_none m1_, mget_mput] at b21
       have f13 : Finds TT 42 ((s21.map (mpC (fun z : En => (LV.agg [(I z.Mac), (I z.Port), (I z.Seen), (LV.bool z.Static)])) (fun z : Bool => (LV.bool z)))) ++ [((LV.agg [(I v11.Mac), (I v11.Port), (I v11.Seen), (LV.bool v11.Static)]), (LV.bool true))]) (LV.agg [(I v11.Mac), (I v11.Port), (I v11.Seen), (LV.bool v11.Static)]) (some (s21.length, (LV.bool true))) := by simpa only [se_mp] using finds_some (f := (fun z : En => (LV.agg [(I z.Mac), (I z.Port), (I z.Seen), (LV.bool z.Static)]))) (g := (fun z : Bool => (LV.bool z))) ke_42 (mfind_app m1_ true)
       repeat' first | exact rA _ | refine parkI ?_ | (refine ⟨_, (kixF (f := TmC) hx21), ?_⟩; conv => whnf) | (refine ⟨_, (finds_none (g := (fun z : Bool => (LV.bool z))) ke_42 m1_), ?_⟩; conv => whnf) | exact g10 | (rw [i12]; conv => whnf) | (refine W.drawnM (id := 22) 0 TT_ok hmix1 [0, 0, 0, 0, 0, 0, 0] [0, 0, 0, 0, 0, 0, 1] rfl ?_; conv => whnf) | exact clA _ | (refine And.intro ?_ ?_ <;> conv => whnf) | exact clG _ | (refine gand ?_ h; assumption) | exact clN _ | fail
       have e := Option.some.inj b21
       refine LoopW.norm [(2, (LV.ptr 0 0 0)), (4, (LV.ptr 1 0 0)), (7, (LV.sl 2 0 (s19.2.map EnC).length)), (16, (LV.ptr 4 0 0)), (77, (LV.ro 2 (y8.2.1.map TmC))), (78, (I (((y8.2.1.map TmC).length : Nat) : Int))), (79, (I ((k21 + 1 : Nat) : Int)))] 5 [(0, (.row 24 3 [[(LV.ro 1 (a0.Buckets.map (roC 4 EnC))), (I a0.Slots), (I a0.Age)]])), (1, (.row 24 3 [[LV.nils, (I 0), (I 0)]])), (2, (.row 42 4 (s19.2.map EnC))), (4, (.row 52 1 [[(LV.map 3)]])), (3, (.mp ((s21 ++ [(v11, true)]).map (mpC (fun z : En => (LV.agg [(I z.Mac), (I z.Port), (I z.Seen), (LV.bool z.Static)])) (fun z : Bool => (LV.bool z))))))] ⟨rfl, rfl, rfl, rfl, rfl, rfl, (congrArg (LV.int .i64) (w64_nat _ (by omega))), trivial⟩ ⟨⟨rfl, rfl, blT⟩, ⟨⟨rfl, rfl, blT⟩, ⟨⟨rfl, rfl, NLss_bel (NLss_map' _)⟩, ⟨⟨rfl, rfl, blT⟩, ⟨⟨(congrArg (fun q => some (Blk.mp q)) (by simp only [se_mp] : (((s21.map (mpC (fun z : En => (LV.agg [(I z.Mac), (I z.Port), (I z.Seen), (LV.bool z.Static)])) (fun z : Bool => (LV.bool z)))) ++ [((LV.agg [(I v11.Mac), (I v11.Port), (I v11.Seen), (LV.bool v11.Static)]), (LV.bool true))]) : List (LV × LV)) = ((s21 ++ [(v11, true)]).map (mpC (fun z : En => (LV.agg [(I z.Mac), (I z.Port), (I z.Seen), (LV.bool z.Static)])) (fun z : Bool => (LV.bool z)))))), rfl, bel_mp (f := (fun z : En => (LV.agg [(I z.Mac), (I z.Port), (I z.Seen), (LV.bool z.Static)]))) (g := (fun z : Bool => (LV.bool z))) (fun _ => by repeat' first | exact True.intro | refine ⟨?_, ?_⟩) (fun _ => by repeat' first | exact True.intro | refine ⟨?_, ?_⟩) _ _⟩, trivial⟩⟩⟩⟩⟩ blT rfl (K21 _ e.symm)
      ·try simp only [mget_some m1_, mput_some m1_, mhas_some m1_, mget_mput] at b21
       have f13 : Finds TT 42 (setN (s21.map (mpC (fun z : En => (LV.agg [(I z.Mac), (I z.Port), (I z.Seen), (LV.bool z.Static)])) (fun z : Bool => (LV.bool z)))) w1_ ((LV.agg [(I v11.Mac), (I v11.Port), (I v11.Seen), (LV.bool v11.Static)]), (LV.bool true))) (LV.agg [(I v11.Mac), (I v11.Port), (I v11.Seen), (LV.bool v11.Static)]) (some (w1_, (LV.bool true))) := by simpa only [se_mp] using finds_some (f := (fun z : En => (LV.agg [(I z.Mac), (I z.Port), (I z.Seen), (LV.bool z.Static)]))) (g := (fun z : Bool => (LV.bool z))) ke_42 (mfind_set m1_ true)
       repeat' first | exact rA _ | refine parkI ?_ | (refine ⟨_, (kixF (f := TmC) hx21), ?_⟩; conv => whnf) | (refine ⟨_, (finds_some (g := (fun z : Bool => (LV.bool z))) ke_42 m1_), ?_⟩; conv => whnf) | exact g10 | (rw [i12]; conv => whnf) | (refine W.drawnM (id := 22) 0 TT_ok hmix1 [0, 0, 0, 0, 0, 0, 0] [0, 0, 0, 0, 0, 0, 1] rfl ?_; conv => whnf) | exact clA _ | (refine And.intro ?_ ?_ <;> conv => whnf) | exact clG _ | (refine gand ?_ h; assumption) | exact clN _ | fail
       have e := Option.some.inj b21
       refine LoopW.norm [(2, (LV.ptr 0 0 0)), (4, (LV.ptr 1 0 0)), (7, (LV.sl 2 0 (s19.2.map EnC).length)), (16, (LV.ptr 4 0 0)), (77, (LV.ro 2 (y8.2.1.map TmC))), (78, (I (((y8.2.1.map TmC).length : Nat) : Int))), (79, (I ((k21 + 1 : Nat) : Int)))] 5 [(0, (.row 24 3 [[(LV.ro 1 (a0.Buckets.map (roC 4 EnC))), (I a0.Slots), (I a0.Age)]])), (1, (.row 24 3 [[LV.nils, (I 0), (I 0)]])), (2, (.row 42 4 (s19.2.map EnC))), (4, (.row 52 1 [[(LV.map 3)]])), (3, (.mp ((s21.set w1_ (v11, true)).map (mpC (fun z : En => (LV.agg [(I z.Mac), (I z.Port), (I z.Seen), (LV.bool z.Static)])) (fun z : Bool => (LV.bool z))))))] ⟨rfl, rfl, rfl, rfl, rfl, rfl, (congrArg (LV.int .i64) (w64_nat _ (by omega))), trivial⟩ ⟨⟨rfl, rfl, blT⟩, ⟨⟨rfl, rfl, blT⟩, ⟨⟨rfl, rfl, NLss_bel (NLss_map' _)⟩, ⟨⟨rfl, rfl, blT⟩, ⟨⟨(congrArg (fun q => some (Blk.mp q)) (by simp only [se_mp] : ((setN (s21.map (mpC (fun z : En => (LV.agg [(I z.Mac), (I z.Port), (I z.Seen), (LV.bool z.Static)])) (fun z : Bool => (LV.bool z)))) w1_ ((LV.agg [(I v11.Mac), (I v11.Port), (I v11.Seen), (LV.bool v11.Static)]), (LV.bool true))) : List (LV × LV)) = ((s21.set w1_ (v11, true)).map (mpC (fun z : En => (LV.agg [(I z.Mac), (I z.Port), (I z.Seen), (LV.bool z.Static)])) (fun z : Bool => (LV.bool z)))))), rfl, bel_mp (f := (fun z : En => (LV.agg [(I z.Mac), (I z.Port), (I z.Seen), (LV.bool z.Static)]))) (g := (fun z : Bool => (LV.bool z))) (fun _ => by repeat' first | exact True.intro | refine ⟨?_, ?_⟩) (fun _ => by repeat' first | exact True.intro | refine ⟨?_, ?_⟩) _ _⟩, trivial⟩⟩⟩⟩⟩ blT rfl (K21 _ e.symm)
     ·exact (Bool.false_ne_true (hc.symm.trans hd)).elim
  ·unfold fdb_Sweep_c0 at b19
   have hd : decide (((k19 : Nat) : Int) < (((a0.Buckets.map (roC 4 EnC)).length : Nat) : Int)) = true := by rw [decide_eq_true_eq]; (try simp only [se_len, se_ch, List.length_map] at hk19); (try simp only [se_len, se_ch, List.length_map]); omega
   refine LoopW.round TT_ok [0, 1, 2, 4, 5, 6, 7, 9, 11, 12, 14, 16, 18, 26, 29, 30, 31, 32, 35, 36, 37, 38, 53, 77, 78, 79, 80, 1000025] ?_
   conv => whnf
   repeat' first | exact rA _ | refine parkI ?_ | (refine W.drawnM (id := 22) 0 TT_ok hmix1 [0, 0, 0, 0, 0, 0, 0] [0, 0, 0, 0, 0, 0, 1] rfl ?_; conv => whnf) | exact clA _ | (refine And.intro ?_ ?_ <;> conv => whnf) | exact clG _ | (refine gand ?_ h; assumption) | exact clN _ | fail
   refine parkE (fun hc => ?_) (fun hc => ?_)
   ·clear hd
    conv => whnf
    repeat' first | exact rA _ | refine parkI ?_ | (refine ⟨_, (kixF (f := (roC 4 EnC)) hx19), ?_⟩; conv => whnf) | (refine W.drawnM (id := 22) 0 TT_ok hmix1 [0, 0, 0, 0, 0, 0, 0] [0, 0, 0, 0, 0, 0, 1] rfl ?_; conv => whnf) | exact clA _ | (refine And.intro ?_ ?_ <;> conv => whnf) | exact clG _ | (refine gand ?_ h; assumption) | exact clN _ | fail
    replace b19 := aftS b19
    obtain ⟨O20, hO20, r20⟩ := b19
    refine LoopW.norm [(1, (I a1)), (2, (LV.ptr 0 0 0)), (4, (LV.ptr 1 0 0)), (6, (LV.ro 2 (s19.1.map TmC))), (7, (LV.sl 2 0 (s19.2.map EnC).length)), (29, (LV.ro 1 (a0.Buckets.map (roC 4 EnC)))), (30, (I (((a0.Buckets.map (roC 4 EnC)).length : Nat) : Int))), (31, (I ((k19 : Nat) : Int))), (35, (LV.ro 4 (x19.map EnC))), (36, (I (((x19.map EnC).length : Nat) : Int))), (37, (I ((0 : Nat) : Int)))] 3 [(0, (.row 24 3 [[(LV.ro 1 (a0.Buckets.map (roC 4 EnC))), (I a0.Slots), (I a0.Age)]])), (1, (.row 24 3 [[LV.nils, (I 0), (I 0)]])), (2, (.row 42 4 (s19.2.map EnC)))] ⟨rfl, rfl, rfl, (smT : ((LV.ro 2 (s19.1.map TmC)) : LV) = (LV.ro 2 (s19.1.map TmC))), (by exact congrArg (LV.sl 2 0) (clL _ : (s19.2.map EnC).length = (s19.2.map EnC).length)), rfl, rfl, rfl, rfl, rfl, rfl, trivial⟩ ⟨⟨rfl, rfl, blT⟩, ⟨⟨rfl, rfl, blT⟩, ⟨⟨(congrArg (fun q => some (Blk.row 42 4 q)) (smT : ((s19.2.map EnC) : List (List LV)) = (s19.2.map EnC))), rfl, NLss_bel (NLss_map' _)⟩, trivial⟩⟩⟩ blT rfl ?_
    refine LoopW.forR (fun k20 s20 => [(1, (I a1)), (2, (LV.ptr 0 0 0)), (4, (LV.ptr 1 0 0)), (6, (LV.ro 2 (s20.1.map TmC))), (7, (LV.sl 2 0 (s20.2.map EnC).length)), (29, (LV.ro 1 (a0.Buckets.map (roC 4 EnC)))), (30, (I (((a0.Buckets.map (roC 4 EnC)).length : Nat) : Int))), (31, (I ((k19 : Nat) : Int))), (35, (LV.ro 4 (x19.map EnC))), (36, (I (((x19.map EnC).length : Nat) : Int))), (37, (I ((k20 : Nat) : Int)))]) (fun s20 => ⟨3, [(0, (.row 24 3 [[(LV.ro 1 (a0.Buckets.map (roC 4 EnC))), (I a0.Slots), (I a0.Age)]])), (1, (.row 24 3 [[LV.nils, (I 0), (I 0)]])), (2, (.row 42 4 (s20.2.map EnC)))]⟩) hO20 (fun hl20 s20 hs20 => ?_) (fun hl20 k20 x20 s20 o20 hk20 hx20 b20 K20 hret20 hbrk20 => ?_)
    ·rw [hs20] at r20
     dsimp only [aftM] at r20
     have hd : decide (((x19.length : Nat) : Int) < (((x19.map EnC).length : Nat) : Int)) = false := by rw [decide_eq_false_iff_not]; (try simp only [se_len, se_ch, List.length_map]); omega
     refine LoopW.round TT_ok [0, 1, 2, 4, 5, 6, 7, 9, 11, 12, 14, 16, 18, 26, 29, 30, 31, 32, 35, 36, 37, 38, 53, 77, 78, 79, 80, 1000025] ?_
     conv => whnf
     repeat' first | exact rA _ | refine parkI ?_ | (refine W.drawnM (id := 22) 0 TT_ok hmix1 [0, 0, 0, 0, 0, 0, 0] [0, 0, 0, 0, 0, 0, 1] rfl ?_; conv => whnf) | exact clA _ | (refine And.intro ?_ ?_ <;> conv => whnf) | exact clG _ | (refine gand ?_ h; assumption) | exact clN _ | fail
     refine parkE (fun hc => ?_) (fun hc => ?_)
     ·exact (Bool.false_ne_true (hd.symm.trans hc)).elim
     ·clear hd
      conv => whnf
      repeat' first | exact rA _ | refine parkI ?_ | (refine W.drawnM (id := 22) 0 TT_ok hmix1 [0, 0, 0, 0, 0, 0, 0] [0, 0, 0, 0, 0, 0, 1] rfl ?_; conv => whnf) | exact clA _ | (refine And.intro ?_ ?_ <;> conv => whnf) | exact clG _ | (refine gand ?_ h; assumption) | exact clN _ | fail
      have e := Option.some.inj r20
      refine LoopW.norm [(1, (I a1)), (2, (LV.ptr 0 0 0)), (4, (LV.ptr 1 0 0)), (6, (LV.ro 2 (s20.1.map TmC))), (7, (LV.sl 2 0 (s20.2.map EnC).length)), (29, (LV.ro 1 (a0.Buckets.map (roC 4 EnC)))), (30, (I (((a0.Buckets.map (roC 4 EnC)).length : Nat) : Int))), (31, (I ((k19 + 1 : Nat) : Int)))] 3 [(0, (.row 24 3 [[(LV.ro 1 (a0.Buckets.map (roC 4 EnC))), (I a0.Slots), (I a0.Age)]])), (1, (.row 24 3 [[LV.nils, (I 0), (I 0)]])), (2, (.row 42 4 (s20.2.map EnC)))] ⟨rfl, rfl, rfl, (smT : ((LV.ro 2 (s20.1.map TmC)) : LV) = (LV.ro 2 (s20.1.map TmC))), (by exact congrArg (LV.sl 2 0) (clL _ : (s20.2.map EnC).length = (s20.2.map EnC).length)), rfl, rfl, (congrArg (LV.int .i64) (w64_nat _ (by omega))), trivial⟩ ⟨⟨rfl, rfl, blT⟩, ⟨⟨rfl, rfl, blT⟩, ⟨⟨(congrArg (fun q => some (Blk.row 42 4 q)) (smT : ((s20.2.map EnC) : List (List LV)) = (s20.2.map EnC))), rfl, NLss_bel (NLss_map' _)⟩, trivial⟩⟩⟩ blT rfl (K19 _ e.symm)
    ·unfold fdb_Sweep_c1 at b20
     have hd : decide (((k20 : Nat) : Int) < (((x19.map EnC).length : Nat) : Int)) = true := by rw [decide_eq_true_eq]; (try simp only [se_len, se_ch, List.length_map] at hk20); (try simp only [se_len, se_ch, List.length_map]); omega
     refine LoopW.round TT_ok [0, 1, 2, 4, 5, 6, 7, 9, 11, 12, 14, 16, 18, 26, 29, 30, 31, 32, 35, 36, 37, 38, 53, 77, 78, 79, 80, 1000025] ?_
     conv => whnf
     repeat' first | exact rA _ | refine parkI ?_ | (refine W.drawnM (id := 22) 0 TT_ok hmix1 [0, 0, 0, 0, 0, 0, 0] [0, 0, 0, 0, 0, 0, 1] rfl ?_; conv => whnf) | exact clA _ | (refine And.intro ?_ ?_ <;> conv => whnf) | exact clG _ | (refine gand ?_ h; assumption) | exact clN _ | fail
     refine parkE (fun hc => ?_) (fun hc => ?_)
     ·clear hd
      conv => whnf
      repeat' first | exact rA _ | refine parkI ?_ | (refine ⟨_, (kixF (f := EnC) hx20), ?_⟩; conv => whnf) | (refine W.drawnM (id := 22) 0 TT_ok hmix1 [0, 0, 0, 0, 0, 0, 0] [0, 0, 0, 0, 0, 0, 1] rfl ?_; conv => whnf) | exact clA _ | (refine And.intro ?_ ?_ <;> conv => whnf) | exact clG _ | (refine gand ?_ h; assumption) | exact clN _ | fail
      refine parkE (fun hc => ?_) (fun hc => ?_)
      ·replace b20 := condT hc b20
       conv => whnf
       replace b20 := bindS b20
       obtain ⟨y5, hy5, b20⟩ := b20
       have c6 : CallP Tryz.prog 28 [(LV.ro 2 (s20.1.map TmC)), (LV.agg [(I (((s20.2.map EnC).length : Nat) : Int)), (I (IntKind.i64.wrap ((IntKind.i64.wrap (x20.Seen + a0.Age)) + 1)))])] (LV.tup [(LV.ro 2 (y5.1.map TmC)), (I y5.2)]) := by first | exact c_wheel_Arm s20.1 (⟨((s20.2.length : Nat) : Int), (IntKind.i64.wrap ((IntKind.i64.wrap (x20.Seen + a0.Age)) + 1))⟩ : Tm) _ hy5 | (simpa only [se_map, se_byL, se_len, se_ch, List.length_map] using c_wheel_Arm s20.1 (⟨((s20.2.length : Nat) : Int), (IntKind.i64.wrap ((IntKind.i64.wrap (x20.Seen + a0.Age)) + 1))⟩ : Tm) _ hy5) | (simpa only [se_map, se_byL, se_len, se_ch, List.length_map, TmC] using c_wheel_Arm s20.1 (⟨((s20.2.length : Nat) : Int), (IntKind.i64.wrap ((IntKind.i64.wrap (x20.Seen + a0.Age)) + 1))⟩ : Tm) _ hy5)
       replace b20 := grdS b20
       obtain ⟨g7, b20⟩ := b20
       replace g7 : fits (((s20.2.map EnC) ++ [[(I x20.Mac), (I x20.Port), (I x20.Seen), (LV.bool x20.Static)]])).length 32 := by simpa only [se_len, se_ch, List.length_map] using g7
       repeat' first | exact rA _ | refine parkI ?_ | exact g7 | (refine CallP.use c6 ?_; conv => whnf) | (refine ⟨_, _, CallP.at c6, ?_⟩; conv => whnf) | (refine ⟨_, fun _ => c6, ?_⟩; conv => whnf) | (refine W.drawnM (id := 22) 0 TT_ok hmix1 [0, 0, 0, 0, 0, 0, 0] [0, 0, 0, 0, 0, 0, 1] rfl ?_; conv => whnf) | exact clA _ | (refine And.intro ?_ ?_ <;> conv => whnf) | exact clG _ | (refine gand ?_ h; assumption) | exact clN _ | fail
       have e := Option.some.inj b20
       refine LoopW.ren [(0, 0), (1, 1), (5, 2)] [(1, (I a1)), (2, (LV.ptr 0 0 0)), (4, (LV.ptr 1 0 0)), (6, (LV.ro 2 (y5.1.map TmC))), (7, (LV.sl 2 0 ((s20.2 ++ ([x20] : (List En))).map EnC).length)), (29, (LV.ro 1 (a0.Buckets.map (roC 4 EnC)))), (30, (I (((a0.Buckets.map (roC 4 EnC)).length : Nat) : Int))), (31, (I ((k19 : Nat) : Int))), (35, (LV.ro 4 (x19.map EnC))), (36, (I (((x19.map EnC).length : Nat) : Int))), (37, (I ((k20 + 1 : Nat) : Int)))] 3 [(0, (.row 24 3 [[(LV.ro 1 (a0.Buckets.map (roC 4 EnC))), (I a0.Slots), (I a0.Age)]])), (1, (.row 24 3 [[LV.nils, (I 0), (I 0)]])), (2, (.row 42 4 ((s20.2 ++ ([x20] : (List En))).map EnC)))] rfl ⟨rfl, rfl, rfl, (smT : ((LV.ro 2 (y5.1.map TmC)) : LV) = (LV.ro 2 (y5.1.map TmC))), (by exact congrArg (LV.sl 2 0) (clL _ : (((s20.2.map EnC) ++ [[(I x20.Mac), (I x20.Port), (I x20.Seen), (LV.bool x20.Static)]])).length = ((s20.2 ++ ([x20] : (List En))).map EnC).length)), rfl, rfl, rfl, rfl, rfl, (congrArg (LV.int .i64) (w64_nat _ (by omega))), trivial⟩ ⟨⟨rfl, rfl, .inl ⟨rfl, nlT⟩⟩, rfl, rfl, ⟨⟨rfl, rfl, .inl ⟨rfl, nlT⟩⟩, rfl, rfl, ⟨⟨rfl, rfl, .inl ⟨(smT : (((s20.2.map EnC) ++ [[(I x20.Mac), (I x20.Port), (I x20.Seen), (LV.bool x20.Static)]]) : List (List LV)) = ((s20.2 ++ ([x20] : (List En))).map EnC)), nlT⟩⟩, rfl, rfl, trivial⟩⟩⟩ rfl (K20 _ e.symm)
      ·replace b20 := condF hc b20
       conv => whnf
       repeat' first | exact rA _ | refine parkI ?_ | (refine W.drawnM (id := 22) 0 TT_ok hmix1 [0, 0, 0, 0, 0, 0, 0] [0, 0, 0, 0, 0, 0, 1] rfl ?_; conv => whnf) | exact clA _ | (refine And.intro ?_ ?_ <;> conv => whnf) | exact clG _ | (refine gand ?_ h; assumption) | exact clN _ | fail
       have e := Option.some.inj b20
       refine LoopW.norm [(1, (I a1)), (2, (LV.ptr 0 0 0)), (4, (LV.ptr 1 0 0)), (6, (LV.ro 2 (s20.1.map TmC))), (7, (LV.sl 2 0 (s20.2.map EnC).length)), (29, (LV.ro 1 (a0.Buckets.map (roC 4 EnC)))), (30, (I (((a0.Buckets.map (roC 4 EnC)).length : Nat) : Int))), (31, (I ((k19 : Nat) : Int))), (35, (LV.ro 4 (x19.map EnC))), (36, (I (((x19.map EnC).length : Nat) : Int))), (37, (I ((k20 + 1 : Nat) : Int)))] 3 [(0, (.row 24 3 [[(LV.ro 1 (a0.Buckets.map (roC 4 EnC))), (I a0.Slots), (I a0.Age)]])), (1, (.row 24 3 [[LV.nils, (I 0), (I 0)]])), (2, (.row 42 4 (s20.2.map EnC)))] ⟨rfl, rfl, rfl, (smT : ((LV.ro 2 (s20.1.map TmC)) : LV) = (LV.ro 2 (s20.1.map TmC))), (by exact congrArg (LV.sl 2 0) (clL _ : (s20.2.map EnC).length = (s20.2.map EnC).length)), rfl, rfl, rfl, rfl, rfl, (congrArg (LV.int .i64) (w64_nat _ (by omega))), trivial⟩ ⟨⟨rfl, rfl, blT⟩, ⟨⟨rfl, rfl, blT⟩, ⟨⟨(congrArg (fun q => some (Blk.row 42 4 q)) (smT : ((s20.2.map EnC) : List (List LV)) = (s20.2.map EnC))), rfl, NLss_bel (NLss_map' _)⟩, trivial⟩⟩⟩ blT rfl (K20 _ e.symm)
     ·exact (Bool.false_ne_true (hc.symm.trans hd)).elim
   ·exact (Bool.false_ne_true (hc.symm.trans hd)).elim

end Go.RX
