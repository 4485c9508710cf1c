/- Plain functions, and what says that the program's functions compute them. -/
import Derived.Test.YtknjenjjhdhemaaGreatUb
set_option linter.unusedVariables false
set_option linter.unusedSimpArgs false
open Go Go.RX Go.Proofs
namespace Go.RX
set_option maxRecDepth 10000
set_option maxHeartbeats 4000000
attribute [local irreducible] CallW CallP LoopW W IntKind.wrap bitI
def fdb_Pin (a0 : Tb) (a1 : Int) (a2 : Int) : Option (Tb × Int) :=
 (fdb_Right a0).bind fun y1 =>
 (gd (!(!y1)) (fdb_isMac a1)).bind fun y3 =>
 (gd (!(bif (!y1) then true else (!y3))) (fdb_isPort a2)).bind fun y5 =>
 (bif (bif (bif (!y1) then true else (!y3)) then true else (!y5)) then
  some ((⟨[], 0, 0⟩ : Tb), 1)
 else
  (fdb_put a0 (⟨a1, a2, 0, true⟩ : En)).bind fun y7 =>
  (bif (!y7.2) then
   some ((⟨[], 0, 0⟩ : Tb), 5)
  else
   some (y7.1, 0)))

theorem c_fdb_Pin (a0 : Tb) (a1 : Int) (a2 : Int) (r : (Tb × Int)) (h : fdb_Pin a0 a1 a2 = some r) : CallP Tryz.prog 5 [(LV.agg [(LV.ro 1 (a0.Buckets.map (roC 4 EnC))), (I a0.Slots), (I a0.Age)]), (I a1), (I a2)] (LV.tup [(LV.agg [(LV.ro 1 (r.1.Buckets.map (roC 4 EnC))), (I r.1.Slots), (I r.1.Age)]), (I r.2)]) := by
 unfold fdb_Pin at h
 refine .intro nlA (.intro TT_ok Tryz.func5 rfl rfl [0, 1, 2, 3, 6, 7, 8, 9, 22, 33] rfl ?_)
 conv => whnf
 replace h := bindS h
 obtain ⟨y1, hy1, h⟩ := h
 have c2 := c_fdb_Right a0 _ hy1
 replace h := bindS h
 obtain ⟨y3, hy3, h⟩ := h
 have c4 := fun (hg : (!(!y1)) = true) => c_fdb_isMac a1 _ (gdS hg hy3)
 replace h := bindS h
 obtain ⟨y5, hy5, h⟩ := h
 have c6 := fun (hg : (!(bif (!y1) then true else (!y3))) = true) => c_fdb_isPort a2 _ (gdS hg hy5)
 repeat' first | exact rA _ | refine parkI ?_ | (refine ⟨_, c4, ?_⟩; conv => whnf) | (refine ⟨_, c6, ?_⟩; conv => whnf) | (refine CallP.use c2 ?_; conv => whnf) | exact clA _ | (refine And.intro ?_ ?_ <;> conv => whnf) | exact clG _ | (refine gand ?_ h; assumption) | fail
 refine parkE (fun hc => ?_) (fun hc => ?_)
 ·replace h := condT hc h
  conv => whnf
  have e := Option.some.inj h
  subst e
  repeat' first | exact rA _ | exact clA _ | (refine And.intro ?_ ?_ <;> conv => whnf) | exact clG _ | (refine gand ?_ h; assumption) | exact clN _ | fail
 ·replace h := condF hc h
  conv => whnf
  replace h := bindS h
  obtain ⟨y7, hy7, h⟩ := h
  have c8 : CallP Tryz.prog 23 [(LV.agg [(LV.ro 1 (a0.Buckets.map (roC 4 EnC))), (I a0.Slots), (I a0.Age)]), (LV.agg [(I a1), (I a2), (I 0), (LV.bool true)])] (LV.tup [(LV.agg [(LV.ro 1 (y7.1.Buckets.map (roC 4 EnC))), (I y7.1.Slots), (I y7.1.Age)]), (LV.bool y7.2)]) := by first | exact c_fdb_put a0 (⟨a1, a2, 0, true⟩ : En) _ hy7 | (simpa only [se_map, se_byL, se_len, se_ch, List.length_map] using c_fdb_put a0 (⟨a1, a2, 0, true⟩ : En) _ hy7) | (simpa only [se_map, se_byL, se_len, se_ch, List.length_map, EnC] using c_fdb_put a0 (⟨a1, a2, 0, true⟩ : En) _ hy7)
  repeat' first | exact rA _ | refine parkI ?_ | (refine CallP.use c8 ?_; conv => whnf) | (refine And.intro ?_ ?_ <;> conv => whnf) | fail
  refine parkE (fun hc => ?_) (fun hc => ?_)
  ·replace h := condT hc h
   conv => whnf
   have e := Option.some.inj h
   subst e
   repeat' first | exact rA _ | exact clA _ | (refine And.intro ?_ ?_ <;> conv => whnf) | exact clG _ | (refine gand ?_ h; assumption) | exact clN _ | fail
  ·replace h := condF hc h
   conv => whnf
   have e := Option.some.inj h
   subst e
   repeat' first | exact rA _ | exact clA _ | (refine And.intro ?_ ?_ <;> conv => whnf) | exact clG _ | (refine gand ?_ h; assumption) | exact clN _ | fail

end Go.RX
