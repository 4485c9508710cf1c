/- Plain functions, and what says that the program's functions compute them. -/
import Derived.Test.YtknjenjjhdhemaaVh
set_option linter.unusedVariables false
set_option linter.unusedSimpArgs false
open Go Go.RX Go.Proofs
namespace Go.RX
set_option maxRecDepth 10000
set_option maxHeartbeats 4000000
attribute [local irreducible] CallW CallP LoopW W IntKind.wrap bitI
def wheel_Arm (a0 : (List Tm)) (a1 : Tm) : Option ((List Tm) × Int) :=
 (wheel_Right a0).bind fun y1 =>
 (gd (!(!y1)) (wheel_isTimer a1)).bind fun y3 =>
 (bif (bif (!y1) then true else (!y3)) then
  some ([], 1)
 else
  (wheel_without_x a0 a1.ID).bind fun y5 =>
  grd (fits ((y5 ++ ([a1] : (List Tm))) : List Tm).length 16) <|
  (bif (decide (64 < (((y5 ++ ([a1] : (List Tm))).length : Nat) : Int))) then
   some ([], 5)
  else
   (wheel_spun (y5 ++ ([a1] : (List Tm)))).bind fun y8 =>
   some (y8, 0)))

theorem c_wheel_Arm (a0 : (List Tm)) (a1 : Tm) (r : ((List Tm) × Int)) (h : wheel_Arm a0 a1 = some r) : CallP Try.prog 9 [(LV.ro 2 (a0.map TmC)), (LV.agg [(I a1.ID), (I a1.At)])] (LV.tup [(LV.ro 2 (r.1.map TmC)), (I r.2)]) := by
 unfold wheel_Arm at h
 refine .intro nlA (.intro TT_ok Try.func9 rfl rfl [0, 1, 3, 4, 5, 6, 14, 24, 1000048] rfl ?_)
 conv => whnf
 replace h := bindS h
 obtain ⟨y1, hy1, h⟩ := h
 have c2 := c_wheel_Right a0 _ hy1
 replace h := bindS h
 obtain ⟨y3, hy3, h⟩ := h
 have c4 := fun (hg : (!(!y1)) = true) => c_wheel_isTimer a1 _ (gdS hg hy3)
 repeat' first | exact rA _ | refine parkI ?_ | (refine ⟨_, c4, ?_⟩; conv => whnf) | (refine CallP.use c2 ?_; conv => whnf) | (refine ⟨_, _, CallP.at c2, ?_⟩; conv => whnf) | (refine ⟨_, fun _ => c2, ?_⟩; conv => whnf) | (refine W.drawnM (id := 3) 9 TT_ok hmix1 [0, 0, 0, 0, 0, 0, 1, 2] [0, 0, 0, 1, 1, 1, 2, 2] rfl ?_; conv => whnf) | exact clA _ | (refine And.intro ?_ ?_ <;> conv => whnf) | exact clG _ | (refine gand ?_ h; assumption) | exact clN _ | fail
 refine parkE (fun hc => ?_) (fun hc => ?_)
 ·replace h := condT hc h
  conv => whnf
  have e := Option.some.inj h
  subst e
  repeat' first | exact rA _ | (refine W.drawnM (id := 3) 9 TT_ok hmix1 [0, 0, 0, 0, 0, 0, 1, 2] [0, 0, 0, 1, 1, 1, 2, 2] rfl ?_; conv => whnf) | exact clA _ | (refine And.intro ?_ ?_ <;> conv => whnf) | exact clG _ | (refine gand ?_ h; assumption) | exact clN _ | fail
 ·replace h := condF hc h
  conv => whnf
  replace h := bindS h
  obtain ⟨y5, hy5, h⟩ := h
  have c6 : CallW Try.prog 48 [(LV.ro 2 (a0.map TmC)), (I a1.ID)] ⟨0, []⟩ (fun lv H' => lv = (LV.sl 0 0 (y5.map TmC).length) ∧ H' = ⟨1, [(0, (.row 24 2 (y5.map TmC)))]⟩) := w_wheel_without_x a0 a1.ID _ hy5
  replace h := grdS h
  obtain ⟨g7, h⟩ := h
  replace g7 : fits (((y5.map TmC) ++ [[(I a1.ID), (I a1.At)]])).length 16 := by simpa only [se_len, se_ch, List.length_map] using g7
  repeat' first | exact rA _ | refine parkI ?_ | exact g7 | (refine CallW.frame (nx2 := 2) (l2 := [(1, (.row 24 2 (y5.map TmC)))]) [] [(0, 1)] c6 rfl rfl trivial rfl rfl ⟨⟨rfl, rfl, .inl ⟨rfl, nlT⟩⟩, rfl, rfl, trivial⟩ ?_; conv => whnf) | (refine ⟨_, _, CallW.frame (nx2 := 2) (l2 := [(1, (.row 24 2 (y5.map TmC)))]) [] [(0, 1)] c6 rfl rfl trivial rfl rfl ⟨⟨rfl, rfl, .inl ⟨rfl, nlT⟩⟩, rfl, rfl, trivial⟩ ⟨rfl, rfl⟩, ?_⟩; conv => whnf) | (refine W.drawnM (id := 3) 9 TT_ok hmix1 [0, 0, 0, 0, 0, 0, 1, 2] [0, 0, 0, 1, 1, 1, 2, 2] rfl ?_; conv => whnf) | exact clA _ | (refine And.intro ?_ ?_ <;> conv => whnf) | exact clG _ | (refine gand ?_ h; assumption) | exact clN _ | fail
  refine parkE (fun hc => ?_) (fun hc => ?_)
  ·replace h := condT (by first | exact hc | (simpa only [se_len, se_ch, List.length_map] using hc; done) | (have h0 : (decide (64 < (((((y5.map TmC) ++ [[(I a1.ID), (I a1.At)]])).length : Nat) : Int))) = true := hc; simpa only [se_len, se_ch, List.length_map] using h0)) h
   conv => whnf
   have e := Option.some.inj h
   subst e
   repeat' first | exact rA _ | (refine W.drawnM (id := 3) 9 TT_ok hmix1 [0, 0, 0, 0, 0, 0, 1, 2] [0, 0, 0, 1, 1, 1, 2, 2] rfl ?_; conv => whnf) | exact clA _ | (refine And.intro ?_ ?_ <;> conv => whnf) | exact clG _ | (refine gand ?_ h; assumption) | exact clN _ | fail
  ·replace h := condF (by first | exact hc | (simpa only [se_len, se_ch, List.length_map] using hc; done) | (have h0 : (decide (64 < (((((y5.map TmC) ++ [[(I a1.ID), (I a1.At)]])).length : Nat) : Int))) = false := hc; simpa only [se_len, se_ch, List.length_map] using h0)) h
   conv => whnf
   replace h := bindS h
   obtain ⟨y8, hy8, h⟩ := h
   have c9 : CallF Try.prog 49 [(LV.ro 2 ((y5.map TmC) ++ [[(I a1.ID), (I a1.At)]]))] 24 2 (y8.map TmC) := by first | exact cf_wheel_spun (y5 ++ ([a1] : (List Tm))) _ hy8 | (simpa only [se_map, se_byL, se_len, se_ch, List.length_map] using cf_wheel_spun (y5 ++ ([a1] : (List Tm))) _ hy8)
   have e := Option.some.inj h
   subst e
   repeat' first | exact rA _ | (refine CallW.done (CallF.at c9 nlA (NLss_map' _)) ?_; conv => whnf) | (refine ⟨_, _, CallF.at c9 nlA (NLss_map' _), ?_⟩; conv => whnf) | (refine W.drawnM (id := 3) 9 TT_ok hmix1 [0, 0, 0, 0, 0, 0, 1, 2] [0, 0, 0, 1, 1, 1, 2, 2] rfl ?_; conv => whnf) | exact clA _ | (refine And.intro ?_ ?_ <;> conv => whnf) | exact clG _ | (refine gand ?_ h; assumption) | exact clN _ | fail

end Go.RX
