/- The structs of the program, plainly. -/
import Derived.Test.YtljecfgfbebjiaaTya
set_option linter.unusedVariables false
open Go Go.RX Go.Proofs
namespace Go.RX
structure LinkT where
 Seg : Int
 Cost : Int
 Up : Bool
 deriving DecidableEq, Inhabited
abbrev LinkT.cells (v : LinkT) : List LV := [(I v.Seg), (I v.Cost), (LV.bool v.Up)]
instance : NLf LinkT.cells := ⟨fun v => by repeat' first | exact True.intro | refine ⟨?_, ?_⟩⟩

structure PlanT where
 ID : Int
 Ports : (List LinkT)
 deriving DecidableEq, Inhabited
abbrev PlanT.cells (v : PlanT) : List LV := [(I v.ID), (LV.ro 3 (v.Ports.map LinkT.cells))]
instance : NLf PlanT.cells := ⟨fun v => by repeat' first | exact True.intro | refine ⟨?_, ?_⟩⟩

structure HostT where
 Mac : Int
 Seg : Int
 deriving DecidableEq, Inhabited
abbrev HostT.cells (v : HostT) : List LV := [(I v.Mac), (I v.Seg)]
instance : NLf HostT.cells := ⟨fun v => by repeat' first | exact True.intro | refine ⟨?_, ?_⟩⟩

structure St_Segs_Plans_Hosts where
 Segs : Int
 Plans : (List PlanT)
 Hosts : (List HostT)
 deriving DecidableEq, Inhabited
abbrev St_Segs_Plans_Hosts.cells (v : St_Segs_Plans_Hosts) : List LV := [(I v.Segs), (LV.ro 2 (v.Plans.map PlanT.cells)), (LV.ro 2 (v.Hosts.map HostT.cells))]
instance : NLf St_Segs_Plans_Hosts.cells := ⟨fun v => by repeat' first | exact True.intro | refine ⟨?_, ?_⟩⟩

structure LanT where
 Segs : Int
 Plans : (List PlanT)
 Hosts : (List HostT)
 deriving DecidableEq, Inhabited
abbrev LanT.cells (v : LanT) : List LV := [(I v.Segs), (LV.ro 2 (v.Plans.map PlanT.cells)), (LV.ro 2 (v.Hosts.map HostT.cells))]
instance : NLf LanT.cells := ⟨fun v => by repeat' first | exact True.intro | refine ⟨?_, ?_⟩⟩

structure St_ID_Ports where
 ID : Int
 Ports : (List LinkT)
 deriving DecidableEq, Inhabited
abbrev St_ID_Ports.cells (v : St_ID_Ports) : List LV := [(I v.ID), (LV.ro 3 (v.Ports.map LinkT.cells))]
instance : NLf St_ID_Ports.cells := ⟨fun v => by repeat' first | exact True.intro | refine ⟨?_, ?_⟩⟩

structure St_Seg_Cost_Up where
 Seg : Int
 Cost : Int
 Up : Bool
 deriving DecidableEq, Inhabited
abbrev St_Seg_Cost_Up.cells (v : St_Seg_Cost_Up) : List LV := [(I v.Seg), (I v.Cost), (LV.bool v.Up)]
instance : NLf St_Seg_Cost_Up.cells := ⟨fun v => by repeat' first | exact True.intro | refine ⟨?_, ?_⟩⟩

structure A2_Int where
 c0 : Int
 c1 : Int
 deriving DecidableEq, Inhabited
abbrev A2_Int.cells (v : A2_Int) : List LV := [(I v.c0), (I v.c1)]
instance : NLf A2_Int.cells := ⟨fun v => by repeat' first | exact True.intro | refine ⟨?_, ?_⟩⟩

structure St_Root_Cost where
 Root : Int
 Cost : Int
 deriving DecidableEq, Inhabited
abbrev St_Root_Cost.cells (v : St_Root_Cost) : List LV := [(I v.Root), (I v.Cost)]
instance : NLf St_Root_Cost.cells := ⟨fun v => by repeat' first | exact True.intro | refine ⟨?_, ?_⟩⟩

structure footwayref16_BT where
 Root : Int
 Cost : Int
 deriving DecidableEq, Inhabited
abbrev footwayref16_BT.cells (v : footwayref16_BT) : List LV := [(I v.Root), (I v.Cost)]
instance : NLf footwayref16_BT.cells := ⟨fun v => by repeat' first | exact True.intro | refine ⟨?_, ?_⟩⟩

structure tree_bestT where
 c0 : Int
 c1 : Int
 deriving DecidableEq, Inhabited
abbrev tree_bestT.cells (v : tree_bestT) : List LV := [(I v.c0), (I v.c1)]
instance : NLf tree_bestT.cells := ⟨fun v => by repeat' first | exact True.intro | refine ⟨?_, ?_⟩⟩

structure St_Mac_Seg where
 Mac : Int
 Seg : Int
 deriving DecidableEq, Inhabited
abbrev St_Mac_Seg.cells (v : St_Mac_Seg) : List LV := [(I v.Mac), (I v.Seg)]
instance : NLf St_Mac_Seg.cells := ⟨fun v => by repeat' first | exact True.intro | refine ⟨?_, ?_⟩⟩

structure tree_wayT where
 best : tree_bestT
 at_ : Int
 deriving DecidableEq, Inhabited
abbrev tree_wayT.cells (v : tree_wayT) : List LV := [(I v.best.c0), (I v.best.c1), (I v.at_)]
instance : NLf tree_wayT.cells := ⟨fun v => by repeat' first | exact True.intro | refine ⟨?_, ?_⟩⟩

structure St_best_at_ where
 best : tree_bestT
 at_ : Int
 deriving DecidableEq, Inhabited
abbrev St_best_at_.cells (v : St_best_at_) : List LV := [(I v.best.c0), (I v.best.c1), (I v.at_)]
instance : NLf St_best_at_.cells := ⟨fun v => by repeat' first | exact True.intro | refine ⟨?_, ?_⟩⟩

structure VecT where
 Root : Int
 Cost : Int
 Bridge : Int
 Port : Int
 deriving DecidableEq, Inhabited
abbrev VecT.cells (v : VecT) : List LV := [(I v.Root), (I v.Cost), (I v.Bridge), (I v.Port)]
instance : NLf VecT.cells := ⟨fun v => by repeat' first | exact True.intro | refine ⟨?_, ?_⟩⟩

structure St_Root_Cost_Bridge_Port where
 Root : Int
 Cost : Int
 Bridge : Int
 Port : Int
 deriving DecidableEq, Inhabited
abbrev St_Root_Cost_Bridge_Port.cells (v : St_Root_Cost_Bridge_Port) : List LV := [(I v.Root), (I v.Cost), (I v.Bridge), (I v.Port)]
instance : NLf St_Root_Cost_Bridge_Port.cells := ⟨fun v => by repeat' first | exact True.intro | refine ⟨?_, ?_⟩⟩

structure St_Vec where
 Vec : VecT
 deriving DecidableEq, Inhabited
abbrev St_Vec.cells (v : St_Vec) : List LV := [(I v.Vec.Root), (I v.Vec.Cost), (I v.Vec.Bridge), (I v.Vec.Port)]
instance : NLf St_Vec.cells := ⟨fun v => by repeat' first | exact True.intro | refine ⟨?_, ?_⟩⟩

structure vec_oneT where
 Vec : VecT
 deriving DecidableEq, Inhabited
abbrev vec_oneT.cells (v : vec_oneT) : List LV := [(I v.Vec.Root), (I v.Vec.Cost), (I v.Vec.Bridge), (I v.Vec.Port)]
instance : NLf vec_oneT.cells := ⟨fun v => by repeat' first | exact True.intro | refine ⟨?_, ?_⟩⟩

end Go.RX
