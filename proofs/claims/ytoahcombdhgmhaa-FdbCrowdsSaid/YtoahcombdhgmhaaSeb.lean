/- The structs of the program, plainly. -/
import Derived.Test.YtoahcombdhgmhaaTya
set_option linter.unusedVariables false
open Go Go.RX Go.Proofs
namespace Go.RX
structure EntryT where
  Mac : Int
  Port : Int
  Seen : Int
  Static : Bool
  deriving DecidableEq, Inhabited
abbrev EntryT.cells (v : EntryT) : List LV := [(I v.Mac), (I v.Port), (I v.Seen), (LV.bool v.Static)]
instance : NLf EntryT.cells := ⟨fun v => by repeat' first | exact True.intro | refine ⟨?_, ?_⟩⟩

structure St_Buckets_Slots_Age where
  Buckets : (List (List EntryT))
  Slots : Int
  Age : Int
  deriving DecidableEq, Inhabited
abbrev St_Buckets_Slots_Age.cells (v : St_Buckets_Slots_Age) : List LV := [(LV.ro 1 (v.Buckets.map (roC 4 EntryT.cells))), (I v.Slots), (I v.Age)]
instance : NLf St_Buckets_Slots_Age.cells := ⟨fun v => by repeat' first | exact True.intro | refine ⟨?_, ?_⟩⟩

structure TableT where
  Buckets : (List (List EntryT))
  Slots : Int
  Age : Int
  deriving DecidableEq, Inhabited
abbrev TableT.cells (v : TableT) : List LV := [(LV.ro 1 (v.Buckets.map (roC 4 EntryT.cells))), (I v.Slots), (I v.Age)]
instance : NLf TableT.cells := ⟨fun v => by repeat' first | exact True.intro | refine ⟨?_, ?_⟩⟩

structure LinkT where
  Seg : Int
  Cost : Int
  Up : Bool
  deriving DecidableEq, Inhabited
abbrev LinkT.cells (v : LinkT) : List LV := [(I v.Seg), (I v.Cost), (LV.bool v.Up)]
instance : NLf LinkT.cells := ⟨fun v => by repeat' first | exact True.intro | refine ⟨?_, ?_⟩⟩

structure PlanT where
  ID : Int
  Ports : (List LinkT)
  deriving DecidableEq, Inhabited
abbrev PlanT.cells (v : PlanT) : List LV := [(I v.ID), (LV.ro 3 (v.Ports.map LinkT.cells))]
instance : NLf PlanT.cells := ⟨fun v => by repeat' first | exact True.intro | refine ⟨?_, ?_⟩⟩

structure HostT where
  Mac : Int
  Seg : Int
  deriving DecidableEq, Inhabited
abbrev HostT.cells (v : HostT) : List LV := [(I v.Mac), (I v.Seg)]
instance : NLf HostT.cells := ⟨fun v => by repeat' first | exact True.intro | refine ⟨?_, ?_⟩⟩

structure St_Segs_Plans_Hosts where
  Segs : Int
  Plans : (List PlanT)
  Hosts : (List HostT)
  deriving DecidableEq, Inhabited
abbrev St_Segs_Plans_Hosts.cells (v : St_Segs_Plans_Hosts) : List LV := [(I v.Segs), (LV.ro 2 (v.Plans.map PlanT.cells)), (LV.ro 2 (v.Hosts.map HostT.cells))]
instance : NLf St_Segs_Plans_Hosts.cells := ⟨fun v => by repeat' first | exact True.intro | refine ⟨?_, ?_⟩⟩

structure LanT where
  Segs : Int
  Plans : (List PlanT)
  Hosts : (List HostT)
  deriving DecidableEq, Inhabited
abbrev LanT.cells (v : LanT) : List LV := [(I v.Segs), (LV.ro 2 (v.Plans.map PlanT.cells)), (LV.ro 2 (v.Hosts.map HostT.cells))]
instance : NLf LanT.cells := ⟨fun v => by repeat' first | exact True.intro | refine ⟨?_, ?_⟩⟩

structure St_ID_Ports where
  ID : Int
  Ports : (List LinkT)
  deriving DecidableEq, Inhabited
abbrev St_ID_Ports.cells (v : St_ID_Ports) : List LV := [(I v.ID), (LV.ro 3 (v.Ports.map LinkT.cells))]
instance : NLf St_ID_Ports.cells := ⟨fun v => by repeat' first | exact True.intro | refine ⟨?_, ?_⟩⟩

structure St_Seg_Cost_Up where
  Seg : Int
  Cost : Int
  Up : Bool
  deriving DecidableEq, Inhabited
abbrev St_Seg_Cost_Up.cells (v : St_Seg_Cost_Up) : List LV := [(I v.Seg), (I v.Cost), (LV.bool v.Up)]
instance : NLf St_Seg_Cost_Up.cells := ⟨fun v => by repeat' first | exact True.intro | refine ⟨?_, ?_⟩⟩

structure A2_Int where
  c0 : Int
  c1 : Int
  deriving DecidableEq, Inhabited
abbrev A2_Int.cells (v : A2_Int) : List LV := [(I v.c0), (I v.c1)]
instance : NLf A2_Int.cells := ⟨fun v => by repeat' first | exact True.intro | refine ⟨?_, ?_⟩⟩

structure St_Root_Cost where
  Root : Int
  Cost : Int
  deriving DecidableEq, Inhabited
abbrev St_Root_Cost.cells (v : St_Root_Cost) : List LV := [(I v.Root), (I v.Cost)]
instance : NLf St_Root_Cost.cells := ⟨fun v => by repeat' first | exact True.intro | refine ⟨?_, ?_⟩⟩

structure footwayref16_BT where
  Root : Int
  Cost : Int
  deriving DecidableEq, Inhabited
abbrev footwayref16_BT.cells (v : footwayref16_BT) : List LV := [(I v.Root), (I v.Cost)]
instance : NLf footwayref16_BT.cells := ⟨fun v => by repeat' first | exact True.intro | refine ⟨?_, ?_⟩⟩

structure VecT where
  Root : Int
  Cost : Int
  Bridge : Int
  Port : Int
  deriving DecidableEq, Inhabited
abbrev VecT.cells (v : VecT) : List LV := [(I v.Root), (I v.Cost), (I v.Bridge), (I v.Port)]
instance : NLf VecT.cells := ⟨fun v => by repeat' first | exact True.intro | refine ⟨?_, ?_⟩⟩

structure InfoT where
  Has : Bool
  Vec : VecT
  Age : Int
  deriving DecidableEq, Inhabited
abbrev InfoT.cells (v : InfoT) : List LV := [(LV.bool v.Has), (I v.Vec.Root), (I v.Vec.Cost), (I v.Vec.Bridge), (I v.Vec.Port), (I v.Age)]
instance : NLf InfoT.cells := ⟨fun v => by repeat' first | exact True.intro | refine ⟨?_, ?_⟩⟩

structure St_ID_Costs_Ups_Infos where
  ID : Int
  Costs : (List Int)
  Ups : (List Bool)
  Infos : (List InfoT)
  deriving DecidableEq, Inhabited
abbrev St_ID_Costs_Ups_Infos.cells (v : St_ID_Costs_Ups_Infos) : List LV := [(I v.ID), (LV.ro 1 (v.Costs.map iC)), (LV.ro 1 (v.Ups.map bC)), (LV.ro 6 (v.Infos.map InfoT.cells))]
instance : NLf St_ID_Costs_Ups_Infos.cells := ⟨fun v => by repeat' first | exact True.intro | refine ⟨?_, ?_⟩⟩

structure SelfT where
  ID : Int
  Costs : (List Int)
  Ups : (List Bool)
  Infos : (List InfoT)
  deriving DecidableEq, Inhabited
abbrev SelfT.cells (v : SelfT) : List LV := [(I v.ID), (LV.ro 1 (v.Costs.map iC)), (LV.ro 1 (v.Ups.map bC)), (LV.ro 6 (v.Infos.map InfoT.cells))]
instance : NLf SelfT.cells := ⟨fun v => by repeat' first | exact True.intro | refine ⟨?_, ?_⟩⟩

structure PortStateT where
  State : Int
  Left : Int
  deriving DecidableEq, Inhabited
abbrev PortStateT.cells (v : PortStateT) : List LV := [(I v.State), (I v.Left)]
instance : NLf PortStateT.cells := ⟨fun v => by repeat' first | exact True.intro | refine ⟨?_, ?_⟩⟩

structure St_Self_States_Max_Delay where
  Self : SelfT
  States : (List PortStateT)
  Max : Int
  Delay : Int
  deriving DecidableEq, Inhabited
abbrev St_Self_States_Max_Delay.cells (v : St_Self_States_Max_Delay) : List LV := [(I v.Self.ID), (LV.ro 1 (v.Self.Costs.map iC)), (LV.ro 1 (v.Self.Ups.map bC)), (LV.ro 6 (v.Self.Infos.map InfoT.cells)), (LV.ro 2 (v.States.map PortStateT.cells)), (I v.Max), (I v.Delay)]
instance : NLf St_Self_States_Max_Delay.cells := ⟨fun v => by repeat' first | exact True.intro | refine ⟨?_, ?_⟩⟩

structure StpT where
  Self : SelfT
  States : (List PortStateT)
  Max : Int
  Delay : Int
  deriving DecidableEq, Inhabited
abbrev StpT.cells (v : StpT) : List LV := [(I v.Self.ID), (LV.ro 1 (v.Self.Costs.map iC)), (LV.ro 1 (v.Self.Ups.map bC)), (LV.ro 6 (v.Self.Infos.map InfoT.cells)), (LV.ro 2 (v.States.map PortStateT.cells)), (I v.Max), (I v.Delay)]
instance : NLf StpT.cells := ⟨fun v => by repeat' first | exact True.intro | refine ⟨?_, ?_⟩⟩

structure St_Root_Cost_Bridge_Port where
  Root : Int
  Cost : Int
  Bridge : Int
  Port : Int
  deriving DecidableEq, Inhabited
abbrev St_Root_Cost_Bridge_Port.cells (v : St_Root_Cost_Bridge_Port) : List LV := [(I v.Root), (I v.Cost), (I v.Bridge), (I v.Port)]
instance : NLf St_Root_Cost_Bridge_Port.cells := ⟨fun v => by repeat' first | exact True.intro | refine ⟨?_, ?_⟩⟩

structure St_Vec_Age where
  Vec : VecT
  Age : Int
  deriving DecidableEq, Inhabited
abbrev St_Vec_Age.cells (v : St_Vec_Age) : List LV := [(I v.Vec.Root), (I v.Vec.Cost), (I v.Vec.Bridge), (I v.Vec.Port), (I v.Age)]
instance : NLf St_Vec_Age.cells := ⟨fun v => by repeat' first | exact True.intro | refine ⟨?_, ?_⟩⟩

structure ConfigT where
  Vec : VecT
  Age : Int
  deriving DecidableEq, Inhabited
abbrev ConfigT.cells (v : ConfigT) : List LV := [(I v.Vec.Root), (I v.Vec.Cost), (I v.Vec.Bridge), (I v.Vec.Port), (I v.Age)]
instance : NLf ConfigT.cells := ⟨fun v => by repeat' first | exact True.intro | refine ⟨?_, ?_⟩⟩

structure SendT where
  Port : Int
  Config : ConfigT
  deriving DecidableEq, Inhabited
abbrev SendT.cells (v : SendT) : List LV := [(I v.Port), (I v.Config.Vec.Root), (I v.Config.Vec.Cost), (I v.Config.Vec.Bridge), (I v.Config.Vec.Port), (I v.Config.Age)]
instance : NLf SendT.cells := ⟨fun v => by repeat' first | exact True.intro | refine ⟨?_, ?_⟩⟩

structure A4_Int where
  c0 : Int
  c1 : Int
  c2 : Int
  c3 : Int
  deriving DecidableEq, Inhabited
abbrev A4_Int.cells (v : A4_Int) : List LV := [(I v.c0), (I v.c1), (I v.c2), (I v.c3)]
instance : NLf A4_Int.cells := ⟨fun v => by repeat' first | exact True.intro | refine ⟨?_, ?_⟩⟩

structure St_Has_Vec_Age where
  Has : Bool
  Vec : VecT
  Age : Int
  deriving DecidableEq, Inhabited
abbrev St_Has_Vec_Age.cells (v : St_Has_Vec_Age) : List LV := [(LV.bool v.Has), (I v.Vec.Root), (I v.Vec.Cost), (I v.Vec.Bridge), (I v.Vec.Port), (I v.Age)]
instance : NLf St_Has_Vec_Age.cells := ⟨fun v => by repeat' first | exact True.intro | refine ⟨?_, ?_⟩⟩

structure St_Port_Config where
  Port : Int
  Config : ConfigT
  deriving DecidableEq, Inhabited
abbrev St_Port_Config.cells (v : St_Port_Config) : List LV := [(I v.Port), (I v.Config.Vec.Root), (I v.Config.Vec.Cost), (I v.Config.Vec.Bridge), (I v.Config.Vec.Port), (I v.Config.Age)]
instance : NLf St_Port_Config.cells := ⟨fun v => by repeat' first | exact True.intro | refine ⟨?_, ?_⟩⟩

structure TimerT where
  ID : Int
  At : Int
  deriving DecidableEq, Inhabited
abbrev TimerT.cells (v : TimerT) : List LV := [(I v.ID), (I v.At)]
instance : NLf TimerT.cells := ⟨fun v => by repeat' first | exact True.intro | refine ⟨?_, ?_⟩⟩

structure St_ID_At where
  ID : Int
  At : Int
  deriving DecidableEq, Inhabited
abbrev St_ID_At.cells (v : St_ID_At) : List LV := [(I v.ID), (I v.At)]
instance : NLf St_ID_At.cells := ⟨fun v => by repeat' first | exact True.intro | refine ⟨?_, ?_⟩⟩

structure St_Mac_Seg where
  Mac : Int
  Seg : Int
  deriving DecidableEq, Inhabited
abbrev St_Mac_Seg.cells (v : St_Mac_Seg) : List LV := [(I v.Mac), (I v.Seg)]
instance : NLf St_Mac_Seg.cells := ⟨fun v => by repeat' first | exact True.intro | refine ⟨?_, ?_⟩⟩

structure CopyT where
  At : Int
  Seg : Int
  Bridge : Int
  Port : Int
  Raw : ByteArray
  deriving DecidableEq, Inhabited
abbrev CopyT.cells (v : CopyT) : List LV := [(I v.At), (I v.Seg), (I v.Bridge), (I v.Port), (LV.str v.Raw)]
instance : NLf CopyT.cells := ⟨fun v => by repeat' first | exact True.intro | refine ⟨?_, ?_⟩⟩

structure A3_Int where
  c0 : Int
  c1 : Int
  c2 : Int
  deriving DecidableEq, Inhabited
abbrev A3_Int.cells (v : A3_Int) : List LV := [(I v.c0), (I v.c1), (I v.c2)]
instance : NLf A3_Int.cells := ⟨fun v => by repeat' first | exact True.intro | refine ⟨?_, ?_⟩⟩

structure St_Mac_Port_Seen_Static where
  Mac : Int
  Port : Int
  Seen : Int
  Static : Bool
  deriving DecidableEq, Inhabited
abbrev St_Mac_Port_Seen_Static.cells (v : St_Mac_Port_Seen_Static) : List LV := [(I v.Mac), (I v.Port), (I v.Seen), (LV.bool v.Static)]
instance : NLf St_Mac_Port_Seen_Static.cells := ⟨fun v => by repeat' first | exact True.intro | refine ⟨?_, ?_⟩⟩

structure tree_bestT where
  c0 : Int
  c1 : Int
  deriving DecidableEq, Inhabited
abbrev tree_bestT.cells (v : tree_bestT) : List LV := [(I v.c0), (I v.c1)]
instance : NLf tree_bestT.cells := ⟨fun v => by repeat' first | exact True.intro | refine ⟨?_, ?_⟩⟩

structure St_State_Left where
  State : Int
  Left : Int
  deriving DecidableEq, Inhabited
abbrev St_State_Left.cells (v : St_State_Left) : List LV := [(I v.State), (I v.Left)]
instance : NLf St_State_Left.cells := ⟨fun v => by repeat' first | exact True.intro | refine ⟨?_, ?_⟩⟩

structure St_At_Seg_Bridge_Port_Raw where
  At : Int
  Seg : Int
  Bridge : Int
  Port : Int
  Raw : ByteArray
  deriving DecidableEq, Inhabited
abbrev St_At_Seg_Bridge_Port_Raw.cells (v : St_At_Seg_Bridge_Port_Raw) : List LV := [(I v.At), (I v.Seg), (I v.Bridge), (I v.Port), (LV.str v.Raw)]
instance : NLf St_At_Seg_Bridge_Port_Raw.cells := ⟨fun v => by repeat' first | exact True.intro | refine ⟨?_, ?_⟩⟩

structure St_seg_raw where
  seg : Int
  raw : ByteArray
  deriving DecidableEq, Inhabited
abbrev St_seg_raw.cells (v : St_seg_raw) : List LV := [(I v.seg), (LV.str v.raw)]
instance : NLf St_seg_raw.cells := ⟨fun v => by repeat' first | exact True.intro | refine ⟨?_, ?_⟩⟩

structure judge_keyT where
  seg : Int
  raw : ByteArray
  deriving DecidableEq, Inhabited
abbrev judge_keyT.cells (v : judge_keyT) : List LV := [(I v.seg), (LV.str v.raw)]
instance : NLf judge_keyT.cells := ⟨fun v => by repeat' first | exact True.intro | refine ⟨?_, ?_⟩⟩

structure tree_wayT where
  best : tree_bestT
  at_ : Int
  deriving DecidableEq, Inhabited
abbrev tree_wayT.cells (v : tree_wayT) : List LV := [(I v.best.c0), (I v.best.c1), (I v.at_)]
instance : NLf tree_wayT.cells := ⟨fun v => by repeat' first | exact True.intro | refine ⟨?_, ?_⟩⟩

structure St_best_at_ where
  best : tree_bestT
  at_ : Int
  deriving DecidableEq, Inhabited
abbrev St_best_at_.cells (v : St_best_at_) : List LV := [(I v.best.c0), (I v.best.c1), (I v.at_)]
instance : NLf St_best_at_.cells := ⟨fun v => by repeat' first | exact True.intro | refine ⟨?_, ?_⟩⟩

structure St_Vec where
  Vec : VecT
  deriving DecidableEq, Inhabited
abbrev St_Vec.cells (v : St_Vec) : List LV := [(I v.Vec.Root), (I v.Vec.Cost), (I v.Vec.Bridge), (I v.Vec.Port)]
instance : NLf St_Vec.cells := ⟨fun v => by repeat' first | exact True.intro | refine ⟨?_, ?_⟩⟩

structure vec_oneT where
  Vec : VecT
  deriving DecidableEq, Inhabited
abbrev vec_oneT.cells (v : vec_oneT) : List LV := [(I v.Vec.Root), (I v.Vec.Cost), (I v.Vec.Bridge), (I v.Vec.Port)]
instance : NLf vec_oneT.cells := ⟨fun v => by repeat' first | exact True.intro | refine ⟨?_, ?_⟩⟩

structure St_port where
  port : Int
  deriving DecidableEq, Inhabited
abbrev St_port.cells (v : St_port) : List LV := [(I v.port)]
instance : NLf St_port.cells := ⟨fun v => by repeat' first | exact True.intro | refine ⟨?_, ?_⟩⟩

structure role_byT where
  port : Int
  deriving DecidableEq, Inhabited
abbrev role_byT.cells (v : role_byT) : List LV := [(I v.port)]
instance : NLf role_byT.cells := ⟨fun v => by repeat' first | exact True.intro | refine ⟨?_, ?_⟩⟩

structure St_ where
  deriving DecidableEq, Inhabited
abbrev St_.cells (v : St_) : List LV := []
instance : NLf St_.cells := ⟨fun v => by repeat' first | exact True.intro | refine ⟨?_, ?_⟩⟩

structure role_hereT where
  deriving DecidableEq, Inhabited
abbrev role_hereT.cells (v : role_hereT) : List LV := []
instance : NLf role_hereT.cells := ⟨fun v => by repeat' first | exact True.intro | refine ⟨?_, ?_⟩⟩

structure St_Dst_Src_Type__Data where
  Dst : Int
  Src : Int
  Type_ : Int
  Data : ByteArray
  deriving DecidableEq, Inhabited
abbrev St_Dst_Src_Type__Data.cells (v : St_Dst_Src_Type__Data) : List LV := [(I v.Dst), (I v.Src), (I v.Type_), (LV.str v.Data)]
instance : NLf St_Dst_Src_Type__Data.cells := ⟨fun v => by repeat' first | exact True.intro | refine ⟨?_, ?_⟩⟩

structure FrameT where
  Dst : Int
  Src : Int
  Type_ : Int
  Data : ByteArray
  deriving DecidableEq, Inhabited
abbrev FrameT.cells (v : FrameT) : List LV := [(I v.Dst), (I v.Src), (I v.Type_), (LV.str v.Data)]
instance : NLf FrameT.cells := ⟨fun v => by repeat' first | exact True.intro | refine ⟨?_, ?_⟩⟩

structure A6_Int where
  c0 : Int
  c1 : Int
  c2 : Int
  c3 : Int
  c4 : Int
  c5 : Int
  deriving DecidableEq, Inhabited
abbrev A6_Int.cells (v : A6_Int) : List LV := [(LV.int .u8 v.c0), (LV.int .u8 v.c1), (LV.int .u8 v.c2), (LV.int .u8 v.c3), (LV.int .u8 v.c4), (LV.int .u8 v.c5)]
instance : NLf A6_Int.cells := ⟨fun v => by repeat' first | exact True.intro | refine ⟨?_, ?_⟩⟩

inductive U_role_way where
  | k0 (v : role_hereT)
  | k1 (v : role_byT)
  deriving DecidableEq, Inhabited
def U_role_way.lv : U_role_way → LV
  | .k0 v => .iface 321 (LV.agg [])
  | .k1 v => .iface 318 (LV.agg [(I v.port)])
theorem U_role_way.nl (u : U_role_way) : NL u.lv := by cases u <;> (repeat' first | exact True.intro | refine ⟨?_, ?_⟩)

end Go.RX
