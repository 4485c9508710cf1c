/- The structs of the program, plainly. -/
import Derived.Test.YtknjenjjhdhemaaTya
set_option linter.unusedVariables false
open Go Go.RX Go.Proofs
namespace Go.RX
structure Tm where
 ID : Int
 At : Int
 deriving DecidableEq, Inhabited
abbrev TmC (v : Tm) : List LV := [(I v.ID), (I v.At)]
instance : NLf TmC := ⟨fun v => by repeat' first | exact True.intro | refine ⟨?_, ?_⟩⟩

structure St_ID_At where
 ID : Int
 At : Int
 deriving DecidableEq, Inhabited
abbrev St_ID_At.cells (v : St_ID_At) : List LV := [(I v.ID), (I v.At)]
instance : NLf St_ID_At.cells := ⟨fun v => by repeat' first | exact True.intro | refine ⟨?_, ?_⟩⟩

structure LinkT where
 Seg : Int
 Cost : Int
 Up : Bool
 deriving DecidableEq, Inhabited
abbrev LinkT.cells (v : LinkT) : List LV := [(I v.Seg), (I v.Cost), (LV.bool v.Up)]
instance : NLf LinkT.cells := ⟨fun v => by repeat' first | exact True.intro | refine ⟨?_, ?_⟩⟩

structure PlanT where
 ID : Int
 Ports : (List LinkT)
 deriving DecidableEq, Inhabited
abbrev PlanT.cells (v : PlanT) : List LV := [(I v.ID), (LV.ro 3 (v.Ports.map LinkT.cells))]
instance : NLf PlanT.cells := ⟨fun v => by repeat' first | exact True.intro | refine ⟨?_, ?_⟩⟩

structure HostT where
 Mac : Int
 Seg : Int
 deriving DecidableEq, Inhabited
abbrev HostT.cells (v : HostT) : List LV := [(I v.Mac), (I v.Seg)]
instance : NLf HostT.cells := ⟨fun v => by repeat' first | exact True.intro | refine ⟨?_, ?_⟩⟩

structure St_Segs_Plans_Hosts where
 Segs : Int
 Plans : (List PlanT)
 Hosts : (List HostT)
 deriving DecidableEq, Inhabited
abbrev St_Segs_Plans_Hosts.cells (v : St_Segs_Plans_Hosts) : List LV := [(I v.Segs), (LV.ro 2 (v.Plans.map PlanT.cells)), (LV.ro 2 (v.Hosts.map HostT.cells))]
instance : NLf St_Segs_Plans_Hosts.cells := ⟨fun v => by repeat' first | exact True.intro | refine ⟨?_, ?_⟩⟩

structure LanT where
 Segs : Int
 Plans : (List PlanT)
 Hosts : (List HostT)
 deriving DecidableEq, Inhabited
abbrev LanT.cells (v : LanT) : List LV := [(I v.Segs), (LV.ro 2 (v.Plans.map PlanT.cells)), (LV.ro 2 (v.Hosts.map HostT.cells))]
instance : NLf LanT.cells := ⟨fun v => by repeat' first | exact True.intro | refine ⟨?_, ?_⟩⟩

structure CopyT where
 At : Int
 Seg : Int
 Bridge : Int
 Port : Int
 Raw : ByteArray
 deriving DecidableEq, Inhabited
abbrev CopyT.cells (v : CopyT) : List LV := [(I v.At), (I v.Seg), (I v.Bridge), (I v.Port), (LV.str v.Raw)]
instance : NLf CopyT.cells := ⟨fun v => by repeat' first | exact True.intro | refine ⟨?_, ?_⟩⟩

structure En where
 Mac : Int
 Port : Int
 Seen : Int
 Static : Bool
 deriving DecidableEq, Inhabited
abbrev EnC (v : En) : List LV := [(I v.Mac), (I v.Port), (I v.Seen), (LV.bool v.Static)]
instance : NLf EnC := ⟨fun v => by repeat' first | exact True.intro | refine ⟨?_, ?_⟩⟩

structure St_Buckets_Slots_Age where
 Buckets : (List (List En))
 Slots : Int
 Age : Int
 deriving DecidableEq, Inhabited
abbrev St_Buckets_Slots_Age.cells (v : St_Buckets_Slots_Age) : List LV := [(LV.ro 1 (v.Buckets.map (roC 4 EnC))), (I v.Slots), (I v.Age)]
instance : NLf St_Buckets_Slots_Age.cells := ⟨fun v => by repeat' first | exact True.intro | refine ⟨?_, ?_⟩⟩

structure Tb where
 Buckets : (List (List En))
 Slots : Int
 Age : Int
 deriving DecidableEq, Inhabited
abbrev TbC (v : Tb) : List LV := [(LV.ro 1 (v.Buckets.map (roC 4 EnC))), (I v.Slots), (I v.Age)]
instance : NLf TbC := ⟨fun v => by repeat' first | exact True.intro | refine ⟨?_, ?_⟩⟩

structure A3_Int where
 c0 : Int
 c1 : Int
 c2 : Int
 deriving DecidableEq, Inhabited
abbrev A3_Int.cells (v : A3_Int) : List LV := [(I v.c0), (I v.c1), (I v.c2)]
instance : NLf A3_Int.cells := ⟨fun v => by repeat' first | exact True.intro | refine ⟨?_, ?_⟩⟩

structure St_ID_Ports where
 ID : Int
 Ports : (List LinkT)
 deriving DecidableEq, Inhabited
abbrev St_ID_Ports.cells (v : St_ID_Ports) : List LV := [(I v.ID), (LV.ro 3 (v.Ports.map LinkT.cells))]
instance : NLf St_ID_Ports.cells := ⟨fun v => by repeat' first | exact True.intro | refine ⟨?_, ?_⟩⟩

structure St_At_Seg_Bridge_Port_Raw where
 At : Int
 Seg : Int
 Bridge : Int
 Port : Int
 Raw : ByteArray
 deriving DecidableEq, Inhabited
abbrev St_At_Seg_Bridge_Port_Raw.cells (v : St_At_Seg_Bridge_Port_Raw) : List LV := [(I v.At), (I v.Seg), (I v.Bridge), (I v.Port), (LV.str v.Raw)]
instance : NLf St_At_Seg_Bridge_Port_Raw.cells := ⟨fun v => by repeat' first | exact True.intro | refine ⟨?_, ?_⟩⟩

structure St_seg_raw where
 seg : Int
 raw : ByteArray
 deriving DecidableEq, Inhabited
abbrev St_seg_raw.cells (v : St_seg_raw) : List LV := [(I v.seg), (LV.str v.raw)]
instance : NLf St_seg_raw.cells := ⟨fun v => by repeat' first | exact True.intro | refine ⟨?_, ?_⟩⟩

structure judge_keyT where
 seg : Int
 raw : ByteArray
 deriving DecidableEq, Inhabited
abbrev judge_keyT.cells (v : judge_keyT) : List LV := [(I v.seg), (LV.str v.raw)]
instance : NLf judge_keyT.cells := ⟨fun v => by repeat' first | exact True.intro | refine ⟨?_, ?_⟩⟩

structure St_Mac_Seg where
 Mac : Int
 Seg : Int
 deriving DecidableEq, Inhabited
abbrev St_Mac_Seg.cells (v : St_Mac_Seg) : List LV := [(I v.Mac), (I v.Seg)]
instance : NLf St_Mac_Seg.cells := ⟨fun v => by repeat' first | exact True.intro | refine ⟨?_, ?_⟩⟩

structure St_Mac_Port_Seen_Static where
 Mac : Int
 Port : Int
 Seen : Int
 Static : Bool
 deriving DecidableEq, Inhabited
abbrev St_Mac_Port_Seen_Static.cells (v : St_Mac_Port_Seen_Static) : List LV := [(I v.Mac), (I v.Port), (I v.Seen), (LV.bool v.Static)]
instance : NLf St_Mac_Port_Seen_Static.cells := ⟨fun v => by repeat' first | exact True.intro | refine ⟨?_, ?_⟩⟩

structure St_Dst_Src_Type__Data where
 Dst : Int
 Src : Int
 Type_ : Int
 Data : ByteArray
 deriving DecidableEq, Inhabited
abbrev St_Dst_Src_Type__Data.cells (v : St_Dst_Src_Type__Data) : List LV := [(I v.Dst), (I v.Src), (I v.Type_), (LV.str v.Data)]
instance : NLf St_Dst_Src_Type__Data.cells := ⟨fun v => by repeat' first | exact True.intro | refine ⟨?_, ?_⟩⟩

structure FrameT where
 Dst : Int
 Src : Int
 Type_ : Int
 Data : ByteArray
 deriving DecidableEq, Inhabited
abbrev FrameT.cells (v : FrameT) : List LV := [(I v.Dst), (I v.Src), (I v.Type_), (LV.str v.Data)]
instance : NLf FrameT.cells := ⟨fun v => by repeat' first | exact True.intro | refine ⟨?_, ?_⟩⟩

structure St_Seg_Cost_Up where
 Seg : Int
 Cost : Int
 Up : Bool
 deriving DecidableEq, Inhabited
abbrev St_Seg_Cost_Up.cells (v : St_Seg_Cost_Up) : List LV := [(I v.Seg), (I v.Cost), (LV.bool v.Up)]
instance : NLf St_Seg_Cost_Up.cells := ⟨fun v => by repeat' first | exact True.intro | refine ⟨?_, ?_⟩⟩

structure A6_Int where
 c0 : Int
 c1 : Int
 c2 : Int
 c3 : Int
 c4 : Int
 c5 : Int
 deriving DecidableEq, Inhabited
abbrev A6_Int.cells (v : A6_Int) : List LV := [(LV.int .u8 v.c0), (LV.int .u8 v.c1), (LV.int .u8 v.c2), (LV.int .u8 v.c3), (LV.int .u8 v.c4), (LV.int .u8 v.c5)]
instance : NLf A6_Int.cells := ⟨fun v => by repeat' first | exact True.intro | refine ⟨?_, ?_⟩⟩

end Go.RX
