/- The structs of the program, plainly. -/
import Derived.Test.YtknjenjjhdhemaaGreatTya
set_option linter.unusedVariables false
open Go Go.RX Go.Proofs
namespace Go.RX
structure En where
 Mac : Int
 Port : Int
 Seen : Int
 Static : Bool
 deriving DecidableEq, Inhabited
abbrev EnC (v : En) : List LV := [(I v.Mac), (I v.Port), (I v.Seen), (LV.bool v.Static)]
instance : NLf EnC := ⟨fun v => by repeat' first | exact True.intro | refine ⟨?_, ?_⟩⟩

structure St_Buckets_Slots_Age where
 Buckets : (List (List En))
 Slots : Int
 Age : Int
 deriving DecidableEq, Inhabited
abbrev St_Buckets_Slots_Age.cells (v : St_Buckets_Slots_Age) : List LV := [(LV.ro 1 (v.Buckets.map (roC 4 EnC))), (I v.Slots), (I v.Age)]
instance : NLf St_Buckets_Slots_Age.cells := ⟨fun v => by repeat' first | exact True.intro | refine ⟨?_, ?_⟩⟩

structure Tb where
 Buckets : (List (List En))
 Slots : Int
 Age : Int
 deriving DecidableEq, Inhabited
abbrev TbC (v : Tb) : List LV := [(LV.ro 1 (v.Buckets.map (roC 4 EnC))), (I v.Slots), (I v.Age)]
instance : NLf TbC := ⟨fun v => by repeat' first | exact True.intro | refine ⟨?_, ?_⟩⟩

structure St_Mac_Port_Seen_Static where
 Mac : Int
 Port : Int
 Seen : Int
 Static : Bool
 deriving DecidableEq, Inhabited
abbrev St_Mac_Port_Seen_Static.cells (v : St_Mac_Port_Seen_Static) : List LV := [(I v.Mac), (I v.Port), (I v.Seen), (LV.bool v.Static)]
instance : NLf St_Mac_Port_Seen_Static.cells := ⟨fun v => by repeat' first | exact True.intro | refine ⟨?_, ?_⟩⟩

structure Tm where
 ID : Int
 At : Int
 deriving DecidableEq, Inhabited
abbrev TmC (v : Tm) : List LV := [(I v.ID), (I v.At)]
instance : NLf TmC := ⟨fun v => by repeat' first | exact True.intro | refine ⟨?_, ?_⟩⟩

structure St_ID_At where
 ID : Int
 At : Int
 deriving DecidableEq, Inhabited
abbrev St_ID_At.cells (v : St_ID_At) : List LV := [(I v.ID), (I v.At)]
instance : NLf St_ID_At.cells := ⟨fun v => by repeat' first | exact True.intro | refine ⟨?_, ?_⟩⟩

structure A6_Int where
 c0 : Int
 c1 : Int
 c2 : Int
 c3 : Int
 c4 : Int
 c5 : Int
 deriving DecidableEq, Inhabited
abbrev A6_Int.cells (v : A6_Int) : List LV := [(LV.int .u8 v.c0), (LV.int .u8 v.c1), (LV.int .u8 v.c2), (LV.int .u8 v.c3), (LV.int .u8 v.c4), (LV.int .u8 v.c5)]
instance : NLf A6_Int.cells := ⟨fun v => by repeat' first | exact True.intro | refine ⟨?_, ?_⟩⟩

end Go.RX
