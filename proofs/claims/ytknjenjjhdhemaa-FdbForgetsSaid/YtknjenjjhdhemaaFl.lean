/- Plain functions, and what says that the program's functions compute them. -/
import Derived.Test.YtknjenjjhdhemaaFk
import Derived.Test.YtknjenjjhdhemaaUe
set_option linter.unusedVariables false
set_option linter.unusedSimpArgs false
open Go Go.RX Go.Proofs
namespace Go.RX
set_option maxRecDepth 10000
set_option maxHeartbeats 40000000
attribute [local irreducible] CallW CallP LoopW W IntKind.wrap bitI
def law08_FdbForgets_c1 (a2 : Int) (x25 : A3_Int) (s25 : (Int × Tb × (List (Int × Int)) × (List (Int × Int)) × (List (Int × Int)))) (y5 : (Tb × Int)) (k26 : Nat) (s26 : Unit) : Option (Step (Step Bool (Int × Tb × (List (Int × Int)) × (List (Int × Int)) × (List (Int × Int)))) Unit) :=
 (fdb_Find y5.1 (IntKind.i64.wrap (2 * ((k26 : Nat) : Int))) (IntKind.i64.wrap (s25.1 + (((IntKind.i64.wrap (((x25.c2).tmod 8) + 8))).tmod 8)))).bind fun y7 =>
 (bif (bif (!decide (y7.2 = 0)) then true else (bif (decide (0 < (mget s25.2.2.2.2 (IntKind.i64.wrap (2 * ((k26 : Nat) : Int))) 0))) then (!decide (y7.1 = (IntKind.i64.wrap ((mget s25.2.2.2.2 (IntKind.i64.wrap (2 * ((k26 : Nat) : Int))) 0) - 1)))) else false)) then
  some (.ret (.ret false))
 else
  (bif (bif (bif (decide ((mget s25.2.2.2.2 (IntKind.i64.wrap (2 * ((k26 : Nat) : Int))) 0) = 0)) then (!decide (y7.1 = (-1))) else false) then (bif (!decide (y7.1 = (IntKind.i64.wrap ((mget s25.2.2.1 (IntKind.i64.wrap (2 * ((k26 : Nat) : Int))) 0) - 1)))) then true else (decide ((IntKind.i64.wrap (1 + (((IntKind.i64.wrap (((a2).tmod 50) + 50))).tmod 50))) < (IntKind.i64.wrap ((IntKind.i64.wrap (s25.1 + (((IntKind.i64.wrap (((x25.c2).tmod 8) + 8))).tmod 8))) - (mget s25.2.2.2.1 (IntKind.i64.wrap (2 * ((k26 : Nat) : Int))) 0)))))) else false) then
   some (.ret (.ret false))
  else
   some (.nxt ())))

def law08_FdbForgets_c2 (a2 : Int) (x25 : A3_Int) (s25 : (Int × Tb × (List (Int × Int)) × (List (Int × Int)) × (List (Int × Int)))) (k27 : Nat) (s27 : Unit) : Option (Step (Step Bool (Int × Tb × (List (Int × Int)) × (List (Int × Int)) × (List (Int × Int)))) Unit) :=
 (fdb_Find s25.2.1 (IntKind.i64.wrap (2 * ((k27 : Nat) : Int))) (IntKind.i64.wrap (s25.1 + (((IntKind.i64.wrap (((x25.c2).tmod 8) + 8))).tmod 8)))).bind fun y9 =>
 (bif (bif (!decide (y9.2 = 0)) then true else (bif (decide (0 < (mget s25.2.2.2.2 (IntKind.i64.wrap (2 * ((k27 : Nat) : Int))) 0))) then (!decide (y9.1 = (IntKind.i64.wrap ((mget s25.2.2.2.2 (IntKind.i64.wrap (2 * ((k27 : Nat) : Int))) 0) - 1)))) else false)) then
  some (.ret (.ret false))
 else
  (bif (bif (bif (decide ((mget s25.2.2.2.2 (IntKind.i64.wrap (2 * ((k27 : Nat) : Int))) 0) = 0)) then (!decide (y9.1 = (-1))) else false) then (bif (!decide (y9.1 = (IntKind.i64.wrap ((mget s25.2.2.1 (IntKind.i64.wrap (2 * ((k27 : Nat) : Int))) 0) - 1)))) then true else (decide ((IntKind.i64.wrap (1 + (((IntKind.i64.wrap (((a2).tmod 50) + 50))).tmod 50))) < (IntKind.i64.wrap ((IntKind.i64.wrap (s25.1 + (((IntKind.i64.wrap (((x25.c2).tmod 8) + 8))).tmod 8))) - (mget s25.2.2.2.1 (IntKind.i64.wrap (2 * ((k27 : Nat) : Int))) 0)))))) else false) then
   some (.ret (.ret false))
  else
   some (.nxt ())))

def law08_FdbForgets_c3 (a2 : Int) (x25 : A3_Int) (s25 : (Int × Tb × (List (Int × Int)) × (List (Int × Int)) × (List (Int × Int)))) (y11 : (Tb × Int)) (k56 : Nat) (s56 : Unit) : Option (Step (Step Bool (Int × Tb × (List (Int × Int)) × (List (Int × Int)) × (List (Int × Int)))) Unit) :=
 (fdb_Find y11.1 (IntKind.i64.wrap (2 * ((k56 : Nat) : Int))) s25.1).bind fun y13 =>
 (bif (bif (!decide (y13.2 = 0)) then true else (bif (decide (0 < (mget (mput s25.2.2.2.2 (IntKind.i64.wrap (2 * (((IntKind.i64.wrap (((x25.c1).tmod 12) + 12))).tmod 12))) (IntKind.i64.wrap ((((IntKind.i64.wrap (((x25.c2).tmod 8) + 8))).tmod 8) + 1))) (IntKind.i64.wrap (2 * ((k56 : Nat) : Int))) 0))) then (!decide (y13.1 = (IntKind.i64.wrap ((mget (mput s25.2.2.2.2 (IntKind.i64.wrap (2 * (((IntKind.i64.wrap (((x25.c1).tmod 12) + 12))).tmod 12))) (IntKind.i64.wrap ((((IntKind.i64.wrap (((x25.c2).tmod 8) + 8))).tmod 8) + 1))) (IntKind.i64.wrap (2 * ((k56 : Nat) : Int))) 0) - 1)))) else false)) then
  some (.ret (.ret false))
 else
  (bif (bif (bif (decide ((mget (mput s25.2.2.2.2 (IntKind.i64.wrap (2 * (((IntKind.i64.wrap (((x25.c1).tmod 12) + 12))).tmod 12))) (IntKind.i64.wrap ((((IntKind.i64.wrap (((x25.c2).tmod 8) + 8))).tmod 8) + 1))) (IntKind.i64.wrap (2 * ((k56 : Nat) : Int))) 0) = 0)) then (!decide (y13.1 = (-1))) else false) then (bif (!decide (y13.1 = (IntKind.i64.wrap ((mget s25.2.2.1 (IntKind.i64.wrap (2 * ((k56 : Nat) : Int))) 0) - 1)))) then true else (decide ((IntKind.i64.wrap (1 + (((IntKind.i64.wrap (((a2).tmod 50) + 50))).tmod 50))) < (IntKind.i64.wrap (s25.1 - (mget s25.2.2.2.1 (IntKind.i64.wrap (2 * ((k56 : Nat) : Int))) 0)))))) else false) then
   some (.ret (.ret false))
  else
   some (.nxt ())))

def law08_FdbForgets_c4 (a2 : Int) (x25 : A3_Int) (s25 : (Int × Tb × (List (Int × Int)) × (List (Int × Int)) × (List (Int × Int)))) (k57 : Nat) (s57 : Unit) : Option (Step (Step Bool (Int × Tb × (List (Int × Int)) × (List (Int × Int)) × (List (Int × Int)))) Unit) :=
 (fdb_Find s25.2.1 (IntKind.i64.wrap (2 * ((k57 : Nat) : Int))) s25.1).bind fun y15 =>
 (bif (bif (!decide (y15.2 = 0)) then true else (bif (decide (0 < (mget (mput s25.2.2.2.2 (IntKind.i64.wrap (2 * (((IntKind.i64.wrap (((x25.c1).tmod 12) + 12))).tmod 12))) (IntKind.i64.wrap ((((IntKind.i64.wrap (((x25.c2).tmod 8) + 8))).tmod 8) + 1))) (IntKind.i64.wrap (2 * ((k57 : Nat) : Int))) 0))) then (!decide (y15.1 = (IntKind.i64.wrap ((mget (mput s25.2.2.2.2 (IntKind.i64.wrap (2 * (((IntKind.i64.wrap (((x25.c1).tmod 12) + 12))).tmod 12))) (IntKind.i64.wrap ((((IntKind.i64.wrap (((x25.c2).tmod 8) + 8))).tmod 8) + 1))) (IntKind.i64.wrap (2 * ((k57 : Nat) : Int))) 0) - 1)))) else false)) then
  some (.ret (.ret false))
 else
  (bif (bif (bif (decide ((mget (mput s25.2.2.2.2 (IntKind.i64.wrap (2 * (((IntKind.i64.wrap (((x25.c1).tmod 12) + 12))).tmod 12))) (IntKind.i64.wrap ((((IntKind.i64.wrap (((x25.c2).tmod 8) + 8))).tmod 8) + 1))) (IntKind.i64.wrap (2 * ((k57 : Nat) : Int))) 0) = 0)) then (!decide (y15.1 = (-1))) else false) then (bif (!decide (y15.1 = (IntKind.i64.wrap ((mget s25.2.2.1 (IntKind.i64.wrap (2 * ((k57 : Nat) : Int))) 0) - 1)))) then true else (decide ((IntKind.i64.wrap (1 + (((IntKind.i64.wrap (((a2).tmod 50) + 50))).tmod 50))) < (IntKind.i64.wrap (s25.1 - (mget s25.2.2.2.1 (IntKind.i64.wrap (2 * ((k57 : Nat) : Int))) 0)))))) else false) then
   some (.ret (.ret false))
  else
   some (.nxt ())))

def law08_FdbForgets_c5 (a2 : Int) (s25 : (Int × Tb × (List (Int × Int)) × (List (Int × Int)) × (List (Int × Int)))) (y11 : (Tb × Int)) (k59 : Nat) (s59 : Unit) : Option (Step (Step Bool (Int × Tb × (List (Int × Int)) × (List (Int × Int)) × (List (Int × Int)))) Unit) :=
 (fdb_Find y11.1 (IntKind.i64.wrap (2 * ((k59 : Nat) : Int))) s25.1).bind fun y17 =>
 (bif (bif (!decide (y17.2 = 0)) then true else (bif (decide (0 < (mget s25.2.2.2.2 (IntKind.i64.wrap (2 * ((k59 : Nat) : Int))) 0))) then (!decide (y17.1 = (IntKind.i64.wrap ((mget s25.2.2.2.2 (IntKind.i64.wrap (2 * ((k59 : Nat) : Int))) 0) - 1)))) else false)) then
  some (.ret (.ret false))
 else
  (bif (bif (bif (decide ((mget s25.2.2.2.2 (IntKind.i64.wrap (2 * ((k59 : Nat) : Int))) 0) = 0)) then (!decide (y17.1 = (-1))) else false) then (bif (!decide (y17.1 = (IntKind.i64.wrap ((mget s25.2.2.1 (IntKind.i64.wrap (2 * ((k59 : Nat) : Int))) 0) - 1)))) then true else (decide ((IntKind.i64.wrap (1 + (((IntKind.i64.wrap (((a2).tmod 50) + 50))).tmod 50))) < (IntKind.i64.wrap (s25.1 - (mget s25.2.2.2.1 (IntKind.i64.wrap (2 * ((k59 : Nat) : Int))) 0)))))) else false) then
   some (.ret (.ret false))
  else
   some (.nxt ())))

def law08_FdbForgets_c6 (a2 : Int) (s25 : (Int × Tb × (List (Int × Int)) × (List (Int × Int)) × (List (Int × Int)))) (k60 : Nat) (s60 : Unit) : Option (Step (Step Bool (Int × Tb × (List (Int × Int)) × (List (Int × Int)) × (List (Int × Int)))) Unit) :=
 (fdb_Find s25.2.1 (IntKind.i64.wrap (2 * ((k60 : Nat) : Int))) s25.1).bind fun y19 =>
 (bif (bif (!decide (y19.2 = 0)) then true else (bif (decide (0 < (mget s25.2.2.2.2 (IntKind.i64.wrap (2 * ((k60 : Nat) : Int))) 0))) then (!decide (y19.1 = (IntKind.i64.wrap ((mget s25.2.2.2.2 (IntKind.i64.wrap (2 * ((k60 : Nat) : Int))) 0) - 1)))) else false)) then
  some (.ret (.ret false))
 else
  (bif (bif (bif (decide ((mget s25.2.2.2.2 (IntKind.i64.wrap (2 * ((k60 : Nat) : Int))) 0) = 0)) then (!decide (y19.1 = (-1))) else false) then (bif (!decide (y19.1 = (IntKind.i64.wrap ((mget s25.2.2.1 (IntKind.i64.wrap (2 * ((k60 : Nat) : Int))) 0) - 1)))) then true else (decide ((IntKind.i64.wrap (1 + (((IntKind.i64.wrap (((a2).tmod 50) + 50))).tmod 50))) < (IntKind.i64.wrap (s25.1 - (mget s25.2.2.2.1 (IntKind.i64.wrap (2 * ((k60 : Nat) : Int))) 0)))))) else false) then
   some (.ret (.ret false))
  else
   some (.nxt ())))

def law08_FdbForgets_c7 (a2 : Int) (x25 : A3_Int) (s25 : (Int × Tb × (List (Int × Int)) × (List (Int × Int)) × (List (Int × Int)))) (y21 : (Tb × Int)) (k65 : Nat) (s65 : Unit) : Option (Step (Step Bool (Int × Tb × (List (Int × Int)) × (List (Int × Int)) × (List (Int × Int)))) Unit) :=
 (fdb_Find y21.1 (IntKind.i64.wrap (2 * ((k65 : Nat) : Int))) s25.1).bind fun y23 =>
 (bif (bif (!decide (y23.2 = 0)) then true else (bif (decide (0 < (mget (mput s25.2.2.2.2 (IntKind.i64.wrap (2 * (((IntKind.i64.wrap (((x25.c1).tmod 12) + 12))).tmod 12))) 0) (IntKind.i64.wrap (2 * ((k65 : Nat) : Int))) 0))) then (!decide (y23.1 = (IntKind.i64.wrap ((mget (mput s25.2.2.2.2 (IntKind.i64.wrap (2 * (((IntKind.i64.wrap (((x25.c1).tmod 12) + 12))).tmod 12))) 0) (IntKind.i64.wrap (2 * ((k65 : Nat) : Int))) 0) - 1)))) else false)) then
  some (.ret (.ret false))
 else
  (bif (bif (bif (decide ((mget (mput s25.2.2.2.2 (IntKind.i64.wrap (2 * (((IntKind.i64.wrap (((x25.c1).tmod 12) + 12))).tmod 12))) 0) (IntKind.i64.wrap (2 * ((k65 : Nat) : Int))) 0) = 0)) then (!decide (y23.1 = (-1))) else false) then (bif (!decide (y23.1 = (IntKind.i64.wrap ((mget (mput s25.2.2.1 (IntKind.i64.wrap (2 * (((IntKind.i64.wrap (((x25.c1).tmod 12) + 12))).tmod 12))) 0) (IntKind.i64.wrap (2 * ((k65 : Nat) : Int))) 0) - 1)))) then true else (decide ((IntKind.i64.wrap (1 + (((IntKind.i64.wrap (((a2).tmod 50) + 50))).tmod 50))) < (IntKind.i64.wrap (s25.1 - (mget s25.2.2.2.1 (IntKind.i64.wrap (2 * ((k65 : Nat) : Int))) 0)))))) else false) then
   some (.ret (.ret false))
  else
   some (.nxt ())))

def law08_FdbForgets_c8 (a2 : Int) (x25 : A3_Int) (s25 : (Int × Tb × (List (Int × Int)) × (List (Int × Int)) × (List (Int × Int)))) (k66 : Nat) (s66 : Unit) : Option (Step (Step Bool (Int × Tb × (List (Int × Int)) × (List (Int × Int)) × (List (Int × Int)))) Unit) :=
 (fdb_Find s25.2.1 (IntKind.i64.wrap (2 * ((k66 : Nat) : Int))) s25.1).bind fun y25 =>
 (bif (bif (!decide (y25.2 = 0)) then true else (bif (decide (0 < (mget (mput s25.2.2.2.2 (IntKind.i64.wrap (2 * (((IntKind.i64.wrap (((x25.c1).tmod 12) + 12))).tmod 12))) 0) (IntKind.i64.wrap (2 * ((k66 : Nat) : Int))) 0))) then (!decide (y25.1 = (IntKind.i64.wrap ((mget (mput s25.2.2.2.2 (IntKind.i64.wrap (2 * (((IntKind.i64.wrap (((x25.c1).tmod 12) + 12))).tmod 12))) 0) (IntKind.i64.wrap (2 * ((k66 : Nat) : Int))) 0) - 1)))) else false)) then
  some (.ret (.ret false))
 else
  (bif (bif (bif (decide ((mget (mput s25.2.2.2.2 (IntKind.i64.wrap (2 * (((IntKind.i64.wrap (((x25.c1).tmod 12) + 12))).tmod 12))) 0) (IntKind.i64.wrap (2 * ((k66 : Nat) : Int))) 0) = 0)) then (!decide (y25.1 = (-1))) else false) then (bif (!decide (y25.1 = (IntKind.i64.wrap ((mget (mput s25.2.2.1 (IntKind.i64.wrap (2 * (((IntKind.i64.wrap (((x25.c1).tmod 12) + 12))).tmod 12))) 0) (IntKind.i64.wrap (2 * ((k66 : Nat) : Int))) 0) - 1)))) then true else (decide ((IntKind.i64.wrap (1 + (((IntKind.i64.wrap (((a2).tmod 50) + 50))).tmod 50))) < (IntKind.i64.wrap (s25.1 - (mget s25.2.2.2.1 (IntKind.i64.wrap (2 * ((k66 : Nat) : Int))) 0)))))) else false) then
   some (.ret (.ret false))
  else
   some (.nxt ())))

def law08_FdbForgets_c9 (a2 : Int) (s25 : (Int × Tb × (List (Int × Int)) × (List (Int × Int)) × (List (Int × Int)))) (y21 : (Tb × Int)) (k68 : Nat) (s68 : Unit) : Option (Step (Step Bool (Int × Tb × (List (Int × Int)) × (List (Int × Int)) × (List (Int × Int)))) Unit) :=
 (fdb_Find y21.1 (IntKind.i64.wrap (2 * ((k68 : Nat) : Int))) s25.1).bind fun y27 =>
 (bif (bif (!decide (y27.2 = 0)) then true else (bif (decide (0 < (mget s25.2.2.2.2 (IntKind.i64.wrap (2 * ((k68 : Nat) : Int))) 0))) then (!decide (y27.1 = (IntKind.i64.wrap ((mget s25.2.2.2.2 (IntKind.i64.wrap (2 * ((k68 : Nat) : Int))) 0) - 1)))) else false)) then
  some (.ret (.ret false))
 else
  (bif (bif (bif (decide ((mget s25.2.2.2.2 (IntKind.i64.wrap (2 * ((k68 : Nat) : Int))) 0) = 0)) then (!decide (y27.1 = (-1))) else false) then (bif (!decide (y27.1 = (IntKind.i64.wrap ((mget s25.2.2.1 (IntKind.i64.wrap (2 * ((k68 : Nat) : Int))) 0) - 1)))) then true else (decide ((IntKind.i64.wrap (1 + (((IntKind.i64.wrap (((a2).tmod 50) + 50))).tmod 50))) < (IntKind.i64.wrap (s25.1 - (mget s25.2.2.2.1 (IntKind.i64.wrap (2 * ((k68 : Nat) : Int))) 0)))))) else false) then
   some (.ret (.ret false))
  else
   some (.nxt ())))

def law08_FdbForgets_c10 (a2 : Int) (s25 : (Int × Tb × (List (Int × Int)) × (List (Int × Int)) × (List (Int × Int)))) (k69 : Nat) (s69 : Unit) : Option (Step (Step Bool (Int × Tb × (List (Int × Int)) × (List (Int × Int)) × (List (Int × Int)))) Unit) :=
 (fdb_Find s25.2.1 (IntKind.i64.wrap (2 * ((k69 : Nat) : Int))) s25.1).bind fun y29 =>
 (bif (bif (!decide (y29.2 = 0)) then true else (bif (decide (0 < (mget s25.2.2.2.2 (IntKind.i64.wrap (2 * ((k69 : Nat) : Int))) 0))) then (!decide (y29.1 = (IntKind.i64.wrap ((mget s25.2.2.2.2 (IntKind.i64.wrap (2 * ((k69 : Nat) : Int))) 0) - 1)))) else false)) then
  some (.ret (.ret false))
 else
  (bif (bif (bif (decide ((mget s25.2.2.2.2 (IntKind.i64.wrap (2 * ((k69 : Nat) : Int))) 0) = 0)) then (!decide (y29.1 = (-1))) else false) then (bif (!decide (y29.1 = (IntKind.i64.wrap ((mget s25.2.2.1 (IntKind.i64.wrap (2 * ((k69 : Nat) : Int))) 0) - 1)))) then true else (decide ((IntKind.i64.wrap (1 + (((IntKind.i64.wrap (((a2).tmod 50) + 50))).tmod 50))) < (IntKind.i64.wrap (s25.1 - (mget s25.2.2.2.1 (IntKind.i64.wrap (2 * ((k69 : Nat) : Int))) 0)))))) else false) then
   some (.ret (.ret false))
  else
   some (.nxt ())))

def law08_FdbForgets_c11 (a2 : Int) (s25 : (Int × Tb × (List (Int × Int)) × (List (Int × Int)) × (List (Int × Int)))) (y31 : (Tb × Int)) (k77 : Nat) (s77 : Unit) : Option (Step (Step Bool (Int × Tb × (List (Int × Int)) × (List (Int × Int)) × (List (Int × Int)))) Unit) :=
 (fdb_Find y31.1 (IntKind.i64.wrap (2 * ((k77 : Nat) : Int))) s25.1).bind fun y33 =>
 (bif (bif (!decide (y33.2 = 0)) then true else (bif (decide (0 < (mget s25.2.2.2.2 (IntKind.i64.wrap (2 * ((k77 : Nat) : Int))) 0))) then (!decide (y33.1 = (IntKind.i64.wrap ((mget s25.2.2.2.2 (IntKind.i64.wrap (2 * ((k77 : Nat) : Int))) 0) - 1)))) else false)) then
  some (.ret (.ret false))
 else
  (bif (bif (bif (decide ((mget s25.2.2.2.2 (IntKind.i64.wrap (2 * ((k77 : Nat) : Int))) 0) = 0)) then (!decide (y33.1 = (-1))) else false) then (bif (!decide (y33.1 = (IntKind.i64.wrap ((mget s25.2.2.1 (IntKind.i64.wrap (2 * ((k77 : Nat) : Int))) 0) - 1)))) then true else (decide ((IntKind.i64.wrap (1 + (((IntKind.i64.wrap (((a2).tmod 50) + 50))).tmod 50))) < (IntKind.i64.wrap (s25.1 - (mget s25.2.2.2.1 (IntKind.i64.wrap (2 * ((k77 : Nat) : Int))) 0)))))) else false) then
   some (.ret (.ret false))
  else
   some (.nxt ())))

def law08_FdbForgets_c12 (a2 : Int) (s25 : (Int × Tb × (List (Int × Int)) × (List (Int × Int)) × (List (Int × Int)))) (k78 : Nat) (s78 : Unit) : Option (Step (Step Bool (Int × Tb × (List (Int × Int)) × (List (Int × Int)) × (List (Int × Int)))) Unit) :=
 (fdb_Find s25.2.1 (IntKind.i64.wrap (2 * ((k78 : Nat) : Int))) s25.1).bind fun y35 =>
 (bif (bif (!decide (y35.2 = 0)) then true else (bif (decide (0 < (mget s25.2.2.2.2 (IntKind.i64.wrap (2 * ((k78 : Nat) : Int))) 0))) then (!decide (y35.1 = (IntKind.i64.wrap ((mget s25.2.2.2.2 (IntKind.i64.wrap (2 * ((k78 : Nat) : Int))) 0) - 1)))) else false)) then
  some (.ret (.ret false))
 else
  (bif (bif (bif (decide ((mget s25.2.2.2.2 (IntKind.i64.wrap (2 * ((k78 : Nat) : Int))) 0) = 0)) then (!decide (y35.1 = (-1))) else false) then (bif (!decide (y35.1 = (IntKind.i64.wrap ((mget s25.2.2.1 (IntKind.i64.wrap (2 * ((k78 : Nat) : Int))) 0) - 1)))) then true else (decide ((IntKind.i64.wrap (1 + (((IntKind.i64.wrap (((a2).tmod 50) + 50))).tmod 50))) < (IntKind.i64.wrap (s25.1 - (mget s25.2.2.2.1 (IntKind.i64.wrap (2 * ((k78 : Nat) : Int))) 0)))))) else false) then
   some (.ret (.ret false))
  else
   some (.nxt ())))

def law08_FdbForgets_c13 (a2 : Int) (x25 : A3_Int) (s25 : (Int × Tb × (List (Int × Int)) × (List (Int × Int)) × (List (Int × Int)))) (y37 : (Tb × Int)) (k80 : Nat) (s80 : Unit) : Option (Step (Step Bool (Int × Tb × (List (Int × Int)) × (List (Int × Int)) × (List (Int × Int)))) Unit) :=
 (fdb_Find y37.1 (IntKind.i64.wrap (2 * ((k80 : Nat) : Int))) s25.1).bind fun y41 =>
 (bif (bif (!decide (y41.2 = 0)) then true else (bif (decide (0 < (mget s25.2.2.2.2 (IntKind.i64.wrap (2 * ((k80 : Nat) : Int))) 0))) then (!decide (y41.1 = (IntKind.i64.wrap ((mget s25.2.2.2.2 (IntKind.i64.wrap (2 * ((k80 : Nat) : Int))) 0) - 1)))) else false)) then
  some (.ret (.ret false))
 else
  (bif (bif (bif (decide ((mget s25.2.2.2.2 (IntKind.i64.wrap (2 * ((k80 : Nat) : Int))) 0) = 0)) then (!decide (y41.1 = (-1))) else false) then (bif (!decide (y41.1 = (IntKind.i64.wrap ((mget (mput s25.2.2.1 (IntKind.i64.wrap (2 * (((IntKind.i64.wrap (((x25.c1).tmod 12) + 12))).tmod 12))) (IntKind.i64.wrap ((((IntKind.i64.wrap (((x25.c2).tmod 8) + 8))).tmod 8) + 1))) (IntKind.i64.wrap (2 * ((k80 : Nat) : Int))) 0) - 1)))) then true else (decide ((IntKind.i64.wrap (1 + (((IntKind.i64.wrap (((a2).tmod 50) + 50))).tmod 50))) < (IntKind.i64.wrap (s25.1 - (mget (mput s25.2.2.2.1 (IntKind.i64.wrap (2 * (((IntKind.i64.wrap (((x25.c1).tmod 12) + 12))).tmod 12))) s25.1) (IntKind.i64.wrap (2 * ((k80 : Nat) : Int))) 0)))))) else false) then
   some (.ret (.ret false))
  else
   some (.nxt ())))

def law08_FdbForgets_c14 (a2 : Int) (x25 : A3_Int) (s25 : (Int × Tb × (List (Int × Int)) × (List (Int × Int)) × (List (Int × Int)))) (k81 : Nat) (s81 : Unit) : Option (Step (Step Bool (Int × Tb × (List (Int × Int)) × (List (Int × Int)) × (List (Int × Int)))) Unit) :=
 (fdb_Find s25.2.1 (IntKind.i64.wrap (2 * ((k81 : Nat) : Int))) s25.1).bind fun y43 =>
 (bif (bif (!decide (y43.2 = 0)) then true else (bif (decide (0 < (mget s25.2.2.2.2 (IntKind.i64.wrap (2 * ((k81 : Nat) : Int))) 0))) then (!decide (y43.1 = (IntKind.i64.wrap ((mget s25.2.2.2.2 (IntKind.i64.wrap (2 * ((k81 : Nat) : Int))) 0) - 1)))) else false)) then
  some (.ret (.ret false))
 else
  (bif (bif (bif (decide ((mget s25.2.2.2.2 (IntKind.i64.wrap (2 * ((k81 : Nat) : Int))) 0) = 0)) then (!decide (y43.1 = (-1))) else false) then (bif (!decide (y43.1 = (IntKind.i64.wrap ((mget (mput s25.2.2.1 (IntKind.i64.wrap (2 * (((IntKind.i64.wrap (((x25.c1).tmod 12) + 12))).tmod 12))) (IntKind.i64.wrap ((((IntKind.i64.wrap (((x25.c2).tmod 8) + 8))).tmod 8) + 1))) (IntKind.i64.wrap (2 * ((k81 : Nat) : Int))) 0) - 1)))) then true else (decide ((IntKind.i64.wrap (1 + (((IntKind.i64.wrap (((a2).tmod 50) + 50))).tmod 50))) < (IntKind.i64.wrap (s25.1 - (mget (mput s25.2.2.2.1 (IntKind.i64.wrap (2 * (((IntKind.i64.wrap (((x25.c1).tmod 12) + 12))).tmod 12))) s25.1) (IntKind.i64.wrap (2 * ((k81 : Nat) : Int))) 0)))))) else false) then
   some (.ret (.ret false))
  else
   some (.nxt ())))

def law08_FdbForgets_c15 (a2 : Int) (s25 : (Int × Tb × (List (Int × Int)) × (List (Int × Int)) × (List (Int × Int)))) (y37 : (Tb × Int)) (k83 : Nat) (s83 : Unit) : Option (Step (Step Bool (Int × Tb × (List (Int × Int)) × (List (Int × Int)) × (List (Int × Int)))) Unit) :=
 (fdb_Find y37.1 (IntKind.i64.wrap (2 * ((k83 : Nat) : Int))) s25.1).bind fun y47 =>
 (bif (bif (!decide (y47.2 = 0)) then true else (bif (decide (0 < (mget s25.2.2.2.2 (IntKind.i64.wrap (2 * ((k83 : Nat) : Int))) 0))) then (!decide (y47.1 = (IntKind.i64.wrap ((mget s25.2.2.2.2 (IntKind.i64.wrap (2 * ((k83 : Nat) : Int))) 0) - 1)))) else false)) then
  some (.ret (.ret false))
 else
  (bif (bif (bif (decide ((mget s25.2.2.2.2 (IntKind.i64.wrap (2 * ((k83 : Nat) : Int))) 0) = 0)) then (!decide (y47.1 = (-1))) else false) then (bif (!decide (y47.1 = (IntKind.i64.wrap ((mget s25.2.2.1 (IntKind.i64.wrap (2 * ((k83 : Nat) : Int))) 0) - 1)))) then true else (decide ((IntKind.i64.wrap (1 + (((IntKind.i64.wrap (((a2).tmod 50) + 50))).tmod 50))) < (IntKind.i64.wrap (s25.1 - (mget s25.2.2.2.1 (IntKind.i64.wrap (2 * ((k83 : Nat) : Int))) 0)))))) else false) then
   some (.ret (.ret false))
  else
   some (.nxt ())))

def law08_FdbForgets_c16 (a2 : Int) (s25 : (Int × Tb × (List (Int × Int)) × (List (Int × Int)) × (List (Int × Int)))) (k84 : Nat) (s84 : Unit) : Option (Step (Step Bool (Int × Tb × (List (Int × Int)) × (List (Int × Int)) × (List (Int × Int)))) Unit) :=
 (fdb_Find s25.2.1 (IntKind.i64.wrap (2 * ((k84 : Nat) : Int))) s25.1).bind fun y49 =>
 (bif (bif (!decide (y49.2 = 0)) then true else (bif (decide (0 < (mget s25.2.2.2.2 (IntKind.i64.wrap (2 * ((k84 : Nat) : Int))) 0))) then (!decide (y49.1 = (IntKind.i64.wrap ((mget s25.2.2.2.2 (IntKind.i64.wrap (2 * ((k84 : Nat) : Int))) 0) - 1)))) else false)) then
  some (.ret (.ret false))
 else
  (bif (bif (bif (decide ((mget s25.2.2.2.2 (IntKind.i64.wrap (2 * ((k84 : Nat) : Int))) 0) = 0)) then (!decide (y49.1 = (-1))) else false) then (bif (!decide (y49.1 = (IntKind.i64.wrap ((mget s25.2.2.1 (IntKind.i64.wrap (2 * ((k84 : Nat) : Int))) 0) - 1)))) then true else (decide ((IntKind.i64.wrap (1 + (((IntKind.i64.wrap (((a2).tmod 50) + 50))).tmod 50))) < (IntKind.i64.wrap (s25.1 - (mget s25.2.2.2.1 (IntKind.i64.wrap (2 * ((k84 : Nat) : Int))) 0)))))) else false) then
   some (.ret (.ret false))
  else
   some (.nxt ())))

def law08_FdbForgets_c0 (a1 : Int) (a2 : Int) (k25 : Nat) (x25 : A3_Int) (s25 : (Int × Tb × (List (Int × Int)) × (List (Int × Int)) × (List (Int × Int)))) : Option (Step Bool (Int × Tb × (List (Int × Int)) × (List (Int × Int)) × (List (Int × Int)))) :=
 (bif (decide ((((IntKind.i64.wrap (((x25.c0).tmod 8) + 8))).tmod 8) = 0)) then
  (fdb_Sweep s25.2.1 (IntKind.i64.wrap (s25.1 + (((IntKind.i64.wrap (((x25.c2).tmod 8) + 8))).tmod 8)))).bind fun y5 =>
  (bif (decide (y5.2 = 0)) then
   aft (rangeN (law08_FdbForgets_c1 a2 x25 s25 y5) 12 ()) fun s26 =>
   some (.nxt ((IntKind.i64.wrap (s25.1 + (((IntKind.i64.wrap (((x25.c2).tmod 8) + 8))).tmod 8))), y5.1, s25.2.2.1, s25.2.2.2.1, s25.2.2.2.2))
  else
   (bif (bif (!decide (y5.2 = 5)) then (!decide (y5.2 = 4)) else false) then
    some (.ret false)
   else
    aft (rangeN (law08_FdbForgets_c2 a2 x25 s25) 12 ()) fun s27 =>
    some (.nxt ((IntKind.i64.wrap (s25.1 + (((IntKind.i64.wrap (((x25.c2).tmod 8) + 8))).tmod 8))), s25.2.1, s25.2.2.1, s25.2.2.2.1, s25.2.2.2.2))))
 else
  (bif (decide ((((IntKind.i64.wrap (((x25.c0).tmod 8) + 8))).tmod 8) = 1)) then
   (fdb_Pin s25.2.1 (IntKind.i64.wrap (2 * (((IntKind.i64.wrap (((x25.c1).tmod 12) + 12))).tmod 12))) (((IntKind.i64.wrap (((x25.c2).tmod 8) + 8))).tmod 8)).bind fun y11 =>
   (bif (decide (y11.2 = 0)) then
    (bif (decide (y11.2 = 0)) then
     aft (rangeN (law08_FdbForgets_c3 a2 x25 s25 y11) 12 ()) fun s56 =>
     some (.nxt (s25.1, y11.1, s25.2.2.1, s25.2.2.2.1, (mput s25.2.2.2.2 (IntKind.i64.wrap (2 * (((IntKind.i64.wrap (((x25.c1).tmod 12) + 12))).tmod 12))) (IntKind.i64.wrap ((((IntKind.i64.wrap (((x25.c2).tmod 8) + 8))).tmod 8) + 1)))))
    else
     (bif (bif (!decide (y11.2 = 5)) then (!decide (y11.2 = 4)) else false) then
      some (.ret false)
     else
      aft (rangeN (law08_FdbForgets_c4 a2 x25 s25) 12 ()) fun s57 =>
      some (.nxt (s25.1, s25.2.1, s25.2.2.1, s25.2.2.2.1, (mput s25.2.2.2.2 (IntKind.i64.wrap (2 * (((IntKind.i64.wrap (((x25.c1).tmod 12) + 12))).tmod 12))) (IntKind.i64.wrap ((((IntKind.i64.wrap (((x25.c2).tmod 8) + 8))).tmod 8) + 1)))))))
   else
    (bif (decide (y11.2 = 0)) then
     aft (rangeN (law08_FdbForgets_c5 a2 s25 y11) 12 ()) fun s59 =>
     some (.nxt (s25.1, y11.1, s25.2.2.1, s25.2.2.2.1, s25.2.2.2.2))
    else
     (bif (bif (!decide (y11.2 = 5)) then (!decide (y11.2 = 4)) else false) then
      some (.ret false)
     else
      aft (rangeN (law08_FdbForgets_c6 a2 s25) 12 ()) fun s60 =>
      some (.nxt (s25.1, s25.2.1, s25.2.2.1, s25.2.2.2.1, s25.2.2.2.2)))))
  else
   (bif (decide ((((IntKind.i64.wrap (((x25.c0).tmod 8) + 8))).tmod 8) = 2)) then
    (fdb_Unpin s25.2.1 (IntKind.i64.wrap (2 * (((IntKind.i64.wrap (((x25.c1).tmod 12) + 12))).tmod 12)))).bind fun y21 =>
    (bif (!((decide (y21.2 = 0)) == (decide (0 < (mget s25.2.2.2.2 (IntKind.i64.wrap (2 * (((IntKind.i64.wrap (((x25.c1).tmod 12) + 12))).tmod 12))) 0))))) then
     some (.ret false)
    else
     (bif (decide (y21.2 = 0)) then
      (bif (decide (y21.2 = 0)) then
       aft (rangeN (law08_FdbForgets_c7 a2 x25 s25 y21) 12 ()) fun s65 =>
       some (.nxt (s25.1, y21.1, (mput s25.2.2.1 (IntKind.i64.wrap (2 * (((IntKind.i64.wrap (((x25.c1).tmod 12) + 12))).tmod 12))) 0), s25.2.2.2.1, (mput s25.2.2.2.2 (IntKind.i64.wrap (2 * (((IntKind.i64.wrap (((x25.c1).tmod 12) + 12))).tmod 12))) 0)))
      else
       (bif (bif (!decide (y21.2 = 5)) then (!decide (y21.2 = 4)) else false) then
        some (.ret false)
       else
        aft (rangeN (law08_FdbForgets_c8 a2 x25 s25) 12 ()) fun s66 =>
        some (.nxt (s25.1, s25.2.1, (mput s25.2.2.1 (IntKind.i64.wrap (2 * (((IntKind.i64.wrap (((x25.c1).tmod 12) + 12))).tmod 12))) 0), s25.2.2.2.1, (mput s25.2.2.2.2 (IntKind.i64.wrap (2 * (((IntKind.i64.wrap (((x25.c1).tmod 12) + 12))).tmod 12))) 0)))))
     else
      (bif (decide (y21.2 = 0)) then
       aft (rangeN (law08_FdbForgets_c9 a2 s25 y21) 12 ()) fun s68 =>
       some (.nxt (s25.1, y21.1, s25.2.2.1, s25.2.2.2.1, s25.2.2.2.2))
      else
       (bif (bif (!decide (y21.2 = 5)) then (!decide (y21.2 = 4)) else false) then
        some (.ret false)
       else
        aft (rangeN (law08_FdbForgets_c10 a2 s25) 12 ()) fun s69 =>
        some (.nxt (s25.1, s25.2.1, s25.2.2.1, s25.2.2.2.1, s25.2.2.2.2))))))
   else
    (bif (decide ((((IntKind.i64.wrap (((x25.c0).tmod 8) + 8))).tmod 8) = 3)) then
     (fdb_Flush s25.2.1 (IntKind.i64.wrap ((((IntKind.i64.wrap (((x25.c2).tmod 8) + 8))).tmod 8) - 1))).bind fun y31 =>
     (bif (decide (y31.2 = 0)) then
      aft (rangeN (law08_FdbForgets_c11 a2 s25 y31) 12 ()) fun s77 =>
      some (.nxt (s25.1, y31.1, s25.2.2.1, s25.2.2.2.1, s25.2.2.2.2))
     else
      (bif (bif (!decide (y31.2 = 5)) then (!decide (y31.2 = 4)) else false) then
       some (.ret false)
      else
       aft (rangeN (law08_FdbForgets_c12 a2 s25) 12 ()) fun s78 =>
       some (.nxt (s25.1, s25.2.1, s25.2.2.1, s25.2.2.2.1, s25.2.2.2.2))))
    else
     (fdb_Learn s25.2.1 (IntKind.i64.wrap (2 * (((IntKind.i64.wrap (((x25.c1).tmod 12) + 12))).tmod 12))) (((IntKind.i64.wrap (((x25.c2).tmod 8) + 8))).tmod 8) s25.1).bind fun y37 =>
     (bif (decide ((mget s25.2.2.2.2 (IntKind.i64.wrap (2 * (((IntKind.i64.wrap (((x25.c1).tmod 12) + 12))).tmod 12))) 0) = 0)) then
      (fdb_Find y37.1 (IntKind.i64.wrap (2 * (((IntKind.i64.wrap (((x25.c1).tmod 12) + 12))).tmod 12))) s25.1).bind fun y39 =>
      (bif (bif (bif (!decide (y37.2 = 0)) then true else (!decide (y39.2 = 0))) then true else (bif (decide (y39.1 = (-1))) then (decide (((s25.2.2.2.2.length : Nat) : Int) < (IntKind.i64.wrap (1 + (((IntKind.i64.wrap (((a1).tmod 4) + 4))).tmod 4))))) else false)) then
       some (.ret false)
      else
       (bif (decide (y37.2 = 0)) then
        aft (rangeN (law08_FdbForgets_c13 a2 x25 s25 y37) 12 ()) fun s80 =>
        some (.nxt (s25.1, y37.1, (mput s25.2.2.1 (IntKind.i64.wrap (2 * (((IntKind.i64.wrap (((x25.c1).tmod 12) + 12))).tmod 12))) (IntKind.i64.wrap ((((IntKind.i64.wrap (((x25.c2).tmod 8) + 8))).tmod 8) + 1))), (mput s25.2.2.2.1 (IntKind.i64.wrap (2 * (((IntKind.i64.wrap (((x25.c1).tmod 12) + 12))).tmod 12))) s25.1), s25.2.2.2.2))
       else
        (bif (bif (!decide (y37.2 = 5)) then (!decide (y37.2 = 4)) else false) then
         some (.ret false)
        else
         aft (rangeN (law08_FdbForgets_c14 a2 x25 s25) 12 ()) fun s81 =>
         some (.nxt (s25.1, s25.2.1, (mput s25.2.2.1 (IntKind.i64.wrap (2 * (((IntKind.i64.wrap (((x25.c1).tmod 12) + 12))).tmod 12))) (IntKind.i64.wrap ((((IntKind.i64.wrap (((x25.c2).tmod 8) + 8))).tmod 8) + 1))), (mput s25.2.2.2.1 (IntKind.i64.wrap (2 * (((IntKind.i64.wrap (((x25.c1).tmod 12) + 12))).tmod 12))) s25.1), s25.2.2.2.2)))))
     else
      (fdb_Find y37.1 (IntKind.i64.wrap (2 * (((IntKind.i64.wrap (((x25.c1).tmod 12) + 12))).tmod 12))) s25.1).bind fun y45 =>
      (bif (bif (bif (!decide (y37.2 = 0)) then true else (!decide (y45.2 = 0))) then true else (bif (decide (y45.1 = (-1))) then (decide (((s25.2.2.2.2.length : Nat) : Int) < (IntKind.i64.wrap (1 + (((IntKind.i64.wrap (((a1).tmod 4) + 4))).tmod 4))))) else false)) then
       some (.ret false)
      else
       (bif (decide (y37.2 = 0)) then
        aft (rangeN (law08_FdbForgets_c15 a2 s25 y37) 12 ()) fun s83 =>
        some (.nxt (s25.1, y37.1, s25.2.2.1, s25.2.2.2.1, s25.2.2.2.2))
       else
        (bif (bif (!decide (y37.2 = 5)) then (!decide (y37.2 = 4)) else false) then
         some (.ret false)
        else
         aft (rangeN (law08_FdbForgets_c16 a2 s25) 12 ()) fun s84 =>
         some (.nxt (s25.1, s25.2.1, s25.2.2.1, s25.2.2.2.1, s25.2.2.2.2))))))))))

def law08_FdbForgets (a0 : Int) (a1 : Int) (a2 : Int) (a3 : (List A3_Int)) : Option Bool :=
 grd ((0 : Int) ≤ (((IntKind.i64.wrap (((a0).tmod 5) + 5))).tmod 5)) <|
 (fdb_New (IntKind.i64.wrap (1 * 2 ^ (min ((((IntKind.i64.wrap (((a0).tmod 5) + 5))).tmod 5) : Int).toNat 64))) (IntKind.i64.wrap (1 + (((IntKind.i64.wrap (((a1).tmod 4) + 4))).tmod 4))) (IntKind.i64.wrap (1 + (((IntKind.i64.wrap (((a2).tmod 50) + 50))).tmod 50)))).bind fun y2 =>
 (bif (!decide (y2.2 = 0)) then
  some false
 else
  grd ((0 : Int) ≤ (mn ((a3.length : Nat) : Int) 80) ∧ (mn ((a3.length : Nat) : Int) 80) ≤ ((a3.length : Nat) : Int)) <|
  aft (rangeL (law08_FdbForgets_c0 a1 a2) (a3.take ((mn ((a3.length : Nat) : Int) 80) : Int).toNat) (0, y2.1, ([] : List (Int × Int)), ([] : List (Int × Int)), ([] : List (Int × Int)))) fun s25 =>
  (law08_alive ).bind fun y51 =>
  some y51)

abbrev k1F (x25 : A3_Int) : Int := IntKind.i64.wrap (2 * (((IntKind.i64.wrap (((x25.c1).tmod 12) + 12))).tmod 12))
abbrev v2F (x25 : A3_Int) : Int := ((IntKind.i64.wrap (((x25.c2).tmod 8) + 8))).tmod 8
abbrev slF (a1 : Int) : Int := IntKind.i64.wrap (1 + (((IntKind.i64.wrap (((a1).tmod 4) + 4))).tmod 4))
abbrev agF (a2 : Int) : Int := IntKind.i64.wrap (1 + (((IntKind.i64.wrap (((a2).tmod 50) + 50))).tmod 50))
theorem bmI (n : Nat) (m : List (Int × Int)) : ∀ p ∈ m.map (mpC I I), bel n p.1 ∧ bel n p.2 := bel_mp (f := I) (g := I) (fun _ => by repeat' first | exact True.intro | refine ⟨?_, ?_⟩) (fun _ => by repeat' first | exact True.intro | refine ⟨?_, ?_⟩) n m
theorem c_law08_FdbForgets (a0 : Int) (a1 : Int) (a2 : Int) (a3 : (List A3_Int)) (r : Bool) (h : law08_FdbForgets a0 a1 a2 a3 = some r) : CallP Try.prog 7 [(I a0), (I a1), (I a2), (LV.ro 3 (a3.map A3_Int.cells))] (LV.bool r) := by
 unfold law08_FdbForgets at h
 refine .intro nlA (.intro TT_ok Try.func7 rfl rfl [0, 1, 2, 3, 8, 9, 10, 11, 12, 13, 14, 16, 17, 18, 19, 20, 21, 22, 23, 24, 25, 49, 57, 58, 59, 60, 78, 90, 120, 121, 132, 142, 147, 161, 163, 168, 178, 185, 186, 187, 214, 242] rfl ?_)
 conv => whnf
 replace h := grdS h
 obtain ⟨g1, h⟩ := h
 replace h := bindS h
 obtain ⟨y2, hy2, h⟩ := h
 have c3 := c_fdb_New (IntKind.i64.wrap (1 * 2 ^ (min ((((IntKind.i64.wrap (((a0).tmod 5) + 5))).tmod 5) : Int).toNat 64))) (slF a1) (agF a2) _ hy2
 repeat' first | exact rA _ | refine parkI ?_ | exact g1 | (refine CallP.use c3 ?_; conv => whnf) | (refine ⟨_, _, CallP.at c3, ?_⟩; conv => whnf) | (refine ⟨_, fun _ => c3, ?_⟩; conv => whnf) | exact (by decide : ((5 : Int) ≠ 0)) | exact (by decide : ((5 : Int) ≠ 0)) | exact (by decide : ((4 : Int) ≠ 0)) | exact (by decide : ((4 : Int) ≠ 0)) | exact (by decide : ((50 : Int) ≠ 0)) | exact (by decide : ((50 : Int) ≠ 0)) | (refine W.drawn TT_ok hmix1 rfl ?_; conv => whnf) | exact clA _ | (refine And.intro ?_ ?_ <;> conv => whnf) | exact clG _ | (refine gand ?_ h; assumption) | exact clN _ | fail
 refine parkE (fun hc => ?_) (fun hc => ?_)
 ·replace h := condT hc h
  conv => whnf
  have e := Option.some.inj h
  subst e
  repeat' first | exact rA _ | (refine W.drawn TT_ok hmix1 rfl ?_; conv => whnf) | exact clA _ | (refine And.intro ?_ ?_ <;> conv => whnf) | exact clG _ | (refine gand ?_ h; assumption) | exact clN _ | fail
 ·replace h := condF hc h
  conv => whnf
  replace h := grdS h
  obtain ⟨g4, h⟩ := h
  replace g4 : (0 : Int) ≤ (mn (((a3.map A3_Int.cells).length : Nat) : Int) 80) ∧ (mn (((a3.map A3_Int.cells).length : Nat) : Int) 80) ≤ (((a3.map A3_Int.cells).length : Nat) : Int) := by simpa only [se_len, se_ch, List.length_map] using g4
  repeat' first | exact rA _ | refine parkI ?_ | exact g4 | (refine W.drawn TT_ok hmix1 rfl ?_; conv => whnf) | exact clA _ | (refine And.intro ?_ ?_ <;> conv => whnf) | exact clG _ | (refine gand ?_ h; assumption) | exact clN _ | fail
  replace h := aftS h
  obtain ⟨O25, hO25, r25⟩ := h
  refine LoopW.norm [(1, (I (slF a1))), (2, (I (agF a2))), (9, (LV.ptr 0 0 0)), (11, (LV.map 1)), (12, (LV.map 2)), (13, (LV.map 3)), (14, (I 0)), (57, (LV.ro 3 ((a3.map A3_Int.cells).take ((mn (((a3.map A3_Int.cells).length : Nat) : Int) 80) : Int).toNat))), (58, (I ((((a3.map A3_Int.cells).take ((mn (((a3.map A3_Int.cells).length : Nat) : Int) 80) : Int).toNat).length : Nat) : Int))), (59, (I ((0 : Nat) : Int)))] 4 [(0, (.row 69 3 [[(LV.ro 1 (y2.1.Buckets.map (roC 4 EnC))), (I y2.1.Slots), (I y2.1.Age)]])), (1, (.mp (([] : List (Int × Int)).map (mpC I I)))), (2, (.mp (([] : List (Int × Int)).map (mpC I I)))), (3, (.mp (([] : List (Int × Int)).map (mpC I I))))] ⟨rfl, rfl, rfl, rfl, rfl, rfl, rfl, rfl, rfl, rfl, trivial⟩ ⟨⟨rfl, rfl, blT⟩, ⟨⟨(congrArg (fun q => some (Blk.mp q)) (by simp only [se_mp] : (([] : List (LV × LV)) : List (LV × LV)) = (([] : List (Int × Int)).map (mpC I I)))), rfl, bmI _ _⟩, ⟨⟨(congrArg (fun q => some (Blk.mp q)) (by simp only [se_mp] : (([] : List (LV × LV)) : List (LV × LV)) = (([] : List (Int × Int)).map (mpC I I)))), rfl, bmI _ _⟩, ⟨⟨(congrArg (fun q => some (Blk.mp q)) (by simp only [se_mp] : (([] : List (LV × LV)) : List (LV × LV)) = (([] : List (Int × Int)).map (mpC I I)))), rfl, bmI _ _⟩, trivial⟩⟩⟩⟩ blT rfl ?_
  refine LoopW.forR (fun k25 s25 => [(1, (I (slF a1))), (2, (I (agF a2))), (9, (LV.ptr 0 0 0)), (11, (LV.map 1)), (12, (LV.map 2)), (13, (LV.map 3)), (14, (I s25.1)), (57, (LV.ro 3 ((a3.map A3_Int.cells).take ((mn (((a3.map A3_Int.cells).length : Nat) : Int) 80) : Int).toNat))), (58, (I ((((a3.map A3_Int.cells).take ((mn (((a3.map A3_Int.cells).length : Nat) : Int) 80) : Int).toNat).length : Nat) : Int))), (59, (I ((k25 : Nat) : Int)))]) (fun s25 => ⟨4, [(0, (.row 69 3 [[(LV.ro 1 (s25.2.1.Buckets.map (roC 4 EnC))), (I s25.2.1.Slots), (I s25.2.1.Age)]])), (1, (.mp (s25.2.2.1.map (mpC I I)))), (2, (.mp (s25.2.2.2.1.map (mpC I I)))), (3, (.mp (s25.2.2.2.2.map (mpC I I))))]⟩) hO25 (fun hl25 s25 hs25 => ?_) (fun hl25 k25 x25 s25 o25 hk25 hx25 b25 K25 hret25 hbrk25 => ?_)
  ·rw [hs25] at r25
   dsimp only [aftM] at r25
   have hd : decide ((((a3.take ((mn ((a3.length : Nat) : Int) 80) : Int).toNat).length : Nat) : Int) < ((((a3.map A3_Int.cells).take ((mn (((a3.map A3_Int.cells).length : Nat) : Int) 80) : Int).toNat).length : Nat) : Int)) = false := by rw [decide_eq_false_iff_not]; (try simp only [se_len, se_ch, List.length_map]); omega
   refine LoopW.round TT_ok [0, 1, 2, 3, 8, 9, 10, 11, 12, 13, 14, 16, 17, 18, 19, 20, 21, 22, 23, 24, 25, 49, 57, 58, 59, 60, 78, 90, 120, 121, 132, 142, 147, 161, 163, 168, 178, 185, 186, 187, 214, 242] ?_
   conv => whnf
   repeat' first | exact rA _ | refine parkI ?_ | (refine W.drawn TT_ok hmix1 rfl ?_; conv => whnf) | exact clA _ | (refine And.intro ?_ ?_ <;> conv => whnf) | exact clG _ | (refine gand ?_ h; assumption) | exact clN _ | fail
   refine parkE (fun hc => ?_) (fun hc => ?_)
   ·exact (Bool.false_ne_true (hd.symm.trans hc)).elim
   ·clear hd
    conv => whnf
    replace r25 := bindS r25
    obtain ⟨y51, hy51, r25⟩ := r25
    have c52 := c_law08_alive  _ hy51
    have e := Option.some.inj r25
    subst e
    repeat' first | exact rA _ | (refine CallP.use c52 ?_; conv => whnf) | (refine ⟨_, _, CallP.at c52, ?_⟩; conv => whnf) | (refine ⟨_, fun _ => c52, ?_⟩; conv => whnf) | (refine W.drawn TT_ok hmix1 rfl ?_; conv => whnf) | exact clA _ | (refine And.intro ?_ ?_ <;> conv => whnf) | exact clG _ | (refine gand ?_ h; assumption) | exact clN _ | fail
  ·unfold law08_FdbForgets_c0 at b25
   have fx25 : (0 : Int) ≤ ((k25 : Nat) : Int) ∧ (((a3.map A3_Int.cells).take ((mn (((a3.map A3_Int.cells).length : Nat) : Int) 80) : Int).toNat))[((k25 : Nat) : Int).toNat]? = some (A3_Int.cells x25) := by (have h0 := kixF (f := A3_Int.cells) hx25); simpa only [se_map, se_len, se_byL, List.length_map] using h0
   have hd : decide (((k25 : Nat) : Int) < ((((a3.map A3_Int.cells).take ((mn (((a3.map A3_Int.cells).length : Nat) : Int) 80) : Int).toNat).length : Nat) : Int)) = true := by rw [decide_eq_true_eq]; (try simp only [se_len, se_ch, List.length_map] at hk25); (try simp only [se_len, se_ch, List.length_map]); omega
   refine LoopW.round TT_ok [0, 1, 2, 3, 8, 9, 10, 11, 12, 13, 14, 16, 17, 18, 19, 20, 21, 22, 23, 24, 25, 49, 57, 58, 59, 60, 78, 90, 120, 121, 132, 142, 147, 161, 163, 168, 178, 185, 186, 187, 214, 242] ?_
   conv => whnf
   repeat' first | exact rA _ | refine parkI ?_ | (refine W.drawn TT_ok hmix1 rfl ?_; conv => whnf) | exact clA _ | (refine And.intro ?_ ?_ <;> conv => whnf) | exact clG _ | (refine gand ?_ h; assumption) | exact clN _ | fail
   refine parkE (fun hc => ?_) (fun hc => ?_)
   ·clear hd
    conv => whnf
    repeat' first | exact rA _ | refine parkI ?_ | (refine ⟨_, fx25, ?_⟩; conv => whnf) | exact (⟨by decide, by decide⟩ : (0 : Int) ≤ 1 ∧ (1 : Int) < 3) | exact (by decide : ((12 : Int) ≠ 0)) | exact (by decide : ((12 : Int) ≠ 0)) | exact (⟨by decide, by decide⟩ : (0 : Int) ≤ 2 ∧ (2 : Int) < 3) | exact (by decide : ((8 : Int) ≠ 0)) | exact (by decide : ((8 : Int) ≠ 0)) | exact (⟨by decide, by decide⟩ : (0 : Int) ≤ 0 ∧ (0 : Int) < 3) | exact (by decide : ((8 : Int) ≠ 0)) | exact (by decide : ((8 : Int) ≠ 0)) | (refine W.drawn TT_ok hmix1 rfl ?_; conv => whnf) | exact clA _ | (refine And.intro ?_ ?_ <;> conv => whnf) | exact clG _ | (refine gand ?_ h; assumption) | exact clN _ | fail
    refine parkE (fun hc => ?_) (fun hc => ?_)
    ·replace b25 := condT hc b25
     conv => whnf
     replace b25 := bindS b25
     obtain ⟨y5, hy5, b25⟩ := b25
     have c6 := c_fdb_Sweep s25.2.1 (IntKind.i64.wrap (s25.1 + (v2F x25))) _ hy5
     repeat' first | exact rA _ | refine parkI ?_ | (refine CallP.use c6 ?_; conv => whnf) | (refine ⟨_, _, CallP.at c6, ?_⟩; conv => whnf) | (refine ⟨_, fun _ => c6, ?_⟩; conv => whnf) | (refine W.drawn TT_ok hmix1 rfl ?_; conv => whnf) | exact clA _ | (refine And.intro ?_ ?_ <;> conv => whnf) | exact clG _ | (refine gand ?_ h; assumption) | exact clN _ | fail
     refine parkE (fun hc => ?_) (fun hc => ?_)
     ·replace b25 := condT hc b25
      conv => whnf
      repeat' first | exact rA _ | refine parkI ?_ | (refine W.drawn TT_ok hmix1 rfl ?_; conv => whnf) | exact clA _ | (refine And.intro ?_ ?_ <;> conv => whnf) | exact clG _ | (refine gand ?_ h; assumption) | exact clN _ | fail
      replace b25 := aftS b25
      obtain ⟨O26, hO26, r26⟩ := b25
      refine LoopW.norm [(1, (I (slF a1))), (2, (I (agF a2))), (9, (LV.ptr 0 0 0)), (11, (LV.map 1)), (12, (LV.map 2)), (13, (LV.map 3)), (14, (I (IntKind.i64.wrap (s25.1 + (v2F x25))))), (57, (LV.ro 3 ((a3.map A3_Int.cells).take ((mn (((a3.map A3_Int.cells).length : Nat) : Int) 80) : Int).toNat))), (58, (I ((((a3.map A3_Int.cells).take ((mn (((a3.map A3_Int.cells).length : Nat) : Int) 80) : Int).toNat).length : Nat) : Int))), (59, (I ((k25 : Nat) : Int))), (186, (I ((0 : Nat) : Int)))] 4 [(0, (.row 69 3 [[(LV.ro 1 (y5.1.Buckets.map (roC 4 EnC))), (I y5.1.Slots), (I y5.1.Age)]])), (1, (.mp (s25.2.2.1.map (mpC I I)))), (2, (.mp (s25.2.2.2.1.map (mpC I I)))), (3, (.mp (s25.2.2.2.2.map (mpC I I))))] ⟨rfl, rfl, rfl, rfl, rfl, rfl, rfl, rfl, rfl, rfl, rfl, trivial⟩ ⟨⟨rfl, rfl, blT⟩, ⟨⟨rfl, rfl, bmI _ _⟩, ⟨⟨rfl, rfl, bmI _ _⟩, ⟨⟨rfl, rfl, bmI _ _⟩, trivial⟩⟩⟩⟩ blT rfl ?_
      refine LoopW.forN (fun k26 s26 => [(1, (I (slF a1))), (2, (I (agF a2))), (9, (LV.ptr 0 0 0)), (11, (LV.map 1)), (12, (LV.map 2)), (13, (LV.map 3)), (14, (I (IntKind.i64.wrap (s25.1 + (v2F x25))))), (57, (LV.ro 3 ((a3.map A3_Int.cells).take ((mn (((a3.map A3_Int.cells).length : Nat) : Int) 80) : Int).toNat))), (58, (I ((((a3.map A3_Int.cells).take ((mn (((a3.map A3_Int.cells).length : Nat) : Int) 80) : Int).toNat).length : Nat) : Int))), (59, (I ((k25 : Nat) : Int))), (186, (I ((k26 : Nat) : Int)))]) (fun s26 => ⟨4, [(0, (.row 69 3 [[(LV.ro 1 (y5.1.Buckets.map (roC 4 EnC))), (I y5.1.Slots), (I y5.1.Age)]])), (1, (.mp (s25.2.2.1.map (mpC I I)))), (2, (.mp (s25.2.2.2.1.map (mpC I I)))), (3, (.mp (s25.2.2.2.2.map (mpC I I))))]⟩) hO26 (fun hl26 s26 hs26 => ?_) (fun hl26 k26 s26 o26 hk26 b26 K26 hret26 hbrk26 => ?_)
      ·rw [hs26] at r26
       dsimp only [aftM] at r26
       have hd : decide ((((12 : Int).toNat : Nat) : Int) < 12) = false := by rw [decide_eq_false_iff_not]; (try simp only [se_len, se_ch, List.length_map]); omega
       refine LoopW.round TT_ok [0, 1, 2, 3, 8, 9, 10, 11, 12, 13, 14, 16, 17, 18, 19, 20, 21, 22, 23, 24, 25, 49, 57, 58, 59, 60, 78, 90, 120, 121, 132, 142, 147, 161, 163, 168, 178, 185, 186, 187, 214, 242] ?_
       conv => whnf
       repeat' first | exact rA _ | refine parkI ?_ | (refine W.drawn TT_ok hmix1 rfl ?_; conv => whnf) | exact clA _ | (refine And.intro ?_ ?_ <;> conv => whnf) | exact clG _ | (refine gand ?_ h; assumption) | exact clN _ | fail
       refine parkE (fun hc => ?_) (fun hc => ?_)
       ·exact (Bool.false_ne_true (hd.symm.trans hc)).elim
       ·clear hd
        conv => whnf
        repeat' first | exact rA _ | refine parkI ?_ | (refine W.drawn TT_ok hmix1 rfl ?_; conv => whnf) | exact clA _ | (refine And.intro ?_ ?_ <;> conv => whnf) | exact clG _ | (refine gand ?_ h; assumption) | exact clN _ | fail
        have e := Option.some.inj r26
        refine LoopW.norm [(1, (I (slF a1))), (2, (I (agF a2))), (9, (LV.ptr 0 0 0)), (11, (LV.map 1)), (12, (LV.map 2)), (13, (LV.map 3)), (14, (I (IntKind.i64.wrap (s25.1 + (v2F x25))))), (57, (LV.ro 3 ((a3.map A3_Int.cells).take ((mn (((a3.map A3_Int.cells).length : Nat) : Int) 80) : Int).toNat))), (58, (I ((((a3.map A3_Int.cells).take ((mn (((a3.map A3_Int.cells).length : Nat) : Int) 80) : Int).toNat).length : Nat) : Int))), (59, (I ((k25 + 1 : Nat) : Int)))] 4 [(0, (.row 69 3 [[(LV.ro 1 (y5.1.Buckets.map (roC 4 EnC))), (I y5.1.Slots), (I y5.1.Age)]])), (1, (.mp (s25.2.2.1.map (mpC I I)))), (2, (.mp (s25.2.2.2.1.map (mpC I I)))), (3, (.mp (s25.2.2.2.2.map (mpC I I))))] ⟨rfl, rfl, rfl, rfl, rfl, rfl, rfl, rfl, rfl, (congrArg (LV.int .i64) (w64_nat _ (by omega))), trivial⟩ ⟨⟨rfl, rfl, blT⟩, ⟨⟨rfl, rfl, bmI _ _⟩, ⟨⟨rfl, rfl, bmI _ _⟩, ⟨⟨rfl, rfl, bmI _ _⟩, trivial⟩⟩⟩⟩ blT rfl (K25 _ e.symm)
      ·unfold law08_FdbForgets_c1 at b26
       have hd : decide (((k26 : Nat) : Int) < 12) = true := by rw [decide_eq_true_eq]; (try simp only [se_len, se_ch, List.length_map] at hk26); (try simp only [se_len, se_ch, List.length_map]); omega
       refine LoopW.round TT_ok [0, 1, 2, 3, 8, 9, 10, 11, 12, 13, 14, 16, 17, 18, 19, 20, 21, 22, 23, 24, 25, 49, 57, 58, 59, 60, 78, 90, 120, 121, 132, 142, 147, 161, 163, 168, 178, 185, 186, 187, 214, 242] ?_
       conv => whnf
       repeat' first | exact rA _ | refine parkI ?_ | (refine W.drawn TT_ok hmix1 rfl ?_; conv => whnf) | exact clA _ | (refine And.intro ?_ ?_ <;> conv => whnf) | exact clG _ | (refine gand ?_ h; assumption) | exact clN _ | fail
       refine parkE (fun hc => ?_) (fun hc => ?_)
       ·clear hd
        conv => whnf
        replace b26 := bindS b26
        obtain ⟨y7, hy7, b26⟩ := b26
        have c8 := c_fdb_Find y5.1 (IntKind.i64.wrap (2 * ((k26 : Nat) : Int))) (IntKind.i64.wrap (s25.1 + (v2F x25))) _ hy7
        repeat' first | exact rA _ | refine parkI ?_ | (refine CallP.use c8 ?_; conv => whnf) | (refine ⟨_, _, CallP.at c8, ?_⟩; conv => whnf) | (refine ⟨_, fun _ => c8, ?_⟩; conv => whnf) | (refine ⟨symR I s25.2.2.2.2 (IntKind.i64.wrap (2 * ((k26 : Nat) : Int))), fun _ => findsS (f := I) (g := I) ke_3 s25.2.2.2.2 (IntKind.i64.wrap (2 * ((k26 : Nat) : Int))), ?_⟩; rw [resM_sym (d := 0)]; rotate_left; exact rfl; conv => whnf) | (refine W.drawn TT_ok hmix1 rfl ?_; conv => whnf) | exact clA _ | (refine And.intro ?_ ?_ <;> conv => whnf) | exact clG _ | (refine gand ?_ h; assumption) | exact clN _ | fail
        refine parkE (fun hc => ?_) (fun hc => ?_)
        ·replace b26 := condT hc b26
         conv => whnf
         have e := Option.some.inj b26
         replace e := hret26 _ e.symm
         rw [e] at r26
         replace e := Option.some.inj r26
         replace e := hret25 _ e.symm
         rw [e] at r25
         replace e := Option.some.inj r25
         subst e
         repeat' first | exact rA _ | (refine W.drawn TT_ok hmix1 rfl ?_; conv => whnf) | exact clA _ | (refine And.intro ?_ ?_ <;> conv => whnf) | exact clG _ | (refine gand ?_ h; assumption) | exact clN _ | fail
        ·replace b26 := condF hc b26
         conv => whnf
         repeat' first | exact rA _ | refine parkI ?_ | (refine ⟨symR I s25.2.2.2.2 (IntKind.i64.wrap (2 * ((k26 : Nat) : Int))), findsS (f := I) (g := I) ke_3 s25.2.2.2.2 (IntKind.i64.wrap (2 * ((k26 : Nat) : Int))), ?_⟩; rw [resM_sym (d := 0)]; rotate_left; exact rfl; conv => whnf) | (refine ⟨symR I s25.2.2.1 (IntKind.i64.wrap (2 * ((k26 : Nat) : Int))), fun _ => findsS (f := I) (g := I) ke_3 s25.2.2.1 (IntKind.i64.wrap (2 * ((k26 : Nat) : Int))), ?_⟩; rw [resM_sym (d := 0)]; rotate_left; exact rfl; conv => whnf) | (refine ⟨symR I s25.2.2.2.1 (IntKind.i64.wrap (2 * ((k26 : Nat) : Int))), fun _ => findsS (f := I) (g := I) ke_3 s25.2.2.2.1 (IntKind.i64.wrap (2 * ((k26 : Nat) : Int))), ?_⟩; rw [resM_sym (d := 0)]; rotate_left; exact rfl; conv => whnf) | (refine W.drawn TT_ok hmix1 rfl ?_; conv => whnf) | exact clA _ | (refine And.intro ?_ ?_ <;> conv => whnf) | exact clG _ | (refine gand ?_ h; assumption) | exact clN _ | fail
         refine parkE (fun hc => ?_) (fun hc => ?_)
         ·replace b26 := condT hc b26
          conv => whnf
          have e := Option.some.inj b26
          replace e := hret26 _ e.symm
          rw [e] at r26
          replace e := Option.some.inj r26
          replace e := hret25 _ e.symm
          rw [e] at r25
          replace e := Option.some.inj r25
          subst e
          repeat' first | exact rA _ | (refine W.drawn TT_ok hmix1 rfl ?_; conv => whnf) | exact clA _ | (refine And.intro ?_ ?_ <;> conv => whnf) | exact clG _ | (refine gand ?_ h; assumption) | exact clN _ | fail
         ·replace b26 := condF hc b26
          conv => whnf
          repeat' first | exact rA _ | refine parkI ?_ | (refine W.drawn TT_ok hmix1 rfl ?_; conv => whnf) | exact clA _ | (refine And.intro ?_ ?_ <;> conv => whnf) | exact clG _ | (refine gand ?_ h; assumption) | exact clN _ | fail
          have e := Option.some.inj b26
          refine LoopW.norm [(1, (I (slF a1))), (2, (I (agF a2))), (9, (LV.ptr 0 0 0)), (11, (LV.map 1)), (12, (LV.map 2)), (13, (LV.map 3)), (14, (I (IntKind.i64.wrap (s25.1 + (v2F x25))))), (57, (LV.ro 3 ((a3.map A3_Int.cells).take ((mn (((a3.map A3_Int.cells).length : Nat) : Int) 80) : Int).toNat))), (58, (I ((((a3.map A3_Int.cells).take ((mn (((a3.map A3_Int.cells).length : Nat) : Int) 80) : Int).toNat).length : Nat) : Int))), (59, (I ((k25 : Nat) : Int))), (186, (I ((k26 + 1 : Nat) : Int)))] 4 [(0, (.row 69 3 [[(LV.ro 1 (y5.1.Buckets.map (roC 4 EnC))), (I y5.1.Slots), (I y5.1.Age)]])), (1, (.mp (s25.2.2.1.map (mpC I I)))), (2, (.mp (s25.2.2.2.1.map (mpC I I)))), (3, (.mp (s25.2.2.2.2.map (mpC I I))))] ⟨rfl, rfl, rfl, rfl, rfl, rfl, rfl, rfl, rfl, rfl, (congrArg (LV.int .i64) (w64_nat _ (by omega))), trivial⟩ ⟨⟨rfl, rfl, blT⟩, ⟨⟨rfl, rfl, bmI _ _⟩, ⟨⟨rfl, rfl, bmI _ _⟩, ⟨⟨rfl, rfl, bmI _ _⟩, trivial⟩⟩⟩⟩ blT rfl (K26 _ e.symm)
       ·exact (Bool.false_ne_true (hc.symm.trans hd)).elim
     ·replace b25 := condF hc b25
      conv => whnf
      repeat' first | exact rA _ | refine parkI ?_ | (refine W.drawn TT_ok hmix1 rfl ?_; conv => whnf) | exact clA _ | (refine And.intro ?_ ?_ <;> conv => whnf) | exact clG _ | (refine gand ?_ h; assumption) | exact clN _ | fail
      refine parkE (fun hc => ?_) (fun hc => ?_)
      ·replace b25 := condT hc b25
       conv => whnf
       have e := Option.some.inj b25
       replace e := hret25 _ e.symm
       rw [e] at r25
       replace e := Option.some.inj r25
       subst e
       repeat' first | exact rA _ | (refine W.drawn TT_ok hmix1 rfl ?_; conv => whnf) | exact clA _ | (refine And.intro ?_ ?_ <;> conv => whnf) | exact clG _ | (refine gand ?_ h; assumption) | exact clN _ | fail
      ·replace b25 := condF hc b25
       conv => whnf
       repeat' first | exact rA _ | refine parkI ?_ | (refine W.drawn TT_ok hmix1 rfl ?_; conv => whnf) | exact clA _ | (refine And.intro ?_ ?_ <;> conv => whnf) | exact clG _ | (refine gand ?_ h; assumption) | exact clN _ | fail
       replace b25 := aftS b25
       obtain ⟨O27, hO27, r27⟩ := b25
       refine LoopW.norm [(1, (I (slF a1))), (2, (I (agF a2))), (9, (LV.ptr 0 0 0)), (11, (LV.map 1)), (12, (LV.map 2)), (13, (LV.map 3)), (14, (I (IntKind.i64.wrap (s25.1 + (v2F x25))))), (57, (LV.ro 3 ((a3.map A3_Int.cells).take ((mn (((a3.map A3_Int.cells).length : Nat) : Int) 80) : Int).toNat))), (58, (I ((((a3.map A3_Int.cells).take ((mn (((a3.map A3_Int.cells).length : Nat) : Int) 80) : Int).toNat).length : Nat) : Int))), (59, (I ((k25 : Nat) : Int))), (186, (I ((0 : Nat) : Int)))] 4 [(0, (.row 69 3 [[(LV.ro 1 (s25.2.1.Buckets.map (roC 4 EnC))), (I s25.2.1.Slots), (I s25.2.1.Age)]])), (1, (.mp (s25.2.2.1.map (mpC I I)))), (2, (.mp (s25.2.2.2.1.map (mpC I I)))), (3, (.mp (s25.2.2.2.2.map (mpC I I))))] ⟨rfl, rfl, rfl, rfl, rfl, rfl, rfl, rfl, rfl, rfl, rfl, trivial⟩ ⟨⟨rfl, rfl, blT⟩, ⟨⟨rfl, rfl, bmI _ _⟩, ⟨⟨rfl, rfl, bmI _ _⟩, ⟨⟨rfl, rfl, bmI _ _⟩, trivial⟩⟩⟩⟩ blT rfl ?_
       refine LoopW.forN (fun k27 s27 => [(1, (I (slF a1))), (2, (I (agF a2))), (9, (LV.ptr 0 0 0)), (11, (LV.map 1)), (12, (LV.map 2)), (13, (LV.map 3)), (14, (I (IntKind.i64.wrap (s25.1 + (v2F x25))))), (57, (LV.ro 3 ((a3.map A3_Int.cells).take ((mn (((a3.map A3_Int.cells).length : Nat) : Int) 80) : Int).toNat))), (58, (I ((((a3.map A3_Int.cells).take ((mn (((a3.map A3_Int.cells).length : Nat) : Int) 80) : Int).toNat).length : Nat) : Int))), (59, (I ((k25 : Nat) : Int))), (186, (I ((k27 : Nat) : Int)))]) (fun s27 => ⟨4, [(0, (.row 69 3 [[(LV.ro 1 (s25.2.1.Buckets.map (roC 4 EnC))), (I s25.2.1.Slots), (I s25.2.1.Age)]])), (1, (.mp (s25.2.2.1.map (mpC I I)))), (2, (.mp (s25.2.2.2.1.map (mpC I I)))), (3, (.mp (s25.2.2.2.2.map (mpC I I))))]⟩) hO27 (fun hl27 s27 hs27 => ?_) (fun hl27 k27 s27 o27 hk27 b27 K27 hret27 hbrk27 => ?_)
       ·rw [hs27] at r27
        dsimp only [aftM] at r27
        have hd : decide ((((12 : Int).toNat : Nat) : Int) < 12) = false := by rw [decide_eq_false_iff_not]; (try simp only [se_len, se_ch, List.length_map]); omega
        refine LoopW.round TT_ok [0, 1, 2, 3, 8, 9, 10, 11, 12, 13, 14, 16, 17, 18, 19, 20, 21, 22, 23, 24, 25, 49, 57, 58, 59, 60, 78, 90, 120, 121, 132, 142, 147, 161, 163, 168, 178, 185, 186, 187, 214, 242] ?_
        conv => whnf
        repeat' first | exact rA _ | refine parkI ?_ | (refine W.drawn TT_ok hmix1 rfl ?_; conv => whnf) | exact clA _ | (refine And.intro ?_ ?_ <;> conv => whnf) | exact clG _ | (refine gand ?_ h; assumption) | exact clN _ | fail
        refine parkE (fun hc => ?_) (fun hc => ?_)
        ·exact (Bool.false_ne_true (hd.symm.trans hc)).elim
        ·clear hd
         conv => whnf
         repeat' first | exact rA _ | refine parkI ?_ | (refine W.drawn TT_ok hmix1 rfl ?_; conv => whnf) | exact clA _ | (refine And.intro ?_ ?_ <;> conv => whnf) | exact clG _ | (refine gand ?_ h; assumption) | exact clN _ | fail
         have e := Option.some.inj r27
         refine LoopW.norm [(1, (I (slF a1))), (2, (I (agF a2))), (9, (LV.ptr 0 0 0)), (11, (LV.map 1)), (12, (LV.map 2)), (13, (LV.map 3)), (14, (I (IntKind.i64.wrap (s25.1 + (v2F x25))))), (57, (LV.ro 3 ((a3.map A3_Int.cells).take ((mn (((a3.map A3_Int.cells).length : Nat) : Int) 80) : Int).toNat))), (58, (I ((((a3.map A3_Int.cells).take ((mn (((a3.map A3_Int.cells).length : Nat) : Int) 80) : Int).toNat).length : Nat) : Int))), (59, (I ((k25 + 1 : Nat) : Int)))] 4 [(0, (.row 69 3 [[(LV.ro 1 (s25.2.1.Buckets.map (roC 4 EnC))), (I s25.2.1.Slots), (I s25.2.1.Age)]])), (1, (.mp (s25.2.2.1.map (mpC I I)))), (2, (.mp (s25.2.2.2.1.map (mpC I I)))), (3, (.mp (s25.2.2.2.2.map (mpC I I))))] ⟨rfl, rfl, rfl, rfl, rfl, rfl, rfl, rfl, rfl, (congrArg (LV.int .i64) (w64_nat _ (by omega))), trivial⟩ ⟨⟨rfl, rfl, blT⟩, ⟨⟨rfl, rfl, bmI _ _⟩, ⟨⟨rfl, rfl, bmI _ _⟩, ⟨⟨rfl, rfl, bmI _ _⟩, trivial⟩⟩⟩⟩ blT rfl (K25 _ e.symm)
       ·unfold law08_FdbForgets_c2 at b27
        have hd : decide (((k27 : Nat) : Int) < 12) = true := by rw [decide_eq_true_eq]; (try simp only [se_len, se_ch, List.length_map] at hk27); (try simp only [se_len, se_ch, List.length_map]); omega
        refine LoopW.round TT_ok [0, 1, 2, 3, 8, 9, 10, 11, 12, 13, 14, 16, 17, 18, 19, 20, 21, 22, 23, 24, 25, 49, 57, 58, 59, 60, 78, 90, 120, 121, 132, 142, 147, 161, 163, 168, 178, 185, 186, 187, 214, 242] ?_
        conv => whnf
        repeat' first | exact rA _ | refine parkI ?_ | (refine W.drawn TT_ok hmix1 rfl ?_; conv => whnf) | exact clA _ | (refine And.intro ?_ ?_ <;> conv => whnf) | exact clG _ | (refine gand ?_ h; assumption) | exact clN _ | fail
        refine parkE (fun hc => ?_) (fun hc => ?_)
        ·clear hd
         conv => whnf
         replace b27 := bindS b27
         obtain ⟨y9, hy9, b27⟩ := b27
         have c10 := c_fdb_Find s25.2.1 (IntKind.i64.wrap (2 * ((k27 : Nat) : Int))) (IntKind.i64.wrap (s25.1 + (v2F x25))) _ hy9
         repeat' first | exact rA _ | refine parkI ?_ | (refine CallP.use c10 ?_; conv => whnf) | (refine ⟨_, _, CallP.at c10, ?_⟩; conv => whnf) | (refine ⟨_, fun _ => c10, ?_⟩; conv => whnf) | (refine ⟨symR I s25.2.2.2.2 (IntKind.i64.wrap (2 * ((k27 : Nat) : Int))), fun _ => findsS (f := I) (g := I) ke_3 s25.2.2.2.2 (IntKind.i64.wrap (2 * ((k27 : Nat) : Int))), ?_⟩; rw [resM_sym (d := 0)]; rotate_left; exact rfl; conv => whnf) | (refine W.drawn TT_ok hmix1 rfl ?_; conv => whnf) | exact clA _ | (refine And.intro ?_ ?_ <;> conv => whnf) | exact clG _ | (refine gand ?_ h; assumption) | exact clN _ | fail
         refine parkE (fun hc => ?_) (fun hc => ?_)
         ·replace b27 := condT hc b27
          conv => whnf
          have e := Option.some.inj b27
          replace e := hret27 _ e.symm
          rw [e] at r27
          replace e := Option.some.inj r27
          replace e := hret25 _ e.symm
          rw [e] at r25
          replace e := Option.some.inj r25
          subst e
          repeat' first | exact rA _ | (refine W.drawn TT_ok hmix1 rfl ?_; conv => whnf) | exact clA _ | (refine And.intro ?_ ?_ <;> conv => whnf) | exact clG _ | (refine gand ?_ h; assumption) | exact clN _ | fail
         ·replace b27 := condF hc b27
          conv => whnf
          repeat' first | exact rA _ | refine parkI ?_ | (refine ⟨symR I s25.2.2.2.2 (IntKind.i64.wrap (2 * ((k27 : Nat) : Int))), findsS (f := I) (g := I) ke_3 s25.2.2.2.2 (IntKind.i64.wrap (2 * ((k27 : Nat) : Int))), ?_⟩; rw [resM_sym (d := 0)]; rotate_left; exact rfl; conv => whnf) | (refine ⟨symR I s25.2.2.1 (IntKind.i64.wrap (2 * ((k27 : Nat) : Int))), fun _ => findsS (f := I) (g := I) ke_3 s25.2.2.1 (IntKind.i64.wrap (2 * ((k27 : Nat) : Int))), ?_⟩; rw [resM_sym (d := 0)]; rotate_left; exact rfl; conv => whnf) | (refine ⟨symR I s25.2.2.2.1 (IntKind.i64.wrap (2 * ((k27 : Nat) : Int))), fun _ => findsS (f := I) (g := I) ke_3 s25.2.2.2.1 (IntKind.i64.wrap (2 * ((k27 : Nat) : Int))), ?_⟩; rw [resM_sym (d := 0)]; rotate_left; exact rfl; conv => whnf) | (refine W.drawn TT_ok hmix1 rfl ?_; conv => whnf) | exact clA _ | (refine And.intro ?_ ?_ <;> conv => whnf) | exact clG _ | (refine gand ?_ h; assumption) | exact clN _ | fail
          refine parkE (fun hc => ?_) (fun hc => ?_)
          ·replace b27 := condT hc b27
           conv => whnf
           have e := Option.some.inj b27
           replace e := hret27 _ e.symm
           rw [e] at r27
           replace e := Option.some.inj r27
           replace e := hret25 _ e.symm
           rw [e] at r25
           replace e := Option.some.inj r25
           subst e
           repeat' first | exact rA _ | (refine W.drawn TT_ok hmix1 rfl ?_; conv => whnf) | exact clA _ | (refine And.intro ?_ ?_ <;> conv => whnf) | exact clG _ | (refine gand ?_ h; assumption) | exact clN _ | fail
          ·replace b27 := condF hc b27
           conv => whnf
           repeat' first | exact rA _ | refine parkI ?_ | (refine W.drawn TT_ok hmix1 rfl ?_; conv => whnf) | exact clA _ | (refine And.intro ?_ ?_ <;> conv => whnf) | exact clG _ | (refine gand ?_ h; assumption) | exact clN _ | fail
           have e := Option.some.inj b27
           refine LoopW.norm [(1, (I (slF a1))), (2, (I (agF a2))), (9, (LV.ptr 0 0 0)), (11, (LV.map 1)), (12, (LV.map 2)), (13, (LV.map 3)), (14, (I (IntKind.i64.wrap (s25.1 + (v2F x25))))), (57, (LV.ro 3 ((a3.map A3_Int.cells).take ((mn (((a3.map A3_Int.cells).length : Nat) : Int) 80) : Int).toNat))), (58, (I ((((a3.map A3_Int.cells).take ((mn (((a3.map A3_Int.cells).length : Nat) : Int) 80) : Int).toNat).length : Nat) : Int))), (59, (I ((k25 : Nat) : Int))), (186, (I ((k27 + 1 : Nat) : Int)))] 4 [(0, (.row 69 3 [[(LV.ro 1 (s25.2.1.Buckets.map (roC 4 EnC))), (I s25.2.1.Slots), (I s25.2.1.Age)]])), (1, (.mp (s25.2.2.1.map (mpC I I)))), (2, (.mp (s25.2.2.2.1.map (mpC I I)))), (3, (.mp (s25.2.2.2.2.map (mpC I I))))] ⟨rfl, rfl, rfl, rfl, rfl, rfl, rfl, rfl, rfl, rfl, (congrArg (LV.int .i64) (w64_nat _ (by omega))), trivial⟩ ⟨⟨rfl, rfl, blT⟩, ⟨⟨rfl, rfl, bmI _ _⟩, ⟨⟨rfl, rfl, bmI _ _⟩, ⟨⟨rfl, rfl, bmI _ _⟩, trivial⟩⟩⟩⟩ blT rfl (K27 _ e.symm)
        ·exact (Bool.false_ne_true (hc.symm.trans hd)).elim
    ·replace b25 := condF hc b25
     conv => whnf
     repeat' first | exact rA _ | refine parkI ?_ | (refine W.drawn TT_ok hmix1 rfl ?_; conv => whnf) | exact clA _ | (refine And.intro ?_ ?_ <;> conv => whnf) | exact clG _ | (refine gand ?_ h; assumption) | exact clN _ | fail
     refine parkE (fun hc => ?_) (fun hc => ?_)
     ·replace b25 := condT hc b25
      conv => whnf
      replace b25 := bindS b25
      obtain ⟨y11, hy11, b25⟩ := b25
      have c12 := c_fdb_Pin s25.2.1 (k1F x25) (v2F x25) _ hy11
      repeat' first | exact rA _ | refine parkI ?_ | (refine CallP.use c12 ?_; conv => whnf) | (refine ⟨_, _, CallP.at c12, ?_⟩; conv => whnf) | (refine ⟨_, fun _ => c12, ?_⟩; conv => whnf) | (refine W.drawn TT_ok hmix1 rfl ?_; conv => whnf) | exact clA _ | (refine And.intro ?_ ?_ <;> conv => whnf) | exact clG _ | (refine gand ?_ h; assumption) | exact clN _ | fail
      refine parkE (fun hc => ?_) (fun hc => ?_)
      ·replace b25 := condT hc b25
       conv => whnf
       repeat' first | exact rA _ | refine parkI ?_ | (refine ⟨symR I s25.2.2.2.2 (k1F x25), findsS (f := I) (g := I) ke_3 s25.2.2.2.2 (k1F x25), ?_⟩; dsimp only; erw [putE_sym I I s25.2.2.2.2 (k1F x25) (IntKind.i64.wrap ((v2F x25) + 1))]; conv => whnf) | (refine W.drawn TT_ok hmix1 rfl ?_; conv => whnf) | exact clA _ | (refine And.intro ?_ ?_ <;> conv => whnf) | exact clG _ | (refine gand ?_ h; assumption) | exact clN _ | fail
       refine parkE (fun hc => ?_) (fun hc => ?_)
       ·replace b25 := condT hc b25
        conv => whnf
        repeat' first | exact rA _ | refine parkI ?_ | (refine W.drawn TT_ok hmix1 rfl ?_; conv => whnf) | exact clA _ | (refine And.intro ?_ ?_ <;> conv => whnf) | exact clG _ | (refine gand ?_ h; assumption) | exact clN _ | fail
        replace b25 := aftS b25
        obtain ⟨O56, hO56, r56⟩ := b25
        refine LoopW.norm [(1, (I (slF a1))), (2, (I (agF a2))), (9, (LV.ptr 0 0 0)), (11, (LV.map 1)), (12, (LV.map 2)), (13, (LV.map 3)), (14, (I s25.1)), (57, (LV.ro 3 ((a3.map A3_Int.cells).take ((mn (((a3.map A3_Int.cells).length : Nat) : Int) 80) : Int).toNat))), (58, (I ((((a3.map A3_Int.cells).take ((mn (((a3.map A3_Int.cells).length : Nat) : Int) 80) : Int).toNat).length : Nat) : Int))), (59, (I ((k25 : Nat) : Int))), (186, (I ((0 : Nat) : Int)))] 4 [(0, (.row 69 3 [[(LV.ro 1 (y11.1.Buckets.map (roC 4 EnC))), (I y11.1.Slots), (I y11.1.Age)]])), (1, (.mp (s25.2.2.1.map (mpC I I)))), (2, (.mp (s25.2.2.2.1.map (mpC I I)))), (3, (.mp ((mput s25.2.2.2.2 (k1F x25) (IntKind.i64.wrap ((v2F x25) + 1))).map (mpC I I))))] ⟨rfl, rfl, rfl, rfl, rfl, rfl, rfl, rfl, rfl, rfl, rfl, trivial⟩ ⟨⟨rfl, rfl, blT⟩, ⟨⟨rfl, rfl, bmI _ _⟩, ⟨⟨rfl, rfl, bmI _ _⟩, ⟨⟨rfl, rfl, bmI _ _⟩, trivial⟩⟩⟩⟩ blT rfl ?_
        refine LoopW.forN (fun k56 s56 => [(1, (I (slF a1))), (2, (I (agF a2))), (9, (LV.ptr 0 0 0)), (11, (LV.map 1)), (12, (LV.map 2)), (13, (LV.map 3)), (14, (I s25.1)), (57, (LV.ro 3 ((a3.map A3_Int.cells).take ((mn (((a3.map A3_Int.cells).length : Nat) : Int) 80) : Int).toNat))), (58, (I ((((a3.map A3_Int.cells).take ((mn (((a3.map A3_Int.cells).length : Nat) : Int) 80) : Int).toNat).length : Nat) : Int))), (59, (I ((k25 : Nat) : Int))), (186, (I ((k56 : Nat) : Int)))]) (fun s56 => ⟨4, [(0, (.row 69 3 [[(LV.ro 1 (y11.1.Buckets.map (roC 4 EnC))), (I y11.1.Slots), (I y11.1.Age)]])), (1, (.mp (s25.2.2.1.map (mpC I I)))), (2, (.mp (s25.2.2.2.1.map (mpC I I)))), (3, (.mp ((mput s25.2.2.2.2 (k1F x25) (IntKind.i64.wrap ((v2F x25) + 1))).map (mpC I I))))]⟩) hO56 (fun hl56 s56 hs56 => ?_) (fun hl56 k56 s56 o56 hk56 b56 K56 hret56 hbrk56 => ?_)
        ·rw [hs56] at r56
         dsimp only [aftM] at r56
         have hd : decide ((((12 : Int).toNat : Nat) : Int) < 12) = false := by rw [decide_eq_false_iff_not]; (try simp only [se_len, se_ch, List.length_map]); omega
         refine LoopW.round TT_ok [0, 1, 2, 3, 8, 9, 10, 11, 12, 13, 14, 16, 17, 18, 19, 20, 21, 22, 23, 24, 25, 49, 57, 58, 59, 60, 78, 90, 120, 121, 132, 142, 147, 161, 163, 168, 178, 185, 186, 187, 214, 242] ?_
         conv => whnf
         repeat' first | exact rA _ | refine parkI ?_ | (refine W.drawn TT_ok hmix1 rfl ?_; conv => whnf) | exact clA _ | (refine And.intro ?_ ?_ <;> conv => whnf) | exact clG _ | (refine gand ?_ h; assumption) | exact clN _ | fail
         refine parkE (fun hc => ?_) (fun hc => ?_)
         ·exact (Bool.false_ne_true (hd.symm.trans hc)).elim
         ·clear hd
          conv => whnf
          repeat' first | exact rA _ | refine parkI ?_ | (refine W.drawn TT_ok hmix1 rfl ?_; conv => whnf) | exact clA _ | (refine And.intro ?_ ?_ <;> conv => whnf) | exact clG _ | (refine gand ?_ h; assumption) | exact clN _ | fail
          have e := Option.some.inj r56
          refine LoopW.norm [(1, (I (slF a1))), (2, (I (agF a2))), (9, (LV.ptr 0 0 0)), (11, (LV.map 1)), (12, (LV.map 2)), (13, (LV.map 3)), (14, (I s25.1)), (57, (LV.ro 3 ((a3.map A3_Int.cells).take ((mn (((a3.map A3_Int.cells).length : Nat) : Int) 80) : Int).toNat))), (58, (I ((((a3.map A3_Int.cells).take ((mn (((a3.map A3_Int.cells).length : Nat) : Int) 80) : Int).toNat).length : Nat) : Int))), (59, (I ((k25 + 1 : Nat) : Int)))] 4 [(0, (.row 69 3 [[(LV.ro 1 (y11.1.Buckets.map (roC 4 EnC))), (I y11.1.Slots), (I y11.1.Age)]])), (1, (.mp (s25.2.2.1.map (mpC I I)))), (2, (.mp (s25.2.2.2.1.map (mpC I I)))), (3, (.mp ((mput s25.2.2.2.2 (k1F x25) (IntKind.i64.wrap ((v2F x25) + 1))).map (mpC I I))))] ⟨rfl, rfl, rfl, rfl, rfl, rfl, rfl, rfl, rfl, (congrArg (LV.int .i64) (w64_nat _ (by omega))), trivial⟩ ⟨⟨rfl, rfl, blT⟩, ⟨⟨rfl, rfl, bmI _ _⟩, ⟨⟨rfl, rfl, bmI _ _⟩, ⟨⟨rfl, rfl, bmI _ _⟩, trivial⟩⟩⟩⟩ blT rfl (K25 _ e.symm)
        ·unfold law08_FdbForgets_c3 at b56
         have hd : decide (((k56 : Nat) : Int) < 12) = true := by rw [decide_eq_true_eq]; (try simp only [se_len, se_ch, List.length_map] at hk56); (try simp only [se_len, se_ch, List.length_map]); omega
         refine LoopW.round TT_ok [0, 1, 2, 3, 8, 9, 10, 11, 12, 13, 14, 16, 17, 18, 19, 20, 21, 22, 23, 24, 25, 49, 57, 58, 59, 60, 78, 90, 120, 121, 132, 142, 147, 161, 163, 168, 178, 185, 186, 187, 214, 242] ?_
         conv => whnf
         repeat' first | exact rA _ | refine parkI ?_ | (refine W.drawn TT_ok hmix1 rfl ?_; conv => whnf) | exact clA _ | (refine And.intro ?_ ?_ <;> conv => whnf) | exact clG _ | (refine gand ?_ h; assumption) | exact clN _ | fail
         refine parkE (fun hc => ?_) (fun hc => ?_)
         ·clear hd
          conv => whnf
          replace b56 := bindS b56
          obtain ⟨y13, hy13, b56⟩ := b56
          have c14 := c_fdb_Find y11.1 (IntKind.i64.wrap (2 * ((k56 : Nat) : Int))) s25.1 _ hy13
          repeat' first | exact rA _ | refine parkI ?_ | (refine CallP.use c14 ?_; conv => whnf) | (refine ⟨_, _, CallP.at c14, ?_⟩; conv => whnf) | (refine ⟨_, fun _ => c14, ?_⟩; conv => whnf) | (refine ⟨symR I (mput s25.2.2.2.2 (k1F x25) (IntKind.i64.wrap ((v2F x25) + 1))) (IntKind.i64.wrap (2 * ((k56 : Nat) : Int))), fun _ => findsS (f := I) (g := I) ke_3 (mput s25.2.2.2.2 (k1F x25) (IntKind.i64.wrap ((v2F x25) + 1))) (IntKind.i64.wrap (2 * ((k56 : Nat) : Int))), ?_⟩; rw [resM_sym (d := 0)]; rotate_left; exact rfl; conv => whnf) | (refine W.drawn TT_ok hmix1 rfl ?_; conv => whnf) | exact clA _ | (refine And.intro ?_ ?_ <;> conv => whnf) | exact clG _ | (refine gand ?_ h; assumption) | exact clN _ | fail
          refine parkE (fun hc => ?_) (fun hc => ?_)
          ·replace b56 := condT hc b56
           conv => whnf
           have e := Option.some.inj b56
           replace e := hret56 _ e.symm
           rw [e] at r56
           replace e := Option.some.inj r56
           replace e := hret25 _ e.symm
           rw [e] at r25
           replace e := Option.some.inj r25
           subst e
           repeat' first | exact rA _ | (refine W.drawn TT_ok hmix1 rfl ?_; conv => whnf) | exact clA _ | (refine And.intro ?_ ?_ <;> conv => whnf) | exact clG _ | (refine gand ?_ h; assumption) | exact clN _ | fail
          ·replace b56 := condF hc b56
           conv => whnf
           repeat' first | exact rA _ | refine parkI ?_ | (refine ⟨symR I (mput s25.2.2.2.2 (k1F x25) (IntKind.i64.wrap ((v2F x25) + 1))) (IntKind.i64.wrap (2 * ((k56 : Nat) : Int))), findsS (f := I) (g := I) ke_3 (mput s25.2.2.2.2 (k1F x25) (IntKind.i64.wrap ((v2F x25) + 1))) (IntKind.i64.wrap (2 * ((k56 : Nat) : Int))), ?_⟩; rw [resM_sym (d := 0)]; rotate_left; exact rfl; conv => whnf) | (refine ⟨symR I s25.2.2.1 (IntKind.i64.wrap (2 * ((k56 : Nat) : Int))), fun _ => findsS (f := I) (g := I) ke_3 s25.2.2.1 (IntKind.i64.wrap (2 * ((k56 : Nat) : Int))), ?_⟩; rw [resM_sym (d := 0)]; rotate_left; exact rfl; conv => whnf) | (refine ⟨symR I s25.2.2.2.1 (IntKind.i64.wrap (2 * ((k56 : Nat) : Int))), fun _ => findsS (f := I) (g := I) ke_3 s25.2.2.2.1 (IntKind.i64.wrap (2 * ((k56 : Nat) : Int))), ?_⟩; rw [resM_sym (d := 0)]; rotate_left; exact rfl; conv => whnf) | (refine W.drawn TT_ok hmix1 rfl ?_; conv => whnf) | exact clA _ | (refine And.intro ?_ ?_ <;> conv => whnf) | exact clG _ | (refine gand ?_ h; assumption) | exact clN _ | fail
           refine parkE (fun hc => ?_) (fun hc => ?_)
           ·replace b56 := condT hc b56
            conv => whnf
            have e := Option.some.inj b56
            replace e := hret56 _ e.symm
            rw [e] at r56
            replace e := Option.some.inj r56
            replace e := hret25 _ e.symm
            rw [e] at r25
            replace e := Option.some.inj r25
            subst e
            repeat' first | exact rA _ | (refine W.drawn TT_ok hmix1 rfl ?_; conv => whnf) | exact clA _ | (refine And.intro ?_ ?_ <;> conv => whnf) | exact clG _ | (refine gand ?_ h; assumption) | exact clN _ | fail
           ·replace b56 := condF hc b56
            conv => whnf
            repeat' first | exact rA _ | refine parkI ?_ | (refine W.drawn TT_ok hmix1 rfl ?_; conv => whnf) | exact clA _ | (refine And.intro ?_ ?_ <;> conv => whnf) | exact clG _ | (refine gand ?_ h; assumption) | exact clN _ | fail
            have e := Option.some.inj b56
            refine LoopW.norm [(1, (I (slF a1))), (2, (I (agF a2))), (9, (LV.ptr 0 0 0)), (11, (LV.map 1)), (12, (LV.map 2)), (13, (LV.map 3)), (14, (I s25.1)), (57, (LV.ro 3 ((a3.map A3_Int.cells).take ((mn (((a3.map A3_Int.cells).length : Nat) : Int) 80) : Int).toNat))), (58, (I ((((a3.map A3_Int.cells).take ((mn (((a3.map A3_Int.cells).length : Nat) : Int) 80) : Int).toNat).length : Nat) : Int))), (59, (I ((k25 : Nat) : Int))), (186, (I ((k56 + 1 : Nat) : Int)))] 4 [(0, (.row 69 3 [[(LV.ro 1 (y11.1.Buckets.map (roC 4 EnC))), (I y11.1.Slots), (I y11.1.Age)]])), (1, (.mp (s25.2.2.1.map (mpC I I)))), (2, (.mp (s25.2.2.2.1.map (mpC I I)))), (3, (.mp ((mput s25.2.2.2.2 (k1F x25) (IntKind.i64.wrap ((v2F x25) + 1))).map (mpC I I))))] ⟨rfl, rfl, rfl, rfl, rfl, rfl, rfl, rfl, rfl, rfl, (congrArg (LV.int .i64) (w64_nat _ (by omega))), trivial⟩ ⟨⟨rfl, rfl, blT⟩, ⟨⟨rfl, rfl, bmI _ _⟩, ⟨⟨rfl, rfl, bmI _ _⟩, ⟨⟨rfl, rfl, bmI _ _⟩, trivial⟩⟩⟩⟩ blT rfl (K56 _ e.symm)
         ·exact (Bool.false_ne_true (hc.symm.trans hd)).elim
       ·replace b25 := condF hc b25
        conv => whnf
        repeat' first | exact rA _ | refine parkI ?_ | (refine W.drawn TT_ok hmix1 rfl ?_; conv => whnf) | exact clA _ | (refine And.intro ?_ ?_ <;> conv => whnf) | exact clG _ | (refine gand ?_ h; assumption) | exact clN _ | fail
      ·replace b25 := condF hc b25
       conv => whnf
       repeat' first | exact rA _ | refine parkI ?_ | (refine W.drawn TT_ok hmix1 rfl ?_; conv => whnf) | exact clA _ | (refine And.intro ?_ ?_ <;> conv => whnf) | exact clG _ | (refine gand ?_ h; assumption) | exact clN _ | fail
       refine parkE (fun hc => ?_) (fun hc => ?_)
       ·replace b25 := condT hc b25
        conv => whnf
        repeat' first | exact rA _ | refine parkI ?_ | (refine W.drawn TT_ok hmix1 rfl ?_; conv => whnf) | exact clA _ | (refine And.intro ?_ ?_ <;> conv => whnf) | exact clG _ | (refine gand ?_ h; assumption) | exact clN _ | fail
       ·replace b25 := condF hc b25
        conv => whnf
        repeat' first | exact rA _ | refine parkI ?_ | (refine W.drawn TT_ok hmix1 rfl ?_; conv => whnf) | exact clA _ | (refine And.intro ?_ ?_ <;> conv => whnf) | exact clG _ | (refine gand ?_ h; assumption) | exact clN _ | fail
        refine parkE (fun hc => ?_) (fun hc => ?_)
        ·replace b25 := condT hc b25
         conv => whnf
         have e := Option.some.inj b25
         replace e := hret25 _ e.symm
         rw [e] at r25
         replace e := Option.some.inj r25
         subst e
         repeat' first | exact rA _ | (refine W.drawn TT_ok hmix1 rfl ?_; conv => whnf) | exact clA _ | (refine And.intro ?_ ?_ <;> conv => whnf) | exact clG _ | (refine gand ?_ h; assumption) | exact clN _ | fail
        ·replace b25 := condF hc b25
         conv => whnf
         repeat' first | exact rA _ | refine parkI ?_ | (refine W.drawn TT_ok hmix1 rfl ?_; conv => whnf) | exact clA _ | (refine And.intro ?_ ?_ <;> conv => whnf) | exact clG _ | (refine gand ?_ h; assumption) | exact clN _ | fail
         replace b25 := aftS b25
         obtain ⟨O60, hO60, r60⟩ := b25
         refine LoopW.norm [(1, (I (slF a1))), (2, (I (agF a2))), (9, (LV.ptr 0 0 0)), (11, (LV.map 1)), (12, (LV.map 2)), (13, (LV.map 3)), (14, (I s25.1)), (57, (LV.ro 3 ((a3.map A3_Int.cells).take ((mn (((a3.map A3_Int.cells).length : Nat) : Int) 80) : Int).toNat))), (58, (I ((((a3.map A3_Int.cells).take ((mn (((a3.map A3_Int.cells).length : Nat) : Int) 80) : Int).toNat).length : Nat) : Int))), (59, (I ((k25 : Nat) : Int))), (186, (I ((0 : Nat) : Int)))] 4 [(0, (.row 69 3 [[(LV.ro 1 (s25.2.1.Buckets.map (roC 4 EnC))), (I s25.2.1.Slots), (I s25.2.1.Age)]])), (1, (.mp (s25.2.2.1.map (mpC I I)))), (2, (.mp (s25.2.2.2.1.map (mpC I I)))), (3, (.mp (s25.2.2.2.2.map (mpC I I))))] ⟨rfl, rfl, rfl, rfl, rfl, rfl, rfl, rfl, rfl, rfl, rfl, trivial⟩ ⟨⟨rfl, rfl, blT⟩, ⟨⟨rfl, rfl, bmI _ _⟩, ⟨⟨rfl, rfl, bmI _ _⟩, ⟨⟨rfl, rfl, bmI _ _⟩, trivial⟩⟩⟩⟩ blT rfl ?_
         refine LoopW.forN (fun k60 s60 => [(1, (I (slF a1))), (2, (I (agF a2))), (9, (LV.ptr 0 0 0)), (11, (LV.map 1)), (12, (LV.map 2)), (13, (LV.map 3)), (14, (I s25.1)), (57, (LV.ro 3 ((a3.map A3_Int.cells).take ((mn (((a3.map A3_Int.cells).length : Nat) : Int) 80) : Int).toNat))), (58, (I ((((a3.map A3_Int.cells).take ((mn (((a3.map A3_Int.cells).length : Nat) : Int) 80) : Int).toNat).length : Nat) : Int))), (59, (I ((k25 : Nat) : Int))), (186, (I ((k60 : Nat) : Int)))]) (fun s60 => ⟨4, [(0, (.row 69 3 [[(LV.ro 1 (s25.2.1.Buckets.map (roC 4 EnC))), (I s25.2.1.Slots), (I s25.2.1.Age)]])), (1, (.mp (s25.2.2.1.map (mpC I I)))), (2, (.mp (s25.2.2.2.1.map (mpC I I)))), (3, (.mp (s25.2.2.2.2.map (mpC I I))))]⟩) hO60 (fun hl60 s60 hs60 => ?_) (fun hl60 k60 s60 o60 hk60 b60 K60 hret60 hbrk60 => ?_)
         ·rw [hs60] at r60
          dsimp only [aftM] at r60
          have hd : decide ((((12 : Int).toNat : Nat) : Int) < 12) = false := by rw [decide_eq_false_iff_not]; (try simp only [se_len, se_ch, List.length_map]); omega
          refine LoopW.round TT_ok [0, 1, 2, 3, 8, 9, 10, 11, 12, 13, 14, 16, 17, 18, 19, 20, 21, 22, 23, 24, 25, 49, 57, 58, 59, 60, 78, 90, 120, 121, 132, 142, 147, 161, 163, 168, 178, 185, 186, 187, 214, 242] ?_
          conv => whnf
          repeat' first | exact rA _ | refine parkI ?_ | (refine W.drawn TT_ok hmix1 rfl ?_; conv => whnf) | exact clA _ | (refine And.intro ?_ ?_ <;> conv => whnf) | exact clG _ | (refine gand ?_ h; assumption) | exact clN _ | fail
          refine parkE (fun hc => ?_) (fun hc => ?_)
          ·exact (Bool.false_ne_true (hd.symm.trans hc)).elim
          ·clear hd
           conv => whnf
           repeat' first | exact rA _ | refine parkI ?_ | (refine W.drawn TT_ok hmix1 rfl ?_; conv => whnf) | exact clA _ | (refine And.intro ?_ ?_ <;> conv => whnf) | exact clG _ | (refine gand ?_ h; assumption) | exact clN _ | fail
           have e := Option.some.inj r60
           refine LoopW.norm [(1, (I (slF a1))), (2, (I (agF a2))), (9, (LV.ptr 0 0 0)), (11, (LV.map 1)), (12, (LV.map 2)), (13, (LV.map 3)), (14, (I s25.1)), (57, (LV.ro 3 ((a3.map A3_Int.cells).take ((mn (((a3.map A3_Int.cells).length : Nat) : Int) 80) : Int).toNat))), (58, (I ((((a3.map A3_Int.cells).take ((mn (((a3.map A3_Int.cells).length : Nat) : Int) 80) : Int).toNat).length : Nat) : Int))), (59, (I ((k25 + 1 : Nat) : Int)))] 4 [(0, (.row 69 3 [[(LV.ro 1 (s25.2.1.Buckets.map (roC 4 EnC))), (I s25.2.1.Slots), (I s25.2.1.Age)]])), (1, (.mp (s25.2.2.1.map (mpC I I)))), (2, (.mp (s25.2.2.2.1.map (mpC I I)))), (3, (.mp (s25.2.2.2.2.map (mpC I I))))] ⟨rfl, rfl, rfl, rfl, rfl, rfl, rfl, rfl, rfl, (congrArg (LV.int .i64) (w64_nat _ (by omega))), trivial⟩ ⟨⟨rfl, rfl, blT⟩, ⟨⟨rfl, rfl, bmI _ _⟩, ⟨⟨rfl, rfl, bmI _ _⟩, ⟨⟨rfl, rfl, bmI _ _⟩, trivial⟩⟩⟩⟩ blT rfl (K25 _ e.symm)
         ·unfold law08_FdbForgets_c6 at b60
          have hd : decide (((k60 : Nat) : Int) < 12) = true := by rw [decide_eq_true_eq]; (try simp only [se_len, se_ch, List.length_map] at hk60); (try simp only [se_len, se_ch, List.length_map]); omega
          refine LoopW.round TT_ok [0, 1, 2, 3, 8, 9, 10, 11, 12, 13, 14, 16, 17, 18, 19, 20, 21, 22, 23, 24, 25, 49, 57, 58, 59, 60, 78, 90, 120, 121, 132, 142, 147, 161, 163, 168, 178, 185, 186, 187, 214, 242] ?_
          conv => whnf
          repeat' first | exact rA _ | refine parkI ?_ | (refine W.drawn TT_ok hmix1 rfl ?_; conv => whnf) | exact clA _ | (refine And.intro ?_ ?_ <;> conv => whnf) | exact clG _ | (refine gand ?_ h; assumption) | exact clN _ | fail
          refine parkE (fun hc => ?_) (fun hc => ?_)
          ·clear hd
           conv => whnf
           replace b60 := bindS b60
           obtain ⟨y19, hy19, b60⟩ := b60
           have c20 := c_fdb_Find s25.2.1 (IntKind.i64.wrap (2 * ((k60 : Nat) : Int))) s25.1 _ hy19
           repeat' first | exact rA _ | refine parkI ?_ | (refine CallP.use c20 ?_; conv => whnf) | (refine ⟨_, _, CallP.at c20, ?_⟩; conv => whnf) | (refine ⟨_, fun _ => c20, ?_⟩; conv => whnf) | (refine ⟨symR I s25.2.2.2.2 (IntKind.i64.wrap (2 * ((k60 : Nat) : Int))), fun _ => findsS (f := I) (g := I) ke_3 s25.2.2.2.2 (IntKind.i64.wrap (2 * ((k60 : Nat) : Int))), ?_⟩; rw [resM_sym (d := 0)]; rotate_left; exact rfl; conv => whnf) | (refine W.drawn TT_ok hmix1 rfl ?_; conv => whnf) | exact clA _ | (refine And.intro ?_ ?_ <;> conv => whnf) | exact clG _ | (refine gand ?_ h; assumption) | exact clN _ | fail
           refine parkE (fun hc => ?_) (fun hc => ?_)
           ·replace b60 := condT hc b60
            conv => whnf
            have e := Option.some.inj b60
            replace e := hret60 _ e.symm
            rw [e] at r60
            replace e := Option.some.inj r60
            replace e := hret25 _ e.symm
            rw [e] at r25
            replace e := Option.some.inj r25
            subst e
            repeat' first | exact rA _ | (refine W.drawn TT_ok hmix1 rfl ?_; conv => whnf) | exact clA _ | (refine And.intro ?_ ?_ <;> conv => whnf) | exact clG _ | (refine gand ?_ h; assumption) | exact clN _ | fail
           ·replace b60 := condF hc b60
            conv => whnf
            repeat' first | exact rA _ | refine parkI ?_ | (refine ⟨symR I s25.2.2.2.2 (IntKind.i64.wrap (2 * ((k60 : Nat) : Int))), findsS (f := I) (g := I) ke_3 s25.2.2.2.2 (IntKind.i64.wrap (2 * ((k60 : Nat) : Int))), ?_⟩; rw [resM_sym (d := 0)]; rotate_left; exact rfl; conv => whnf) | (refine ⟨symR I s25.2.2.1 (IntKind.i64.wrap (2 * ((k60 : Nat) : Int))), fun _ => findsS (f := I) (g := I) ke_3 s25.2.2.1 (IntKind.i64.wrap (2 * ((k60 : Nat) : Int))), ?_⟩; rw [resM_sym (d := 0)]; rotate_left; exact rfl; conv => whnf) | (refine ⟨symR I s25.2.2.2.1 (IntKind.i64.wrap (2 * ((k60 : Nat) : Int))), fun _ => findsS (f := I) (g := I) ke_3 s25.2.2.2.1 (IntKind.i64.wrap (2 * ((k60 : Nat) : Int))), ?_⟩; rw [resM_sym (d := 0)]; rotate_left; exact rfl; conv => whnf) | (refine W.drawn TT_ok hmix1 rfl ?_; conv => whnf) | exact clA _ | (refine And.intro ?_ ?_ <;> conv => whnf) | exact clG _ | (refine gand ?_ h; assumption) | exact clN _ | fail
            refine parkE (fun hc => ?_) (fun hc => ?_)
            ·replace b60 := condT hc b60
             conv => whnf
             have e := Option.some.inj b60
             replace e := hret60 _ e.symm
             rw [e] at r60
             replace e := Option.some.inj r60
             replace e := hret25 _ e.symm
             rw [e] at r25
             replace e := Option.some.inj r25
             subst e
             repeat' first | exact rA _ | (refine W.drawn TT_ok hmix1 rfl ?_; conv => whnf) | exact clA _ | (refine And.intro ?_ ?_ <;> conv => whnf) | exact clG _ | (refine gand ?_ h; assumption) | exact clN _ | fail
            ·replace b60 := condF hc b60
             conv => whnf
             repeat' first | exact rA _ | refine parkI ?_ | (refine W.drawn TT_ok hmix1 rfl ?_; conv => whnf) | exact clA _ | (refine And.intro ?_ ?_ <;> conv => whnf) | exact clG _ | (refine gand ?_ h; assumption) | exact clN _ | fail
             have e := Option.some.inj b60
             refine LoopW.norm [(1, (I (slF a1))), (2, (I (agF a2))), (9, (LV.ptr 0 0 0)), (11, (LV.map 1)), (12, (LV.map 2)), (13, (LV.map 3)), (14, (I s25.1)), (57, (LV.ro 3 ((a3.map A3_Int.cells).take ((mn (((a3.map A3_Int.cells).length : Nat) : Int) 80) : Int).toNat))), (58, (I ((((a3.map A3_Int.cells).take ((mn (((a3.map A3_Int.cells).length : Nat) : Int) 80) : Int).toNat).length : Nat) : Int))), (59, (I ((k25 : Nat) : Int))), (186, (I ((k60 + 1 : Nat) : Int)))] 4 [(0, (.row 69 3 [[(LV.ro 1 (s25.2.1.Buckets.map (roC 4 EnC))), (I s25.2.1.Slots), (I s25.2.1.Age)]])), (1, (.mp (s25.2.2.1.map (mpC I I)))), (2, (.mp (s25.2.2.2.1.map (mpC I I)))), (3, (.mp (s25.2.2.2.2.map (mpC I I))))] ⟨rfl, rfl, rfl, rfl, rfl, rfl, rfl, rfl, rfl, rfl, (congrArg (LV.int .i64) (w64_nat _ (by omega))), trivial⟩ ⟨⟨rfl, rfl, blT⟩, ⟨⟨rfl, rfl, bmI _ _⟩, ⟨⟨rfl, rfl, bmI _ _⟩, ⟨⟨rfl, rfl, bmI _ _⟩, trivial⟩⟩⟩⟩ blT rfl (K60 _ e.symm)
          ·exact (Bool.false_ne_true (hc.symm.trans hd)).elim
     ·replace b25 := condF hc b25
      conv => whnf
      repeat' first | exact rA _ | refine parkI ?_ | (refine W.drawn TT_ok hmix1 rfl ?_; conv => whnf) | exact clA _ | (refine And.intro ?_ ?_ <;> conv => whnf) | exact clG _ | (refine gand ?_ h; assumption) | exact clN _ | fail
      refine parkE (fun hc => ?_) (fun hc => ?_)
      ·replace b25 := condT hc b25
       conv => whnf
       replace b25 := bindS b25
       obtain ⟨y21, hy21, b25⟩ := b25
       have c22 := c_fdb_Unpin s25.2.1 (k1F x25) _ hy21
       repeat' first | exact rA _ | refine parkI ?_ | (refine CallP.use c22 ?_; conv => whnf) | (refine ⟨_, _, CallP.at c22, ?_⟩; conv => whnf) | (refine ⟨_, fun _ => c22, ?_⟩; conv => whnf) | (refine ⟨symR I s25.2.2.2.2 (k1F x25), findsS (f := I) (g := I) ke_3 s25.2.2.2.2 (k1F x25), ?_⟩; rw [resM_sym (d := 0)]; rotate_left; exact rfl; conv => whnf) | (refine W.drawn TT_ok hmix1 rfl ?_; conv => whnf) | exact clA _ | (refine And.intro ?_ ?_ <;> conv => whnf) | exact clG _ | (refine gand ?_ h; assumption) | exact clN _ | fail
       refine parkE (fun hc => ?_) (fun hc => ?_)
       ·replace b25 := condT hc b25
        conv => whnf
        have e := Option.some.inj b25
        replace e := hret25 _ e.symm
        rw [e] at r25
        replace e := Option.some.inj r25
        subst e
        repeat' first | exact rA _ | (refine W.drawn TT_ok hmix1 rfl ?_; conv => whnf) | exact clA _ | (refine And.intro ?_ ?_ <;> conv => whnf) | exact clG _ | (refine gand ?_ h; assumption) | exact clN _ | fail
       ·replace b25 := condF hc b25
        conv => whnf
        repeat' first | exact rA _ | refine parkI ?_ | (refine W.drawn TT_ok hmix1 rfl ?_; conv => whnf) | exact clA _ | (refine And.intro ?_ ?_ <;> conv => whnf) | exact clG _ | (refine gand ?_ h; assumption) | exact clN _ | fail
        refine parkE (fun hc => ?_) (fun hc => ?_)
        ·replace b25 := condT hc b25
         conv => whnf
         repeat' first | exact rA _ | refine parkI ?_ | (refine ⟨symR I s25.2.2.2.2 (k1F x25), findsS (f := I) (g := I) ke_3 s25.2.2.2.2 (k1F x25), ?_⟩; dsimp only; erw [putE_sym I I s25.2.2.2.2 (k1F x25) 0]; conv => whnf) | (refine ⟨symR I s25.2.2.1 (k1F x25), findsS (f := I) (g := I) ke_3 s25.2.2.1 (k1F x25), ?_⟩; dsimp only; erw [putE_sym I I s25.2.2.1 (k1F x25) 0]; conv => whnf) | (refine W.drawn TT_ok hmix1 rfl ?_; conv => whnf) | exact clA _ | (refine And.intro ?_ ?_ <;> conv => whnf) | exact clG _ | (refine gand ?_ h; assumption) | exact clN _ | fail
         refine parkE (fun hc => ?_) (fun hc => ?_)
         ·replace b25 := condT hc b25
          conv => whnf
          repeat' first | exact rA _ | refine parkI ?_ | (refine W.drawn TT_ok hmix1 rfl ?_; conv => whnf) | exact clA _ | (refine And.intro ?_ ?_ <;> conv => whnf) | exact clG _ | (refine gand ?_ h; assumption) | exact clN _ | fail
          replace b25 := aftS b25
          obtain ⟨O65, hO65, r65⟩ := b25
          refine LoopW.norm [(1, (I (slF a1))), (2, (I (agF a2))), (9, (LV.ptr 0 0 0)), (11, (LV.map 1)), (12, (LV.map 2)), (13, (LV.map 3)), (14, (I s25.1)), (57, (LV.ro 3 ((a3.map A3_Int.cells).take ((mn (((a3.map A3_Int.cells).length : Nat) : Int) 80) : Int).toNat))), (58, (I ((((a3.map A3_Int.cells).take ((mn (((a3.map A3_Int.cells).length : Nat) : Int) 80) : Int).toNat).length : Nat) : Int))), (59, (I ((k25 : Nat) : Int))), (186, (I ((0 : Nat) : Int)))] 4 [(0, (.row 69 3 [[(LV.ro 1 (y21.1.Buckets.map (roC 4 EnC))), (I y21.1.Slots), (I y21.1.Age)]])), (1, (.mp ((mput s25.2.2.1 (k1F x25) 0).map (mpC I I)))), (2, (.mp (s25.2.2.2.1.map (mpC I I)))), (3, (.mp ((mput s25.2.2.2.2 (k1F x25) 0).map (mpC I I))))] ⟨rfl, rfl, rfl, rfl, rfl, rfl, rfl, rfl, rfl, rfl, rfl, trivial⟩ ⟨⟨rfl, rfl, blT⟩, ⟨⟨rfl, rfl, bmI _ _⟩, ⟨⟨rfl, rfl, bmI _ _⟩, ⟨⟨rfl, rfl, bmI _ _⟩, trivial⟩⟩⟩⟩ blT rfl ?_
          refine LoopW.forN (fun k65 s65 => [(1, (I (slF a1))), (2, (I (agF a2))), (9, (LV.ptr 0 0 0)), (11, (LV.map 1)), (12, (LV.map 2)), (13, (LV.map 3)), (14, (I s25.1)), (57, (LV.ro 3 ((a3.map A3_Int.cells).take ((mn (((a3.map A3_Int.cells).length : Nat) : Int) 80) : Int).toNat))), (58, (I ((((a3.map A3_Int.cells).take ((mn (((a3.map A3_Int.cells).length : Nat) : Int) 80) : Int).toNat).length : Nat) : Int))), (59, (I ((k25 : Nat) : Int))), (186, (I ((k65 : Nat) : Int)))]) (fun s65 => ⟨4, [(0, (.row 69 3 [[(LV.ro 1 (y21.1.Buckets.map (roC 4 EnC))), (I y21.1.Slots), (I y21.1.Age)]])), (1, (.mp ((mput s25.2.2.1 (k1F x25) 0).map (mpC I I)))), (2, (.mp (s25.2.2.2.1.map (mpC I I)))), (3, (.mp ((mput s25.2.2.2.2 (k1F x25) 0).map (mpC I I))))]⟩) hO65 (fun hl65 s65 hs65 => ?_) (fun hl65 k65 s65 o65 hk65 b65 K65 hret65 hbrk65 => ?_)
          ·rw [hs65] at r65
           dsimp only [aftM] at r65
           have hd : decide ((((12 : Int).toNat : Nat) : Int) < 12) = false := by rw [decide_eq_false_iff_not]; (try simp only [se_len, se_ch, List.length_map]); omega
           refine LoopW.round TT_ok [0, 1, 2, 3, 8, 9, 10, 11, 12, 13, 14, 16, 17, 18, 19, 20, 21, 22, 23, 24, 25, 49, 57, 58, 59, 60, 78, 90, 120, 121, 132, 142, 147, 161, 163, 168, 178, 185, 186, 187, 214, 242] ?_
           conv => whnf
           repeat' first | exact rA _ | refine parkI ?_ | (refine W.drawn TT_ok hmix1 rfl ?_; conv => whnf) | exact clA _ | (refine And.intro ?_ ?_ <;> conv => whnf) | exact clG _ | (refine gand ?_ h; assumption) | exact clN _ | fail
           refine parkE (fun hc => ?_) (fun hc => ?_)
           ·exact (Bool.false_ne_true (hd.symm.trans hc)).elim
           ·clear hd
            conv => whnf
            repeat' first | exact rA _ | refine parkI ?_ | (refine W.drawn TT_ok hmix1 rfl ?_; conv => whnf) | exact clA _ | (refine And.intro ?_ ?_ <;> conv => whnf) | exact clG _ | (refine gand ?_ h; assumption) | exact clN _ | fail
            have e := Option.some.inj r65
            refine LoopW.norm [(1, (I (slF a1))), (2, (I (agF a2))), (9, (LV.ptr 0 0 0)), (11, (LV.map 1)), (12, (LV.map 2)), (13, (LV.map 3)), (14, (I s25.1)), (57, (LV.ro 3 ((a3.map A3_Int.cells).take ((mn (((a3.map A3_Int.cells).length : Nat) : Int) 80) : Int).toNat))), (58, (I ((((a3.map A3_Int.cells).take ((mn (((a3.map A3_Int.cells).length : Nat) : Int) 80) : Int).toNat).length : Nat) : Int))), (59, (I ((k25 + 1 : Nat) : Int)))] 4 [(0, (.row 69 3 [[(LV.ro 1 (y21.1.Buckets.map (roC 4 EnC))), (I y21.1.Slots), (I y21.1.Age)]])), (1, (.mp ((mput s25.2.2.1 (k1F x25) 0).map (mpC I I)))), (2, (.mp (s25.2.2.2.1.map (mpC I I)))), (3, (.mp ((mput s25.2.2.2.2 (k1F x25) 0).map (mpC I I))))] ⟨rfl, rfl, rfl, rfl, rfl, rfl, rfl, rfl, rfl, (congrArg (LV.int .i64) (w64_nat _ (by omega))), trivial⟩ ⟨⟨rfl, rfl, blT⟩, ⟨⟨rfl, rfl, bmI _ _⟩, ⟨⟨rfl, rfl, bmI _ _⟩, ⟨⟨rfl, rfl, bmI _ _⟩, trivial⟩⟩⟩⟩ blT rfl (K25 _ e.symm)
          ·unfold law08_FdbForgets_c7 at b65
           have hd : decide (((k65 : Nat) : Int) < 12) = true := by rw [decide_eq_true_eq]; (try simp only [se_len, se_ch, List.length_map] at hk65); (try simp only [se_len, se_ch, List.length_map]); omega
           refine LoopW.round TT_ok [0, 1, 2, 3, 8, 9, 10, 11, 12, 13, 14, 16, 17, 18, 19, 20, 21, 22, 23, 24, 25, 49, 57, 58, 59, 60, 78, 90, 120, 121, 132, 142, 147, 161, 163, 168, 178, 185, 186, 187, 214, 242] ?_
           conv => whnf
           repeat' first | exact rA _ | refine parkI ?_ | (refine W.drawn TT_ok hmix1 rfl ?_; conv => whnf) | exact clA _ | (refine And.intro ?_ ?_ <;> conv => whnf) | exact clG _ | (refine gand ?_ h; assumption) | exact clN _ | fail
           refine parkE (fun hc => ?_) (fun hc => ?_)
           ·clear hd
            conv => whnf
            replace b65 := bindS b65
            obtain ⟨y23, hy23, b65⟩ := b65
            have c24 := c_fdb_Find y21.1 (IntKind.i64.wrap (2 * ((k65 : Nat) : Int))) s25.1 _ hy23
            repeat' first | exact rA _ | refine parkI ?_ | (refine CallP.use c24 ?_; conv => whnf) | (refine ⟨_, _, CallP.at c24, ?_⟩; conv => whnf) | (refine ⟨_, fun _ => c24, ?_⟩; conv => whnf) | (refine ⟨symR I (mput s25.2.2.2.2 (k1F x25) 0) (IntKind.i64.wrap (2 * ((k65 : Nat) : Int))), fun _ => findsS (f := I) (g := I) ke_3 (mput s25.2.2.2.2 (k1F x25) 0) (IntKind.i64.wrap (2 * ((k65 : Nat) : Int))), ?_⟩; rw [resM_sym (d := 0)]; rotate_left; exact rfl; conv => whnf) | (refine W.drawn TT_ok hmix1 rfl ?_; conv => whnf) | exact clA _ | (refine And.intro ?_ ?_ <;> conv => whnf) | exact clG _ | (refine gand ?_ h; assumption) | exact clN _ | fail
            refine parkE (fun hc => ?_) (fun hc => ?_)
            ·replace b65 := condT hc b65
             conv => whnf
             have e := Option.some.inj b65
             replace e := hret65 _ e.symm
             rw [e] at r65
             replace e := Option.some.inj r65
             replace e := hret25 _ e.symm
             rw [e] at r25
             replace e := Option.some.inj r25
             subst e
             repeat' first | exact rA _ | (refine W.drawn TT_ok hmix1 rfl ?_; conv => whnf) | exact clA _ | (refine And.intro ?_ ?_ <;> conv => whnf) | exact clG _ | (refine gand ?_ h; assumption) | exact clN _ | fail
            ·replace b65 := condF hc b65
             conv => whnf
             repeat' first | exact rA _ | refine parkI ?_ | (refine ⟨symR I (mput s25.2.2.2.2 (k1F x25) 0) (IntKind.i64.wrap (2 * ((k65 : Nat) : Int))), findsS (f := I) (g := I) ke_3 (mput s25.2.2.2.2 (k1F x25) 0) (IntKind.i64.wrap (2 * ((k65 : Nat) : Int))), ?_⟩; rw [resM_sym (d := 0)]; rotate_left; exact rfl; conv => whnf) | (refine ⟨symR I (mput s25.2.2.1 (k1F x25) 0) (IntKind.i64.wrap (2 * ((k65 : Nat) : Int))), fun _ => findsS (f := I) (g := I) ke_3 (mput s25.2.2.1 (k1F x25) 0) (IntKind.i64.wrap (2 * ((k65 : Nat) : Int))), ?_⟩; rw [resM_sym (d := 0)]; rotate_left; exact rfl; conv => whnf) | (refine ⟨symR I s25.2.2.2.1 (IntKind.i64.wrap (2 * ((k65 : Nat) : Int))), fun _ => findsS (f := I) (g := I) ke_3 s25.2.2.2.1 (IntKind.i64.wrap (2 * ((k65 : Nat) : Int))), ?_⟩; rw [resM_sym (d := 0)]; rotate_left; exact rfl; conv => whnf) | (refine W.drawn TT_ok hmix1 rfl ?_; conv => whnf) | exact clA _ | (refine And.intro ?_ ?_ <;> conv => whnf) | exact clG _ | (refine gand ?_ h; assumption) | exact clN _ | fail
             refine parkE (fun hc => ?_) (fun hc => ?_)
             ·replace b65 := condT hc b65
              conv => whnf
              have e := Option.some.inj b65
              replace e := hret65 _ e.symm
              rw [e] at r65
              replace e := Option.some.inj r65
              replace e := hret25 _ e.symm
              rw [e] at r25
              replace e := Option.some.inj r25
              subst e
              repeat' first | exact rA _ | (refine W.drawn TT_ok hmix1 rfl ?_; conv => whnf) | exact clA _ | (refine And.intro ?_ ?_ <;> conv => whnf) | exact clG _ | (refine gand ?_ h; assumption) | exact clN _ | fail
             ·replace b65 := condF hc b65
              conv => whnf
              repeat' first | exact rA _ | refine parkI ?_ | (refine W.drawn TT_ok hmix1 rfl ?_; conv => whnf) | exact clA _ | (refine And.intro ?_ ?_ <;> conv => whnf) | exact clG _ | (refine gand ?_ h; assumption) | exact clN _ | fail
              have e := Option.some.inj b65
              refine LoopW.norm [(1, (I (slF a1))), (2, (I (agF a2))), (9, (LV.ptr 0 0 0)), (11, (LV.map 1)), (12, (LV.map 2)), (13, (LV.map 3)), (14, (I s25.1)), (57, (LV.ro 3 ((a3.map A3_Int.cells).take ((mn (((a3.map A3_Int.cells).length : Nat) : Int) 80) : Int).toNat))), (58, (I ((((a3.map A3_Int.cells).take ((mn (((a3.map A3_Int.cells).length : Nat) : Int) 80) : Int).toNat).length : Nat) : Int))), (59, (I ((k25 : Nat) : Int))), (186, (I ((k65 + 1 : Nat) : Int)))] 4 [(0, (.row 69 3 [[(LV.ro 1 (y21.1.Buckets.map (roC 4 EnC))), (I y21.1.Slots), (I y21.1.Age)]])), (1, (.mp ((mput s25.2.2.1 (k1F x25) 0).map (mpC I I)))), (2, (.mp (s25.2.2.2.1.map (mpC I I)))), (3, (.mp ((mput s25.2.2.2.2 (k1F x25) 0).map (mpC I I))))] ⟨rfl, rfl, rfl, rfl, rfl, rfl, rfl, rfl, rfl, rfl, (congrArg (LV.int .i64) (w64_nat _ (by omega))), trivial⟩ ⟨⟨rfl, rfl, blT⟩, ⟨⟨rfl, rfl, bmI _ _⟩, ⟨⟨rfl, rfl, bmI _ _⟩, ⟨⟨rfl, rfl, bmI _ _⟩, trivial⟩⟩⟩⟩ blT rfl (K65 _ e.symm)
           ·exact (Bool.false_ne_true (hc.symm.trans hd)).elim
         ·replace b25 := condF hc b25
          conv => whnf
          repeat' first | exact rA _ | refine parkI ?_ | (refine W.drawn TT_ok hmix1 rfl ?_; conv => whnf) | exact clA _ | (refine And.intro ?_ ?_ <;> conv => whnf) | exact clG _ | (refine gand ?_ h; assumption) | exact clN _ | fail
        ·replace b25 := condF hc b25
         conv => whnf
         repeat' first | exact rA _ | refine parkI ?_ | (refine W.drawn TT_ok hmix1 rfl ?_; conv => whnf) | exact clA _ | (refine And.intro ?_ ?_ <;> conv => whnf) | exact clG _ | (refine gand ?_ h; assumption) | exact clN _ | fail
         refine parkE (fun hc => ?_) (fun hc => ?_)
         ·replace b25 := condT hc b25
          conv => whnf
          repeat' first | exact rA _ | refine parkI ?_ | (refine W.drawn TT_ok hmix1 rfl ?_; conv => whnf) | exact clA _ | (refine And.intro ?_ ?_ <;> conv => whnf) | exact clG _ | (refine gand ?_ h; assumption) | exact clN _ | fail
         ·replace b25 := condF hc b25
          conv => whnf
          repeat' first | exact rA _ | refine parkI ?_ | (refine W.drawn TT_ok hmix1 rfl ?_; conv => whnf) | exact clA _ | (refine And.intro ?_ ?_ <;> conv => whnf) | exact clG _ | (refine gand ?_ h; assumption) | exact clN _ | fail
          refine parkE (fun hc => ?_) (fun hc => ?_)
          ·replace b25 := condT hc b25
           conv => whnf
           have e := Option.some.inj b25
           replace e := hret25 _ e.symm
           rw [e] at r25
           replace e := Option.some.inj r25
           subst e
           repeat' first | exact rA _ | (refine W.drawn TT_ok hmix1 rfl ?_; conv => whnf) | exact clA _ | (refine And.intro ?_ ?_ <;> conv => whnf) | exact clG _ | (refine gand ?_ h; assumption) | exact clN _ | fail
          ·replace b25 := condF hc b25
           conv => whnf
           repeat' first | exact rA _ | refine parkI ?_ | (refine W.drawn TT_ok hmix1 rfl ?_; conv => whnf) | exact clA _ | (refine And.intro ?_ ?_ <;> conv => whnf) | exact clG _ | (refine gand ?_ h; assumption) | exact clN _ | fail
           replace b25 := aftS b25
           obtain ⟨O69, hO69, r69⟩ := b25
           refine LoopW.norm [(1, (I (slF a1))), (2, (I (agF a2))), (9, (LV.ptr 0 0 0)), (11, (LV.map 1)), (12, (LV.map 2)), (13, (LV.map 3)), (14, (I s25.1)), (57, (LV.ro 3 ((a3.map A3_Int.cells).take ((mn (((a3.map A3_Int.cells).length : Nat) : Int) 80) : Int).toNat))), (58, (I ((((a3.map A3_Int.cells).take ((mn (((a3.map A3_Int.cells).length : Nat) : Int) 80) : Int).toNat).length : Nat) : Int))), (59, (I ((k25 : Nat) : Int))), (186, (I ((0 : Nat) : Int)))] 4 [(0, (.row 69 3 [[(LV.ro 1 (s25.2.1.Buckets.map (roC 4 EnC))), (I s25.2.1.Slots), (I s25.2.1.Age)]])), (1, (.mp (s25.2.2.1.map (mpC I I)))), (2, (.mp (s25.2.2.2.1.map (mpC I I)))), (3, (.mp (s25.2.2.2.2.map (mpC I I))))] ⟨rfl, rfl, rfl, rfl, rfl, rfl, rfl, rfl, rfl, rfl, rfl, trivial⟩ ⟨⟨rfl, rfl, blT⟩, ⟨⟨rfl, rfl, bmI _ _⟩, ⟨⟨rfl, rfl, bmI _ _⟩, ⟨⟨rfl, rfl, bmI _ _⟩, trivial⟩⟩⟩⟩ blT rfl ?_
           refine LoopW.forN (fun k69 s69 => [(1, (I (slF a1))), (2, (I (agF a2))), (9, (LV.ptr 0 0 0)), (11, (LV.map 1)), (12, (LV.map 2)), (13, (LV.map 3)), (14, (I s25.1)), (57, (LV.ro 3 ((a3.map A3_Int.cells).take ((mn (((a3.map A3_Int.cells).length : Nat) : Int) 80) : Int).toNat))), (58, (I ((((a3.map A3_Int.cells).take ((mn (((a3.map A3_Int.cells).length : Nat) : Int) 80) : Int).toNat).length : Nat) : Int))), (59, (I ((k25 : Nat) : Int))), (186, (I ((k69 : Nat) : Int)))]) (fun s69 => ⟨4, [(0, (.row 69 3 [[(LV.ro 1 (s25.2.1.Buckets.map (roC 4 EnC))), (I s25.2.1.Slots), (I s25.2.1.Age)]])), (1, (.mp (s25.2.2.1.map (mpC I I)))), (2, (.mp (s25.2.2.2.1.map (mpC I I)))), (3, (.mp (s25.2.2.2.2.map (mpC I I))))]⟩) hO69 (fun hl69 s69 hs69 => ?_) (fun hl69 k69 s69 o69 hk69 b69 K69 hret69 hbrk69 => ?_)
           ·rw [hs69] at r69
            dsimp only [aftM] at r69
            have hd : decide ((((12 : Int).toNat : Nat) : Int) < 12) = false := by rw [decide_eq_false_iff_not]; (try simp only [se_len, se_ch, List.length_map]); omega
            refine LoopW.round TT_ok [0, 1, 2, 3, 8, 9, 10, 11, 12, 13, 14, 16, 17, 18, 19, 20, 21, 22, 23, 24, 25, 49, 57, 58, 59, 60, 78, 90, 120, 121, 132, 142, 147, 161, 163, 168, 178, 185, 186, 187, 214, 242] ?_
            conv => whnf
            repeat' first | exact rA _ | refine parkI ?_ | (refine W.drawn TT_ok hmix1 rfl ?_; conv => whnf) | exact clA _ | (refine And.intro ?_ ?_ <;> conv => whnf) | exact clG _ | (refine gand ?_ h; assumption) | exact clN _ | fail
            refine parkE (fun hc => ?_) (fun hc => ?_)
            ·exact (Bool.false_ne_true (hd.symm.trans hc)).elim
            ·clear hd
             conv => whnf
             repeat' first | exact rA _ | refine parkI ?_ | (refine W.drawn TT_ok hmix1 rfl ?_; conv => whnf) | exact clA _ | (refine And.intro ?_ ?_ <;> conv => whnf) | exact clG _ | (refine gand ?_ h; assumption) | exact clN _ | fail
             have e := Option.some.inj r69
             refine LoopW.norm [(1, (I (slF a1))), (2, (I (agF a2))), (9, (LV.ptr 0 0 0)), (11, (LV.map 1)), (12, (LV.map 2)), (13, (LV.map 3)), (14, (I s25.1)), (57, (LV.ro 3 ((a3.map A3_Int.cells).take ((mn (((a3.map A3_Int.cells).length : Nat) : Int) 80) : Int).toNat))), (58, (I ((((a3.map A3_Int.cells).take ((mn (((a3.map A3_Int.cells).length : Nat) : Int) 80) : Int).toNat).length : Nat) : Int))), (59, (I ((k25 + 1 : Nat) : Int)))] 4 [(0, (.row 69 3 [[(LV.ro 1 (s25.2.1.Buckets.map (roC 4 EnC))), (I s25.2.1.Slots), (I s25.2.1.Age)]])), (1, (.mp (s25.2.2.1.map (mpC I I)))), (2, (.mp (s25.2.2.2.1.map (mpC I I)))), (3, (.mp (s25.2.2.2.2.map (mpC I I))))] ⟨rfl, rfl, rfl, rfl, rfl, rfl, rfl, rfl, rfl, (congrArg (LV.int .i64) (w64_nat _ (by omega))), trivial⟩ ⟨⟨rfl, rfl, blT⟩, ⟨⟨rfl, rfl, bmI _ _⟩, ⟨⟨rfl, rfl, bmI _ _⟩, ⟨⟨rfl, rfl, bmI _ _⟩, trivial⟩⟩⟩⟩ blT rfl (K25 _ e.symm)
           ·unfold law08_FdbForgets_c10 at b69
            have hd : decide (((k69 : Nat) : Int) < 12) = true := by rw [decide_eq_true_eq]; (try simp only [se_len, se_ch, List.length_map] at hk69); (try simp only [se_len, se_ch, List.length_map]); omega
            refine LoopW.round TT_ok [0, 1, 2, 3, 8, 9, 10, 11, 12, 13, 14, 16, 17, 18, 19, 20, 21, 22, 23, 24, 25, 49, 57, 58, 59, 60, 78, 90, 120, 121, 132, 142, 147, 161, 163, 168, 178, 185, 186, 187, 214, 242] ?_
            conv => whnf
            repeat' first | exact rA _ | refine parkI ?_ | (refine W.drawn TT_ok hmix1 rfl ?_; conv => whnf) | exact clA _ | (refine And.intro ?_ ?_ <;> conv => whnf) | exact clG _ | (refine gand ?_ h; assumption) | exact clN _ | fail
            refine parkE (fun hc => ?_) (fun hc => ?_)
            ·clear hd
             conv => whnf
             replace b69 := bindS b69
             obtain ⟨y29, hy29, b69⟩ := b69
             have c30 := c_fdb_Find s25.2.1 (IntKind.i64.wrap (2 * ((k69 : Nat) : Int))) s25.1 _ hy29
             repeat' first | exact rA _ | refine parkI ?_ | (refine CallP.use c30 ?_; conv => whnf) | (refine ⟨_, _, CallP.at c30, ?_⟩; conv => whnf) | (refine ⟨_, fun _ => c30, ?_⟩; conv => whnf) | (refine ⟨symR I s25.2.2.2.2 (IntKind.i64.wrap (2 * ((k69 : Nat) : Int))), fun _ => findsS (f := I) (g := I) ke_3 s25.2.2.2.2 (IntKind.i64.wrap (2 * ((k69 : Nat) : Int))), ?_⟩; rw [resM_sym (d := 0)]; rotate_left; exact rfl; conv => whnf) | (refine W.drawn TT_ok hmix1 rfl ?_; conv => whnf) | exact clA _ | (refine And.intro ?_ ?_ <;> conv => whnf) | exact clG _ | (refine gand ?_ h; assumption) | exact clN _ | fail
             refine parkE (fun hc => ?_) (fun hc => ?_)
             ·replace b69 := condT hc b69
              conv => whnf
              have e := Option.some.inj b69
              replace e := hret69 _ e.symm
              rw [e] at r69
              replace e := Option.some.inj r69
              replace e := hret25 _ e.symm
              rw [e] at r25
              replace e := Option.some.inj r25
              subst e
              repeat' first | exact rA _ | (refine W.drawn TT_ok hmix1 rfl ?_; conv => whnf) | exact clA _ | (refine And.intro ?_ ?_ <;> conv => whnf) | exact clG _ | (refine gand ?_ h; assumption) | exact clN _ | fail
             ·replace b69 := condF hc b69
              conv => whnf
              repeat' first | exact rA _ | refine parkI ?_ | (refine ⟨symR I s25.2.2.2.2 (IntKind.i64.wrap (2 * ((k69 : Nat) : Int))), findsS (f := I) (g := I) ke_3 s25.2.2.2.2 (IntKind.i64.wrap (2 * ((k69 : Nat) : Int))), ?_⟩; rw [resM_sym (d := 0)]; rotate_left; exact rfl; conv => whnf) | (refine ⟨symR I s25.2.2.1 (IntKind.i64.wrap (2 * ((k69 : Nat) : Int))), fun _ => findsS (f := I) (g := I) ke_3 s25.2.2.1 (IntKind.i64.wrap (2 * ((k69 : Nat) : Int))), ?_⟩; rw [resM_sym (d := 0)]; rotate_left; exact rfl; conv => whnf) | (refine ⟨symR I s25.2.2.2.1 (IntKind.i64.wrap (2 * ((k69 : Nat) : Int))), fun _ => findsS (f := I) (g := I) ke_3 s25.2.2.2.1 (IntKind.i64.wrap (2 * ((k69 : Nat) : Int))), ?_⟩; rw [resM_sym (d := 0)]; rotate_left; exact rfl; conv => whnf) | (refine W.drawn TT_ok hmix1 rfl ?_; conv => whnf) | exact clA _ | (refine And.intro ?_ ?_ <;> conv => whnf) | exact clG _ | (refine gand ?_ h; assumption) | exact clN _ | fail
              refine parkE (fun hc => ?_) (fun hc => ?_)
              ·replace b69 := condT hc b69
               conv => whnf
               have e := Option.some.inj b69
               replace e := hret69 _ e.symm
               rw [e] at r69
               replace e := Option.some.inj r69
               replace e := hret25 _ e.symm
               rw [e] at r25
               replace e := Option.some.inj r25
               subst e
               repeat' first | exact rA _ | (refine W.drawn TT_ok hmix1 rfl ?_; conv => whnf) | exact clA _ | (refine And.intro ?_ ?_ <;> conv => whnf) | exact clG _ | (refine gand ?_ h; assumption) | exact clN _ | fail
              ·replace b69 := condF hc b69
               conv => whnf
               repeat' first | exact rA _ | refine parkI ?_ | (refine W.drawn TT_ok hmix1 rfl ?_; conv => whnf) | exact clA _ | (refine And.intro ?_ ?_ <;> conv => whnf) | exact clG _ | (refine gand ?_ h; assumption) | exact clN _ | fail
               have e := Option.some.inj b69
               refine LoopW.norm [(1, (I (slF a1))), (2, (I (agF a2))), (9, (LV.ptr 0 0 0)), (11, (LV.map 1)), (12, (LV.map 2)), (13, (LV.map 3)), (14, (I s25.1)), (57, (LV.ro 3 ((a3.map A3_Int.cells).take ((mn (((a3.map A3_Int.cells).length : Nat) : Int) 80) : Int).toNat))), (58, (I ((((a3.map A3_Int.cells).take ((mn (((a3.map A3_Int.cells).length : Nat) : Int) 80) : Int).toNat).length : Nat) : Int))), (59, (I ((k25 : Nat) : Int))), (186, (I ((k69 + 1 : Nat) : Int)))] 4 [(0, (.row 69 3 [[(LV.ro 1 (s25.2.1.Buckets.map (roC 4 EnC))), (I s25.2.1.Slots), (I s25.2.1.Age)]])), (1, (.mp (s25.2.2.1.map (mpC I I)))), (2, (.mp (s25.2.2.2.1.map (mpC I I)))), (3, (.mp (s25.2.2.2.2.map (mpC I I))))] ⟨rfl, rfl, rfl, rfl, rfl, rfl, rfl, rfl, rfl, rfl, (congrArg (LV.int .i64) (w64_nat _ (by omega))), trivial⟩ ⟨⟨rfl, rfl, blT⟩, ⟨⟨rfl, rfl, bmI _ _⟩, ⟨⟨rfl, rfl, bmI _ _⟩, ⟨⟨rfl, rfl, bmI _ _⟩, trivial⟩⟩⟩⟩ blT rfl (K69 _ e.symm)
            ·exact (Bool.false_ne_true (hc.symm.trans hd)).elim
      ·replace b25 := condF hc b25
       conv => whnf
       repeat' first | exact rA _ | refine parkI ?_ | (refine W.drawn TT_ok hmix1 rfl ?_; conv => whnf) | exact clA _ | (refine And.intro ?_ ?_ <;> conv => whnf) | exact clG _ | (refine gand ?_ h; assumption) | exact clN _ | fail
       refine parkE (fun hc => ?_) (fun hc => ?_)
       ·replace b25 := condT hc b25
        conv => whnf
        replace b25 := bindS b25
        obtain ⟨y31, hy31, b25⟩ := b25
        have c32 := c_fdb_Flush s25.2.1 (IntKind.i64.wrap ((v2F x25) - 1)) _ hy31
        repeat' first | exact rA _ | refine parkI ?_ | (refine CallP.use c32 ?_; conv => whnf) | (refine ⟨_, _, CallP.at c32, ?_⟩; conv => whnf) | (refine ⟨_, fun _ => c32, ?_⟩; conv => whnf) | (refine W.drawn TT_ok hmix1 rfl ?_; conv => whnf) | exact clA _ | (refine And.intro ?_ ?_ <;> conv => whnf) | exact clG _ | (refine gand ?_ h; assumption) | exact clN _ | fail
        refine parkE (fun hc => ?_) (fun hc => ?_)
        ·replace b25 := condT hc b25
         conv => whnf
         repeat' first | exact rA _ | refine parkI ?_ | (refine W.drawn TT_ok hmix1 rfl ?_; conv => whnf) | exact clA _ | (refine And.intro ?_ ?_ <;> conv => whnf) | exact clG _ | (refine gand ?_ h; assumption) | exact clN _ | fail
         replace b25 := aftS b25
         obtain ⟨O77, hO77, r77⟩ := b25
         refine LoopW.norm [(1, (I (slF a1))), (2, (I (agF a2))), (9, (LV.ptr 0 0 0)), (11, (LV.map 1)), (12, (LV.map 2)), (13, (LV.map 3)), (14, (I s25.1)), (57, (LV.ro 3 ((a3.map A3_Int.cells).take ((mn (((a3.map A3_Int.cells).length : Nat) : Int) 80) : Int).toNat))), (58, (I ((((a3.map A3_Int.cells).take ((mn (((a3.map A3_Int.cells).length : Nat) : Int) 80) : Int).toNat).length : Nat) : Int))), (59, (I ((k25 : Nat) : Int))), (186, (I ((0 : Nat) : Int)))] 4 [(0, (.row 69 3 [[(LV.ro 1 (y31.1.Buckets.map (roC 4 EnC))), (I y31.1.Slots), (I y31.1.Age)]])), (1, (.mp (s25.2.2.1.map (mpC I I)))), (2, (.mp (s25.2.2.2.1.map (mpC I I)))), (3, (.mp (s25.2.2.2.2.map (mpC I I))))] ⟨rfl, rfl, rfl, rfl, rfl, rfl, rfl, rfl, rfl, rfl, rfl, trivial⟩ ⟨⟨rfl, rfl, blT⟩, ⟨⟨rfl, rfl, bmI _ _⟩, ⟨⟨rfl, rfl, bmI _ _⟩, ⟨⟨rfl, rfl, bmI _ _⟩, trivial⟩⟩⟩⟩ blT rfl ?_
         refine LoopW.forN (fun k77 s77 => [(1, (I (slF a1))), (2, (I (agF a2))), (9, (LV.ptr 0 0 0)), (11, (LV.map 1)), (12, (LV.map 2)), (13, (LV.map 3)), (14, (I s25.1)), (57, (LV.ro 3 ((a3.map A3_Int.cells).take ((mn (((a3.map A3_Int.cells).length : Nat) : Int) 80) : Int).toNat))), (58, (I ((((a3.map A3_Int.cells).take ((mn (((a3.map A3_Int.cells).length : Nat) : Int) 80) : Int).toNat).length : Nat) : Int))), (59, (I ((k25 : Nat) : Int))), (186, (I ((k77 : Nat) : Int)))]) (fun s77 => ⟨4, [(0, (.row 69 3 [[(LV.ro 1 (y31.1.Buckets.map (roC 4 EnC))), (I y31.1.Slots), (I y31.1.Age)]])), (1, (.mp (s25.2.2.1.map (mpC I I)))), (2, (.mp (s25.2.2.2.1.map (mpC I I)))), (3, (.mp (s25.2.2.2.2.map (mpC I I))))]⟩) hO77 (fun hl77 s77 hs77 => ?_) (fun hl77 k77 s77 o77 hk77 b77 K77 hret77 hbrk77 => ?_)
         ·rw [hs77] at r77
          dsimp only [aftM] at r77
          have hd : decide ((((12 : Int).toNat : Nat) : Int) < 12) = false := by rw [decide_eq_false_iff_not]; (try simp only [se_len, se_ch, List.length_map]); omega
          refine LoopW.round TT_ok [0, 1, 2, 3, 8, 9, 10, 11, 12, 13, 14, 16, 17, 18, 19, 20, 21, 22, 23, 24, 25, 49, 57, 58, 59, 60, 78, 90, 120, 121, 132, 142, 147, 161, 163, 168, 178, 185, 186, 187, 214, 242] ?_
          conv => whnf
          repeat' first | exact rA _ | refine parkI ?_ | (refine W.drawn TT_ok hmix1 rfl ?_; conv => whnf) | exact clA _ | (refine And.intro ?_ ?_ <;> conv => whnf) | exact clG _ | (refine gand ?_ h; assumption) | exact clN _ | fail
          refine parkE (fun hc => ?_) (fun hc => ?_)
          ·exact (Bool.false_ne_true (hd.symm.trans hc)).elim
          ·clear hd
           conv => whnf
           repeat' first | exact rA _ | refine parkI ?_ | (refine W.drawn TT_ok hmix1 rfl ?_; conv => whnf) | exact clA _ | (refine And.intro ?_ ?_ <;> conv => whnf) | exact clG _ | (refine gand ?_ h; assumption) | exact clN _ | fail
           have e := Option.some.inj r77
           refine LoopW.norm [(1, (I (slF a1))), (2, (I (agF a2))), (9, (LV.ptr 0 0 0)), (11, (LV.map 1)), (12, (LV.map 2)), (13, (LV.map 3)), (14, (I s25.1)), (57, (LV.ro 3 ((a3.map A3_Int.cells).take ((mn (((a3.map A3_Int.cells).length : Nat) : Int) 80) : Int).toNat))), (58, (I ((((a3.map A3_Int.cells).take ((mn (((a3.map A3_Int.cells).length : Nat) : Int) 80) : Int).toNat).length : Nat) : Int))), (59, (I ((k25 + 1 : Nat) : Int)))] 4 [(0, (.row 69 3 [[(LV.ro 1 (y31.1.Buckets.map (roC 4 EnC))), (I y31.1.Slots), (I y31.1.Age)]])), (1, (.mp (s25.2.2.1.map (mpC I I)))), (2, (.mp (s25.2.2.2.1.map (mpC I I)))), (3, (.mp (s25.2.2.2.2.map (mpC I I))))] ⟨rfl, rfl, rfl, rfl, rfl, rfl, rfl, rfl, rfl, (congrArg (LV.int .i64) (w64_nat _ (by omega))), trivial⟩ ⟨⟨rfl, rfl, blT⟩, ⟨⟨rfl, rfl, bmI _ _⟩, ⟨⟨rfl, rfl, bmI _ _⟩, ⟨⟨rfl, rfl, bmI _ _⟩, trivial⟩⟩⟩⟩ blT rfl (K25 _ e.symm)
         ·unfold law08_FdbForgets_c11 at b77
          have hd : decide (((k77 : Nat) : Int) < 12) = true := by rw [decide_eq_true_eq]; (try simp only [se_len, se_ch, List.length_map] at hk77); (try simp only [se_len, se_ch, List.length_map]); omega
          refine LoopW.round TT_ok [0, 1, 2, 3, 8, 9, 10, 11, 12, 13, 14, 16, 17, 18, 19, 20, 21, 22, 23, 24, 25, 49, 57, 58, 59, 60, 78, 90, 120, 121, 132, 142, 147, 161, 163, 168, 178, 185, 186, 187, 214, 242] ?_
          conv => whnf
          repeat' first | exact rA _ | refine parkI ?_ | (refine W.drawn TT_ok hmix1 rfl ?_; conv => whnf) | exact clA _ | (refine And.intro ?_ ?_ <;> conv => whnf) | exact clG _ | (refine gand ?_ h; assumption) | exact clN _ | fail
          refine parkE (fun hc => ?_) (fun hc => ?_)
          ·clear hd
           conv => whnf
           replace b77 := bindS b77
           obtain ⟨y33, hy33, b77⟩ := b77
           have c34 := c_fdb_Find y31.1 (IntKind.i64.wrap (2 * ((k77 : Nat) : Int))) s25.1 _ hy33
           repeat' first | exact rA _ | refine parkI ?_ | (refine CallP.use c34 ?_; conv => whnf) | (refine ⟨_, _, CallP.at c34, ?_⟩; conv => whnf) | (refine ⟨_, fun _ => c34, ?_⟩; conv => whnf) | (refine ⟨symR I s25.2.2.2.2 (IntKind.i64.wrap (2 * ((k77 : Nat) : Int))), fun _ => findsS (f := I) (g := I) ke_3 s25.2.2.2.2 (IntKind.i64.wrap (2 * ((k77 : Nat) : Int))), ?_⟩; rw [resM_sym (d := 0)]; rotate_left; exact rfl; conv => whnf) | (refine W.drawn TT_ok hmix1 rfl ?_; conv => whnf) | exact clA _ | (refine And.intro ?_ ?_ <;> conv => whnf) | exact clG _ | (refine gand ?_ h; assumption) | exact clN _ | fail
           refine parkE (fun hc => ?_) (fun hc => ?_)
           ·replace b77 := condT hc b77
            conv => whnf
            have e := Option.some.inj b77
            replace e := hret77 _ e.symm
            rw [e] at r77
            replace e := Option.some.inj r77
            replace e := hret25 _ e.symm
            rw [e] at r25
            replace e := Option.some.inj r25
            subst e
            repeat' first | exact rA _ | (refine W.drawn TT_ok hmix1 rfl ?_; conv => whnf) | exact clA _ | (refine And.intro ?_ ?_ <;> conv => whnf) | exact clG _ | (refine gand ?_ h; assumption) | exact clN _ | fail
           ·replace b77 := condF hc b77
            conv => whnf
            repeat' first | exact rA _ | refine parkI ?_ | (refine ⟨symR I s25.2.2.2.2 (IntKind.i64.wrap (2 * ((k77 : Nat) : Int))), findsS (f := I) (g := I) ke_3 s25.2.2.2.2 (IntKind.i64.wrap (2 * ((k77 : Nat) : Int))), ?_⟩; rw [resM_sym (d := 0)]; rotate_left; exact rfl; conv => whnf) | (refine ⟨symR I s25.2.2.1 (IntKind.i64.wrap (2 * ((k77 : Nat) : Int))), fun _ => findsS (f := I) (g := I) ke_3 s25.2.2.1 (IntKind.i64.wrap (2 * ((k77 : Nat) : Int))), ?_⟩; rw [resM_sym (d := 0)]; rotate_left; exact rfl; conv => whnf) | (refine ⟨symR I s25.2.2.2.1 (IntKind.i64.wrap (2 * ((k77 : Nat) : Int))), fun _ => findsS (f := I) (g := I) ke_3 s25.2.2.2.1 (IntKind.i64.wrap (2 * ((k77 : Nat) : Int))), ?_⟩; rw [resM_sym (d := 0)]; rotate_left; exact rfl; conv => whnf) | (refine W.drawn TT_ok hmix1 rfl ?_; conv => whnf) | exact clA _ | (refine And.intro ?_ ?_ <;> conv => whnf) | exact clG _ | (refine gand ?_ h; assumption) | exact clN _ | fail
            refine parkE (fun hc => ?_) (fun hc => ?_)
            ·replace b77 := condT hc b77
             conv => whnf
             have e := Option.some.inj b77
             replace e := hret77 _ e.symm
             rw [e] at r77
             replace e := Option.some.inj r77
             replace e := hret25 _ e.symm
             rw [e] at r25
             replace e := Option.some.inj r25
             subst e
             repeat' first | exact rA _ | (refine W.drawn TT_ok hmix1 rfl ?_; conv => whnf) | exact clA _ | (refine And.intro ?_ ?_ <;> conv => whnf) | exact clG _ | (refine gand ?_ h; assumption) | exact clN _ | fail
            ·replace b77 := condF hc b77
             conv => whnf
             repeat' first | exact rA _ | refine parkI ?_ | (refine W.drawn TT_ok hmix1 rfl ?_; conv => whnf) | exact clA _ | (refine And.intro ?_ ?_ <;> conv => whnf) | exact clG _ | (refine gand ?_ h; assumption) | exact clN _ | fail
             have e := Option.some.inj b77
             refine LoopW.norm [(1, (I (slF a1))), (2, (I (agF a2))), (9, (LV.ptr 0 0 0)), (11, (LV.map 1)), (12, (LV.map 2)), (13, (LV.map 3)), (14, (I s25.1)), (57, (LV.ro 3 ((a3.map A3_Int.cells).take ((mn (((a3.map A3_Int.cells).length : Nat) : Int) 80) : Int).toNat))), (58, (I ((((a3.map A3_Int.cells).take ((mn (((a3.map A3_Int.cells).length : Nat) : Int) 80) : Int).toNat).length : Nat) : Int))), (59, (I ((k25 : Nat) : Int))), (186, (I ((k77 + 1 : Nat) : Int)))] 4 [(0, (.row 69 3 [[(LV.ro 1 (y31.1.Buckets.map (roC 4 EnC))), (I y31.1.Slots), (I y31.1.Age)]])), (1, (.mp (s25.2.2.1.map (mpC I I)))), (2, (.mp (s25.2.2.2.1.map (mpC I I)))), (3, (.mp (s25.2.2.2.2.map (mpC I I))))] ⟨rfl, rfl, rfl, rfl, rfl, rfl, rfl, rfl, rfl, rfl, (congrArg (LV.int .i64) (w64_nat _ (by omega))), trivial⟩ ⟨⟨rfl, rfl, blT⟩, ⟨⟨rfl, rfl, bmI _ _⟩, ⟨⟨rfl, rfl, bmI _ _⟩, ⟨⟨rfl, rfl, bmI _ _⟩, trivial⟩⟩⟩⟩ blT rfl (K77 _ e.symm)
          ·exact (Bool.false_ne_true (hc.symm.trans hd)).elim
        ·replace b25 := condF hc b25
         conv => whnf
         repeat' first | exact rA _ | refine parkI ?_ | (refine W.drawn TT_ok hmix1 rfl ?_; conv => whnf) | exact clA _ | (refine And.intro ?_ ?_ <;> conv => whnf) | exact clG _ | (refine gand ?_ h; assumption) | exact clN _ | fail
         refine parkE (fun hc => ?_) (fun hc => ?_)
         ·replace b25 := condT hc b25
          conv => whnf
          have e := Option.some.inj b25
          replace e := hret25 _ e.symm
          rw [e] at r25
          replace e := Option.some.inj r25
          subst e
          repeat' first | exact rA _ | (refine W.drawn TT_ok hmix1 rfl ?_; conv => whnf) | exact clA _ | (refine And.intro ?_ ?_ <;> conv => whnf) | exact clG _ | (refine gand ?_ h; assumption) | exact clN _ | fail
         ·replace b25 := condF hc b25
          conv => whnf
          repeat' first | exact rA _ | refine parkI ?_ | (refine W.drawn TT_ok hmix1 rfl ?_; conv => whnf) | exact clA _ | (refine And.intro ?_ ?_ <;> conv => whnf) | exact clG _ | (refine gand ?_ h; assumption) | exact clN _ | fail
          replace b25 := aftS b25
          obtain ⟨O78, hO78, r78⟩ := b25
          refine LoopW.norm [(1, (I (slF a1))), (2, (I (agF a2))), (9, (LV.ptr 0 0 0)), (11, (LV.map 1)), (12, (LV.map 2)), (13, (LV.map 3)), (14, (I s25.1)), (57, (LV.ro 3 ((a3.map A3_Int.cells).take ((mn (((a3.map A3_Int.cells).length : Nat) : Int) 80) : Int).toNat))), (58, (I ((((a3.map A3_Int.cells).take ((mn (((a3.map A3_Int.cells).length : Nat) : Int) 80) : Int).toNat).length : Nat) : Int))), (59, (I ((k25 : Nat) : Int))), (186, (I ((0 : Nat) : Int)))] 4 [(0, (.row 69 3 [[(LV.ro 1 (s25.2.1.Buckets.map (roC 4 EnC))), (I s25.2.1.Slots), (I s25.2.1.Age)]])), (1, (.mp (s25.2.2.1.map (mpC I I)))), (2, (.mp (s25.2.2.2.1.map (mpC I I)))), (3, (.mp (s25.2.2.2.2.map (mpC I I))))] ⟨rfl, rfl, rfl, rfl, rfl, rfl, rfl, rfl, rfl, rfl, rfl, trivial⟩ ⟨⟨rfl, rfl, blT⟩, ⟨⟨rfl, rfl, bmI _ _⟩, ⟨⟨rfl, rfl, bmI _ _⟩, ⟨⟨rfl, rfl, bmI _ _⟩, trivial⟩⟩⟩⟩ blT rfl ?_
          refine LoopW.forN (fun k78 s78 => [(1, (I (slF a1))), (2, (I (agF a2))), (9, (LV.ptr 0 0 0)), (11, (LV.map 1)), (12, (LV.map 2)), (13, (LV.map 3)), (14, (I s25.1)), (57, (LV.ro 3 ((a3.map A3_Int.cells).take ((mn (((a3.map A3_Int.cells).length : Nat) : Int) 80) : Int).toNat))), (58, (I ((((a3.map A3_Int.cells).take ((mn (((a3.map A3_Int.cells).length : Nat) : Int) 80) : Int).toNat).length : Nat) : Int))), (59, (I ((k25 : Nat) : Int))), (186, (I ((k78 : Nat) : Int)))]) (fun s78 => ⟨4, [(0, (.row 69 3 [[(LV.ro 1 (s25.2.1.Buckets.map (roC 4 EnC))), (I s25.2.1.Slots), (I s25.2.1.Age)]])), (1, (.mp (s25.2.2.1.map (mpC I I)))), (2, (.mp (s25.2.2.2.1.map (mpC I I)))), (3, (.mp (s25.2.2.2.2.map (mpC I I))))]⟩) hO78 (fun hl78 s78 hs78 => ?_) (fun hl78 k78 s78 o78 hk78 b78 K78 hret78 hbrk78 => ?_)
          ·rw [hs78] at r78
           dsimp only [aftM] at r78
           have hd : decide ((((12 : Int).toNat : Nat) : Int) < 12) = false := by rw [decide_eq_false_iff_not]; (try simp only [se_len, se_ch, List.length_map]); omega
           refine LoopW.round TT_ok [0, 1, 2, 3, 8, 9, 10, 11, 12, 13, 14, 16, 17, 18, 19, 20, 21, 22, 23, 24, 25, 49, 57, 58, 59, 60, 78, 90, 120, 121, 132, 142, 147, 161, 163, 168, 178, 185, 186, 187, 214, 242] ?_
           conv => whnf
           repeat' first | exact rA _ | refine parkI ?_ | (refine W.drawn TT_ok hmix1 rfl ?_; conv => whnf) | exact clA _ | (refine And.intro ?_ ?_ <;> conv => whnf) | exact clG _ | (refine gand ?_ h; assumption) | exact clN _ | fail
           refine parkE (fun hc => ?_) (fun hc => ?_)
           ·exact (Bool.false_ne_true (hd.symm.trans hc)).elim
           ·clear hd
            conv => whnf
            repeat' first | exact rA _ | refine parkI ?_ | (refine W.drawn TT_ok hmix1 rfl ?_; conv => whnf) | exact clA _ | (refine And.intro ?_ ?_ <;> conv => whnf) | exact clG _ | (refine gand ?_ h; assumption) | exact clN _ | fail
            have e := Option.some.inj r78
            refine LoopW.norm [(1, (I (slF a1))), (2, (I (agF a2))), (9, (LV.ptr 0 0 0)), (11, (LV.map 1)), (12, (LV.map 2)), (13, (LV.map 3)), (14, (I s25.1)), (57, (LV.ro 3 ((a3.map A3_Int.cells).take ((mn (((a3.map A3_Int.cells).length : Nat) : Int) 80) : Int).toNat))), (58, (I ((((a3.map A3_Int.cells).take ((mn (((a3.map A3_Int.cells).length : Nat) : Int) 80) : Int).toNat).length : Nat) : Int))), (59, (I ((k25 + 1 : Nat) : Int)))] 4 [(0, (.row 69 3 [[(LV.ro 1 (s25.2.1.Buckets.map (roC 4 EnC))), (I s25.2.1.Slots), (I s25.2.1.Age)]])), (1, (.mp (s25.2.2.1.map (mpC I I)))), (2, (.mp (s25.2.2.2.1.map (mpC I I)))), (3, (.mp (s25.2.2.2.2.map (mpC I I))))] ⟨rfl, rfl, rfl, rfl, rfl, rfl, rfl, rfl, rfl, (congrArg (LV.int .i64) (w64_nat _ (by omega))), trivial⟩ ⟨⟨rfl, rfl, blT⟩, ⟨⟨rfl, rfl, bmI _ _⟩, ⟨⟨rfl, rfl, bmI _ _⟩, ⟨⟨rfl, rfl, bmI _ _⟩, trivial⟩⟩⟩⟩ blT rfl (K25 _ e.symm)
          ·unfold law08_FdbForgets_c12 at b78
           have hd : decide (((k78 : Nat) : Int) < 12) = true := by rw [decide_eq_true_eq]; (try simp only [se_len, se_ch, List.length_map] at hk78); (try simp only [se_len, se_ch, List.length_map]); omega
           refine LoopW.round TT_ok [0, 1, 2, 3, 8, 9, 10, 11, 12, 13, 14, 16, 17, 18, 19, 20, 21, 22, 23, 24, 25, 49, 57, 58, 59, 60, 78, 90, 120, 121, 132, 142, 147, 161, 163, 168, 178, 185, 186, 187, 214, 242] ?_
           conv => whnf
           repeat' first | exact rA _ | refine parkI ?_ | (refine W.drawn TT_ok hmix1 rfl ?_; conv => whnf) | exact clA _ | (refine And.intro ?_ ?_ <;> conv => whnf) | exact clG _ | (refine gand ?_ h; assumption) | exact clN _ | fail
           refine parkE (fun hc => ?_) (fun hc => ?_)
           ·clear hd
            conv => whnf
            replace b78 := bindS b78
            obtain ⟨y35, hy35, b78⟩ := b78
            have c36 := c_fdb_Find s25.2.1 (IntKind.i64.wrap (2 * ((k78 : Nat) : Int))) s25.1 _ hy35
            repeat' first | exact rA _ | refine parkI ?_ | (refine CallP.use c36 ?_; conv => whnf) | (refine ⟨_, _, CallP.at c36, ?_⟩; conv => whnf) | (refine ⟨_, fun _ => c36, ?_⟩; conv => whnf) | (refine ⟨symR I s25.2.2.2.2 (IntKind.i64.wrap (2 * ((k78 : Nat) : Int))), fun _ => findsS (f := I) (g := I) ke_3 s25.2.2.2.2 (IntKind.i64.wrap (2 * ((k78 : Nat) : Int))), ?_⟩; rw [resM_sym (d := 0)]; rotate_left; exact rfl; conv => whnf) | (refine W.drawn TT_ok hmix1 rfl ?_; conv => whnf) | exact clA _ | (refine And.intro ?_ ?_ <;> conv => whnf) | exact clG _ | (refine gand ?_ h; assumption) | exact clN _ | fail
            refine parkE (fun hc => ?_) (fun hc => ?_)
            ·replace b78 := condT hc b78
             conv => whnf
             have e := Option.some.inj b78
             replace e := hret78 _ e.symm
             rw [e] at r78
             replace e := Option.some.inj r78
             replace e := hret25 _ e.symm
             rw [e] at r25
             replace e := Option.some.inj r25
             subst e
             repeat' first | exact rA _ | (refine W.drawn TT_ok hmix1 rfl ?_; conv => whnf) | exact clA _ | (refine And.intro ?_ ?_ <;> conv => whnf) | exact clG _ | (refine gand ?_ h; assumption) | exact clN _ | fail
            ·replace b78 := condF hc b78
             conv => whnf
             repeat' first | exact rA _ | refine parkI ?_ | (refine ⟨symR I s25.2.2.2.2 (IntKind.i64.wrap (2 * ((k78 : Nat) : Int))), findsS (f := I) (g := I) ke_3 s25.2.2.2.2 (IntKind.i64.wrap (2 * ((k78 : Nat) : Int))), ?_⟩; rw [resM_sym (d := 0)]; rotate_left; exact rfl; conv => whnf) | (refine ⟨symR I s25.2.2.1 (IntKind.i64.wrap (2 * ((k78 : Nat) : Int))), fun _ => findsS (f := I) (g := I) ke_3 s25.2.2.1 (IntKind.i64.wrap (2 * ((k78 : Nat) : Int))), ?_⟩; rw [resM_sym (d := 0)]; rotate_left; exact rfl; conv => whnf) | (refine ⟨symR I s25.2.2.2.1 (IntKind.i64.wrap (2 * ((k78 : Nat) : Int))), fun _ => findsS (f := I) (g := I) ke_3 s25.2.2.2.1 (IntKind.i64.wrap (2 * ((k78 : Nat) : Int))), ?_⟩; rw [resM_sym (d := 0)]; rotate_left; exact rfl; conv => whnf) | (refine W.drawn TT_ok hmix1 rfl ?_; conv => whnf) | exact clA _ | (refine And.intro ?_ ?_ <;> conv => whnf) | exact clG _ | (refine gand ?_ h; assumption) | exact clN _ | fail
             refine parkE (fun hc => ?_) (fun hc => ?_)
             ·replace b78 := condT hc b78
              conv => whnf
              have e := Option.some.inj b78
              replace e := hret78 _ e.symm
              rw [e] at r78
              replace e := Option.some.inj r78
              replace e := hret25 _ e.symm
              rw [e] at r25
              replace e := Option.some.inj r25
              subst e
              repeat' first | exact rA _ | (refine W.drawn TT_ok hmix1 rfl ?_; conv => whnf) | exact clA _ | (refine And.intro ?_ ?_ <;> conv => whnf) | exact clG _ | (refine gand ?_ h; assumption) | exact clN _ | fail
             ·replace b78 := condF hc b78
              conv => whnf
              repeat' first | exact rA _ | refine parkI ?_ | (refine W.drawn TT_ok hmix1 rfl ?_; conv => whnf) | exact clA _ | (refine And.intro ?_ ?_ <;> conv => whnf) | exact clG _ | (refine gand ?_ h; assumption) | exact clN _ | fail
              have e := Option.some.inj b78
              refine LoopW.norm [(1, (I (slF a1))), (2, (I (agF a2))), (9, (LV.ptr 0 0 0)), (11, (LV.map 1)), (12, (LV.map 2)), (13, (LV.map 3)), (14, (I s25.1)), (57, (LV.ro 3 ((a3.map A3_Int.cells).take ((mn (((a3.map A3_Int.cells).length : Nat) : Int) 80) : Int).toNat))), (58, (I ((((a3.map A3_Int.cells).take ((mn (((a3.map A3_Int.cells).length : Nat) : Int) 80) : Int).toNat).length : Nat) : Int))), (59, (I ((k25 : Nat) : Int))), (186, (I ((k78 + 1 : Nat) : Int)))] 4 [(0, (.row 69 3 [[(LV.ro 1 (s25.2.1.Buckets.map (roC 4 EnC))), (I s25.2.1.Slots), (I s25.2.1.Age)]])), (1, (.mp (s25.2.2.1.map (mpC I I)))), (2, (.mp (s25.2.2.2.1.map (mpC I I)))), (3, (.mp (s25.2.2.2.2.map (mpC I I))))] ⟨rfl, rfl, rfl, rfl, rfl, rfl, rfl, rfl, rfl, rfl, (congrArg (LV.int .i64) (w64_nat _ (by omega))), trivial⟩ ⟨⟨rfl, rfl, blT⟩, ⟨⟨rfl, rfl, bmI _ _⟩, ⟨⟨rfl, rfl, bmI _ _⟩, ⟨⟨rfl, rfl, bmI _ _⟩, trivial⟩⟩⟩⟩ blT rfl (K78 _ e.symm)
           ·exact (Bool.false_ne_true (hc.symm.trans hd)).elim
       ·replace b25 := condF hc b25
        conv => whnf
        replace b25 := bindS b25
        obtain ⟨y37, hy37, b25⟩ := b25
        have c38 := c_fdb_Learn s25.2.1 (k1F x25) (v2F x25) s25.1 _ hy37
        repeat' first | exact rA _ | refine parkI ?_ | (refine CallP.use c38 ?_; conv => whnf) | (refine ⟨_, _, CallP.at c38, ?_⟩; conv => whnf) | (refine ⟨_, fun _ => c38, ?_⟩; conv => whnf) | (refine ⟨symR I s25.2.2.2.2 (k1F x25), findsS (f := I) (g := I) ke_3 s25.2.2.2.2 (k1F x25), ?_⟩; rw [resM_sym (d := 0)]; rotate_left; exact rfl; conv => whnf) | (refine W.drawn TT_ok hmix1 rfl ?_; conv => whnf) | exact clA _ | (refine And.intro ?_ ?_ <;> conv => whnf) | exact clG _ | (refine gand ?_ h; assumption) | exact clN _ | fail
        refine parkE (fun hc => ?_) (fun hc => ?_)
        ·replace b25 := condT hc b25
         conv => whnf
         replace b25 := bindS b25
         obtain ⟨y39, hy39, b25⟩ := b25
         have c40 := c_fdb_Find y37.1 (k1F x25) s25.1 _ hy39
         repeat' first | exact rA _ | refine parkI ?_ | (refine CallP.use c40 ?_; conv => whnf) | (refine ⟨_, _, CallP.at c40, ?_⟩; conv => whnf) | (refine ⟨_, fun _ => c40, ?_⟩; conv => whnf) | (refine ⟨symR I s25.2.2.1 (k1F x25), findsS (f := I) (g := I) ke_3 s25.2.2.1 (k1F x25), ?_⟩; dsimp only; erw [putE_sym I I s25.2.2.1 (k1F x25) (IntKind.i64.wrap ((v2F x25) + 1))]; conv => whnf) | (refine ⟨symR I s25.2.2.2.1 (k1F x25), findsS (f := I) (g := I) ke_3 s25.2.2.2.1 (k1F x25), ?_⟩; dsimp only; erw [putE_sym I I s25.2.2.2.1 (k1F x25) s25.1]; conv => whnf) | (refine W.drawn TT_ok hmix1 rfl ?_; conv => whnf) | exact clA _ | (refine And.intro ?_ ?_ <;> conv => whnf) | exact clG _ | (refine gand ?_ h; assumption) | exact clN _ | fail
         refine parkE (fun hc => ?_) (fun hc => ?_)
         ·replace b25 := condT (by first | exact hc | (simpa only [se_len, se_ch, List.length_map] using hc; done) | (have h0 : (bif (bif (!decide (y37.2 = 0)) then true else (!decide (y39.2 = 0))) then true else (bif (decide (y39.1 = (-1))) then (decide ((((s25.2.2.2.2.map (mpC I I)).length : Nat) : Int) < (slF a1))) else false)) = true := hc; simpa only [se_len, se_ch, List.length_map] using h0)) b25
          conv => whnf
          have e := Option.some.inj b25
          replace e := hret25 _ e.symm
          rw [e] at r25
          replace e := Option.some.inj r25
          subst e
          repeat' first | exact rA _ | (refine W.drawn TT_ok hmix1 rfl ?_; conv => whnf) | exact clA _ | (refine And.intro ?_ ?_ <;> conv => whnf) | exact clG _ | (refine gand ?_ h; assumption) | exact clN _ | fail
         ·replace b25 := condF (by first | exact hc | (simpa only [se_len, se_ch, List.length_map] using hc; done) | (have h0 : (bif (bif (!decide (y37.2 = 0)) then true else (!decide (y39.2 = 0))) then true else (bif (decide (y39.1 = (-1))) then (decide ((((s25.2.2.2.2.map (mpC I I)).length : Nat) : Int) < (slF a1))) else false)) = false := hc; simpa only [se_len, se_ch, List.length_map] using h0)) b25
          conv => whnf
          repeat' first | exact rA _ | refine parkI ?_ | (refine W.drawn TT_ok hmix1 rfl ?_; conv => whnf) | exact clA _ | (refine And.intro ?_ ?_ <;> conv => whnf) | exact clG _ | (refine gand ?_ h; assumption) | exact clN _ | fail
          refine parkE (fun hc => ?_) (fun hc => ?_)
          ·replace b25 := condT hc b25
           conv => whnf
           repeat' first | exact rA _ | refine parkI ?_ | (refine W.drawn TT_ok hmix1 rfl ?_; conv => whnf) | exact clA _ | (refine And.intro ?_ ?_ <;> conv => whnf) | exact clG _ | (refine gand ?_ h; assumption) | exact clN _ | fail
           replace b25 := aftS b25
           obtain ⟨O80, hO80, r80⟩ := b25
           refine LoopW.norm [(1, (I (slF a1))), (2, (I (agF a2))), (9, (LV.ptr 0 0 0)), (11, (LV.map 1)), (12, (LV.map 2)), (13, (LV.map 3)), (14, (I s25.1)), (57, (LV.ro 3 ((a3.map A3_Int.cells).take ((mn (((a3.map A3_Int.cells).length : Nat) : Int) 80) : Int).toNat))), (58, (I ((((a3.map A3_Int.cells).take ((mn (((a3.map A3_Int.cells).length : Nat) : Int) 80) : Int).toNat).length : Nat) : Int))), (59, (I ((k25 : Nat) : Int))), (186, (I ((0 : Nat) : Int)))] 4 [(0, (.row 69 3 [[(LV.ro 1 (y37.1.Buckets.map (roC 4 EnC))), (I y37.1.Slots), (I y37.1.Age)]])), (1, (.mp ((mput s25.2.2.1 (k1F x25) (IntKind.i64.wrap ((v2F x25) + 1))).map (mpC I I)))), (2, (.mp ((mput s25.2.2.2.1 (k1F x25) s25.1).map (mpC I I)))), (3, (.mp (s25.2.2.2.2.map (mpC I I))))] ⟨rfl, rfl, rfl, rfl, rfl, rfl, rfl, rfl, rfl, rfl, rfl, trivial⟩ ⟨⟨rfl, rfl, blT⟩, ⟨⟨rfl, rfl, bmI _ _⟩, ⟨⟨rfl, rfl, bmI _ _⟩, ⟨⟨rfl, rfl, bmI _ _⟩, trivial⟩⟩⟩⟩ blT rfl ?_
           refine LoopW.forN (fun k80 s80 => [(1, (I (slF a1))), (2, (I (agF a2))), (9, (LV.ptr 0 0 0)), (11, (LV.map 1)), (12, (LV.map 2)), (13, (LV.map 3)), (14, (I s25.1)), (57, (LV.ro 3 ((a3.map A3_Int.cells).take ((mn (((a3.map A3_Int.cells).length : Nat) : Int) 80) : Int).toNat))), (58, (I ((((a3.map A3_Int.cells).take ((mn (((a3.map A3_Int.cells).length : Nat) : Int) 80) : Int).toNat).length : Nat) : Int))), (59, (I ((k25 : Nat) : Int))), (186, (I ((k80 : Nat) : Int)))]) (fun s80 => ⟨4, [(0, (.row 69 3 [[(LV.ro 1 (y37.1.Buckets.map (roC 4 EnC))), (I y37.1.Slots), (I y37.1.Age)]])), (1, (.mp ((mput s25.2.2.1 (k1F x25) (IntKind.i64.wrap ((v2F x25) + 1))).map (mpC I I)))), (2, (.mp ((mput s25.2.2.2.1 (k1F x25) s25.1).map (mpC I I)))), (3, (.mp (s25.2.2.2.2.map (mpC I I))))]⟩) hO80 (fun hl80 s80 hs80 => ?_) (fun hl80 k80 s80 o80 hk80 b80 K80 hret80 hbrk80 => ?_)
           ·rw [hs80] at r80
            dsimp only [aftM] at r80
            have hd : decide ((((12 : Int).toNat : Nat) : Int) < 12) = false := by rw [decide_eq_false_iff_not]; (try simp only [se_len, se_ch, List.length_map]); omega
            refine LoopW.round TT_ok [0, 1, 2, 3, 8, 9, 10, 11, 12, 13, 14, 16, 17, 18, 19, 20, 21, 22, 23, 24, 25, 49, 57, 58, 59, 60, 78, 90, 120, 121, 132, 142, 147, 161, 163, 168, 178, 185, 186, 187, 214, 242] ?_
            conv => whnf
            repeat' first | exact rA _ | refine parkI ?_ | (refine W.drawn TT_ok hmix1 rfl ?_; conv => whnf) | exact clA _ | (refine And.intro ?_ ?_ <;> conv => whnf) | exact clG _ | (refine gand ?_ h; assumption) | exact clN _ | fail
            refine parkE (fun hc => ?_) (fun hc => ?_)
            ·exact (Bool.false_ne_true (hd.symm.trans hc)).elim
            ·clear hd
             conv => whnf
             repeat' first | exact rA _ | refine parkI ?_ | (refine W.drawn TT_ok hmix1 rfl ?_; conv => whnf) | exact clA _ | (refine And.intro ?_ ?_ <;> conv => whnf) | exact clG _ | (refine gand ?_ h; assumption) | exact clN _ | fail
             have e := Option.some.inj r80
             refine LoopW.norm [(1, (I (slF a1))), (2, (I (agF a2))), (9, (LV.ptr 0 0 0)), (11, (LV.map 1)), (12, (LV.map 2)), (13, (LV.map 3)), (14, (I s25.1)), (57, (LV.ro 3 ((a3.map A3_Int.cells).take ((mn (((a3.map A3_Int.cells).length : Nat) : Int) 80) : Int).toNat))), (58, (I ((((a3.map A3_Int.cells).take ((mn (((a3.map A3_Int.cells).length : Nat) : Int) 80) : Int).toNat).length : Nat) : Int))), (59, (I ((k25 + 1 : Nat) : Int)))] 4 [(0, (.row 69 3 [[(LV.ro 1 (y37.1.Buckets.map (roC 4 EnC))), (I y37.1.Slots), (I y37.1.Age)]])), (1, (.mp ((mput s25.2.2.1 (k1F x25) (IntKind.i64.wrap ((v2F x25) + 1))).map (mpC I I)))), (2, (.mp ((mput s25.2.2.2.1 (k1F x25) s25.1).map (mpC I I)))), (3, (.mp (s25.2.2.2.2.map (mpC I I))))] ⟨rfl, rfl, rfl, rfl, rfl, rfl, rfl, rfl, rfl, (congrArg (LV.int .i64) (w64_nat _ (by omega))), trivial⟩ ⟨⟨rfl, rfl, blT⟩, ⟨⟨rfl, rfl, bmI _ _⟩, ⟨⟨rfl, rfl, bmI _ _⟩, ⟨⟨rfl, rfl, bmI _ _⟩, trivial⟩⟩⟩⟩ blT rfl (K25 _ e.symm)
           ·unfold law08_FdbForgets_c13 at b80
            have hd : decide (((k80 : Nat) : Int) < 12) = true := by rw [decide_eq_true_eq]; (try simp only [se_len, se_ch, List.length_map] at hk80); (try simp only [se_len, se_ch, List.length_map]); omega
            refine LoopW.round TT_ok [0, 1, 2, 3, 8, 9, 10, 11, 12, 13, 14, 16, 17, 18, 19, 20, 21, 22, 23, 24, 25, 49, 57, 58, 59, 60, 78, 90, 120, 121, 132, 142, 147, 161, 163, 168, 178, 185, 186, 187, 214, 242] ?_
            conv => whnf
            repeat' first | exact rA _ | refine parkI ?_ | (refine W.drawn TT_ok hmix1 rfl ?_; conv => whnf) | exact clA _ | (refine And.intro ?_ ?_ <;> conv => whnf) | exact clG _ | (refine gand ?_ h; assumption) | exact clN _ | fail
            refine parkE (fun hc => ?_) (fun hc => ?_)
            ·clear hd
             conv => whnf
             replace b80 := bindS b80
             obtain ⟨y41, hy41, b80⟩ := b80
             have c42 := c_fdb_Find y37.1 (IntKind.i64.wrap (2 * ((k80 : Nat) : Int))) s25.1 _ hy41
             repeat' first | exact rA _ | refine parkI ?_ | (refine CallP.use c42 ?_; conv => whnf) | (refine ⟨_, _, CallP.at c42, ?_⟩; conv => whnf) | (refine ⟨_, fun _ => c42, ?_⟩; conv => whnf) | (refine ⟨symR I s25.2.2.2.2 (IntKind.i64.wrap (2 * ((k80 : Nat) : Int))), fun _ => findsS (f := I) (g := I) ke_3 s25.2.2.2.2 (IntKind.i64.wrap (2 * ((k80 : Nat) : Int))), ?_⟩; rw [resM_sym (d := 0)]; rotate_left; exact rfl; conv => whnf) | (refine W.drawn TT_ok hmix1 rfl ?_; conv => whnf) | exact clA _ | (refine And.intro ?_ ?_ <;> conv => whnf) | exact clG _ | (refine gand ?_ h; assumption) | exact clN _ | fail
             refine parkE (fun hc => ?_) (fun hc => ?_)
             ·replace b80 := condT hc b80
              conv => whnf
              have e := Option.some.inj b80
              replace e := hret80 _ e.symm
              rw [e] at r80
              replace e := Option.some.inj r80
              replace e := hret25 _ e.symm
              rw [e] at r25
              replace e := Option.some.inj r25
              subst e
              repeat' first | exact rA _ | (refine W.drawn TT_ok hmix1 rfl ?_; conv => whnf) | exact clA _ | (refine And.intro ?_ ?_ <;> conv => whnf) | exact clG _ | (refine gand ?_ h; assumption) | exact clN _ | fail
             ·replace b80 := condF hc b80
              conv => whnf
              repeat' first | exact rA _ | refine parkI ?_ | (refine ⟨symR I s25.2.2.2.2 (IntKind.i64.wrap (2 * ((k80 : Nat) : Int))), findsS (f := I) (g := I) ke_3 s25.2.2.2.2 (IntKind.i64.wrap (2 * ((k80 : Nat) : Int))), ?_⟩; rw [resM_sym (d := 0)]; rotate_left; exact rfl; conv => whnf) | (refine ⟨symR I (mput s25.2.2.1 (k1F x25) (IntKind.i64.wrap ((v2F x25) + 1))) (IntKind.i64.wrap (2 * ((k80 : Nat) : Int))), fun _ => findsS (f := I) (g := I) ke_3 (mput s25.2.2.1 (k1F x25) (IntKind.i64.wrap ((v2F x25) + 1))) (IntKind.i64.wrap (2 * ((k80 : Nat) : Int))), ?_⟩; rw [resM_sym (d := 0)]; rotate_left; exact rfl; conv => whnf) | (refine ⟨symR I (mput s25.2.2.2.1 (k1F x25) s25.1) (IntKind.i64.wrap (2 * ((k80 : Nat) : Int))), fun _ => findsS (f := I) (g := I) ke_3 (mput s25.2.2.2.1 (k1F x25) s25.1) (IntKind.i64.wrap (2 * ((k80 : Nat) : Int))), ?_⟩; rw [resM_sym (d := 0)]; rotate_left; exact rfl; conv => whnf) | (refine W.drawn TT_ok hmix1 rfl ?_; conv => whnf) | exact clA _ | (refine And.intro ?_ ?_ <;> conv => whnf) | exact clG _ | (refine gand ?_ h; assumption) | exact clN _ | fail
              refine parkE (fun hc => ?_) (fun hc => ?_)
              ·replace b80 := condT hc b80
               conv => whnf
               have e := Option.some.inj b80
               replace e := hret80 _ e.symm
               rw [e] at r80
               replace e := Option.some.inj r80
               replace e := hret25 _ e.symm
               rw [e] at r25
               replace e := Option.some.inj r25
               subst e
               repeat' first | exact rA _ | (refine W.drawn TT_ok hmix1 rfl ?_; conv => whnf) | exact clA _ | (refine And.intro ?_ ?_ <;> conv => whnf) | exact clG _ | (refine gand ?_ h; assumption) | exact clN _ | fail
              ·replace b80 := condF hc b80
               conv => whnf
               repeat' first | exact rA _ | refine parkI ?_ | (refine W.drawn TT_ok hmix1 rfl ?_; conv => whnf) | exact clA _ | (refine And.intro ?_ ?_ <;> conv => whnf) | exact clG _ | (refine gand ?_ h; assumption) | exact clN _ | fail
               have e := Option.some.inj b80
               refine LoopW.norm [(1, (I (slF a1))), (2, (I (agF a2))), (9, (LV.ptr 0 0 0)), (11, (LV.map 1)), (12, (LV.map 2)), (13, (LV.map 3)), (14, (I s25.1)), (57, (LV.ro 3 ((a3.map A3_Int.cells).take ((mn (((a3.map A3_Int.cells).length : Nat) : Int) 80) : Int).toNat))), (58, (I ((((a3.map A3_Int.cells).take ((mn (((a3.map A3_Int.cells).length : Nat) : Int) 80) : Int).toNat).length : Nat) : Int))), (59, (I ((k25 : Nat) : Int))), (186, (I ((k80 + 1 : Nat) : Int)))] 4 [(0, (.row 69 3 [[(LV.ro 1 (y37.1.Buckets.map (roC 4 EnC))), (I y37.1.Slots), (I y37.1.Age)]])), (1, (.mp ((mput s25.2.2.1 (k1F x25) (IntKind.i64.wrap ((v2F x25) + 1))).map (mpC I I)))), (2, (.mp ((mput s25.2.2.2.1 (k1F x25) s25.1).map (mpC I I)))), (3, (.mp (s25.2.2.2.2.map (mpC I I))))] ⟨rfl, rfl, rfl, rfl, rfl, rfl, rfl, rfl, rfl, rfl, (congrArg (LV.int .i64) (w64_nat _ (by omega))), trivial⟩ ⟨⟨rfl, rfl, blT⟩, ⟨⟨rfl, rfl, bmI _ _⟩, ⟨⟨rfl, rfl, bmI _ _⟩, ⟨⟨rfl, rfl, bmI _ _⟩, trivial⟩⟩⟩⟩ blT rfl (K80 _ e.symm)
            ·exact (Bool.false_ne_true (hc.symm.trans hd)).elim
          ·replace b25 := condF hc b25
           conv => whnf
           repeat' first | exact rA _ | refine parkI ?_ | (refine W.drawn TT_ok hmix1 rfl ?_; conv => whnf) | exact clA _ | (refine And.intro ?_ ?_ <;> conv => whnf) | exact clG _ | (refine gand ?_ h; assumption) | exact clN _ | fail
        ·replace b25 := condF hc b25
         conv => whnf
         replace b25 := bindS b25
         obtain ⟨y45, hy45, b25⟩ := b25
         have c46 := c_fdb_Find y37.1 (k1F x25) s25.1 _ hy45
         repeat' first | exact rA _ | refine parkI ?_ | (refine CallP.use c46 ?_; conv => whnf) | (refine ⟨_, _, CallP.at c46, ?_⟩; conv => whnf) | (refine ⟨_, fun _ => c46, ?_⟩; conv => whnf) | (refine W.drawn TT_ok hmix1 rfl ?_; conv => whnf) | exact clA _ | (refine And.intro ?_ ?_ <;> conv => whnf) | exact clG _ | (refine gand ?_ h; assumption) | exact clN _ | fail
         refine parkE (fun hc => ?_) (fun hc => ?_)
         ·replace b25 := condT (by first | exact hc | (simpa only [se_len, se_ch, List.length_map] using hc; done) | (have h0 : (bif (bif (!decide (y37.2 = 0)) then true else (!decide (y45.2 = 0))) then true else (bif (decide (y45.1 = (-1))) then (decide ((((s25.2.2.2.2.map (mpC I I)).length : Nat) : Int) < (slF a1))) else false)) = true := hc; simpa only [se_len, se_ch, List.length_map] using h0)) b25
          conv => whnf
          have e := Option.some.inj b25
          replace e := hret25 _ e.symm
          rw [e] at r25
          replace e := Option.some.inj r25
          subst e
          repeat' first | exact rA _ | (refine W.drawn TT_ok hmix1 rfl ?_; conv => whnf) | exact clA _ | (refine And.intro ?_ ?_ <;> conv => whnf) | exact clG _ | (refine gand ?_ h; assumption) | exact clN _ | fail
         ·replace b25 := condF (by first | exact hc | (simpa only [se_len, se_ch, List.length_map] using hc; done) | (have h0 : (bif (bif (!decide (y37.2 = 0)) then true else (!decide (y45.2 = 0))) then true else (bif (decide (y45.1 = (-1))) then (decide ((((s25.2.2.2.2.map (mpC I I)).length : Nat) : Int) < (slF a1))) else false)) = false := hc; simpa only [se_len, se_ch, List.length_map] using h0)) b25
          conv => whnf
          repeat' first | exact rA _ | refine parkI ?_ | (refine W.drawn TT_ok hmix1 rfl ?_; conv => whnf) | exact clA _ | (refine And.intro ?_ ?_ <;> conv => whnf) | exact clG _ | (refine gand ?_ h; assumption) | exact clN _ | fail
          refine parkE (fun hc => ?_) (fun hc => ?_)
          ·replace b25 := condT hc b25
           conv => whnf
           repeat' first | exact rA _ | refine parkI ?_ | (refine W.drawn TT_ok hmix1 rfl ?_; conv => whnf) | exact clA _ | (refine And.intro ?_ ?_ <;> conv => whnf) | exact clG _ | (refine gand ?_ h; assumption) | exact clN _ | fail
           replace b25 := aftS b25
           obtain ⟨O83, hO83, r83⟩ := b25
           refine LoopW.norm [(1, (I (slF a1))), (2, (I (agF a2))), (9, (LV.ptr 0 0 0)), (11, (LV.map 1)), (12, (LV.map 2)), (13, (LV.map 3)), (14, (I s25.1)), (57, (LV.ro 3 ((a3.map A3_Int.cells).take ((mn (((a3.map A3_Int.cells).length : Nat) : Int) 80) : Int).toNat))), (58, (I ((((a3.map A3_Int.cells).take ((mn (((a3.map A3_Int.cells).length : Nat) : Int) 80) : Int).toNat).length : Nat) : Int))), (59, (I ((k25 : Nat) : Int))), (186, (I ((0 : Nat) : Int)))] 4 [(0, (.row 69 3 [[(LV.ro 1 (y37.1.Buckets.map (roC 4 EnC))), (I y37.1.Slots), (I y37.1.Age)]])), (1, (.mp (s25.2.2.1.map (mpC I I)))), (2, (.mp (s25.2.2.2.1.map (mpC I I)))), (3, (.mp (s25.2.2.2.2.map (mpC I I))))] ⟨rfl, rfl, rfl, rfl, rfl, rfl, rfl, rfl, rfl, rfl, rfl, trivial⟩ ⟨⟨rfl, rfl, blT⟩, ⟨⟨rfl, rfl, bmI _ _⟩, ⟨⟨rfl, rfl, bmI _ _⟩, ⟨⟨rfl, rfl, bmI _ _⟩, trivial⟩⟩⟩⟩ blT rfl ?_
           refine LoopW.forN (fun k83 s83 => [(1, (I (slF a1))), (2, (I (agF a2))), (9, (LV.ptr 0 0 0)), (11, (LV.map 1)), (12, (LV.map 2)), (13, (LV.map 3)), (14, (I s25.1)), (57, (LV.ro 3 ((a3.map A3_Int.cells).take ((mn (((a3.map A3_Int.cells).length : Nat) : Int) 80) : Int).toNat))), (58, (I ((((a3.map A3_Int.cells).take ((mn (((a3.map A3_Int.cells).length : Nat) : Int) 80) : Int).toNat).length : Nat) : Int))), (59, (I ((k25 : Nat) : Int))), (186, (I ((k83 : Nat) : Int)))]) (fun s83 => ⟨4, [(0, (.row 69 3 [[(LV.ro 1 (y37.1.Buckets.map (roC 4 EnC))), (I y37.1.Slots), (I y37.1.Age)]])), (1, (.mp (s25.2.2.1.map (mpC I I)))), (2, (.mp (s25.2.2.2.1.map (mpC I I)))), (3, (.mp (s25.2.2.2.2.map (mpC I I))))]⟩) hO83 (fun hl83 s83 hs83 => ?_) (fun hl83 k83 s83 o83 hk83 b83 K83 hret83 hbrk83 => ?_)
           ·rw [hs83] at r83
            dsimp only [aftM] at r83
            have hd : decide ((((12 : Int).toNat : Nat) : Int) < 12) = false := by rw [decide_eq_false_iff_not]; (try simp only [se_len, se_ch, List.length_map]); omega
            refine LoopW.round TT_ok [0, 1, 2, 3, 8, 9, 10, 11, 12, 13, 14, 16, 17, 18, 19, 20, 21, 22, 23, 24, 25, 49, 57, 58, 59, 60, 78, 90, 120, 121, 132, 142, 147, 161, 163, 168, 178, 185, 186, 187, 214, 242] ?_
            conv => whnf
            repeat' first | exact rA _ | refine parkI ?_ | (refine W.drawn TT_ok hmix1 rfl ?_; conv => whnf) | exact clA _ | (refine And.intro ?_ ?_ <;> conv => whnf) | exact clG _ | (refine gand ?_ h; assumption) | exact clN _ | fail
            refine parkE (fun hc => ?_) (fun hc => ?_)
            ·exact (Bool.false_ne_true (hd.symm.trans hc)).elim
            ·clear hd
             conv => whnf
             repeat' first | exact rA _ | refine parkI ?_ | (refine W.drawn TT_ok hmix1 rfl ?_; conv => whnf) | exact clA _ | (refine And.intro ?_ ?_ <;> conv => whnf) | exact clG _ | (refine gand ?_ h; assumption) | exact clN _ | fail
             have e := Option.some.inj r83
             refine LoopW.norm [(1, (I (slF a1))), (2, (I (agF a2))), (9, (LV.ptr 0 0 0)), (11, (LV.map 1)), (12, (LV.map 2)), (13, (LV.map 3)), (14, (I s25.1)), (57, (LV.ro 3 ((a3.map A3_Int.cells).take ((mn (((a3.map A3_Int.cells).length : Nat) : Int) 80) : Int).toNat))), (58, (I ((((a3.map A3_Int.cells).take ((mn (((a3.map A3_Int.cells).length : Nat) : Int) 80) : Int).toNat).length : Nat) : Int))), (59, (I ((k25 + 1 : Nat) : Int)))] 4 [(0, (.row 69 3 [[(LV.ro 1 (y37.1.Buckets.map (roC 4 EnC))), (I y37.1.Slots), (I y37.1.Age)]])), (1, (.mp (s25.2.2.1.map (mpC I I)))), (2, (.mp (s25.2.2.2.1.map (mpC I I)))), (3, (.mp (s25.2.2.2.2.map (mpC I I))))] ⟨rfl, rfl, rfl, rfl, rfl, rfl, rfl, rfl, rfl, (congrArg (LV.int .i64) (w64_nat _ (by omega))), trivial⟩ ⟨⟨rfl, rfl, blT⟩, ⟨⟨rfl, rfl, bmI _ _⟩, ⟨⟨rfl, rfl, bmI _ _⟩, ⟨⟨rfl, rfl, bmI _ _⟩, trivial⟩⟩⟩⟩ blT rfl (K25 _ e.symm)
           ·unfold law08_FdbForgets_c15 at b83
            have hd : decide (((k83 : Nat) : Int) < 12) = true := by rw [decide_eq_true_eq]; (try simp only [se_len, se_ch, List.length_map] at hk83); (try simp only [se_len, se_ch, List.length_map]); omega
            refine LoopW.round TT_ok [0, 1, 2, 3, 8, 9, 10, 11, 12, 13, 14, 16, 17, 18, 19, 20, 21, 22, 23, 24, 25, 49, 57, 58, 59, 60, 78, 90, 120, 121, 132, 142, 147, 161, 163, 168, 178, 185, 186, 187, 214, 242] ?_
            conv => whnf
            repeat' first | exact rA _ | refine parkI ?_ | (refine W.drawn TT_ok hmix1 rfl ?_; conv => whnf) | exact clA _ | (refine And.intro ?_ ?_ <;> conv => whnf) | exact clG _ | (refine gand ?_ h; assumption) | exact clN _ | fail
            refine parkE (fun hc => ?_) (fun hc => ?_)
            ·clear hd
             conv => whnf
             replace b83 := bindS b83
             obtain ⟨y47, hy47, b83⟩ := b83
             have c48 := c_fdb_Find y37.1 (IntKind.i64.wrap (2 * ((k83 : Nat) : Int))) s25.1 _ hy47
             repeat' first | exact rA _ | refine parkI ?_ | (refine CallP.use c48 ?_; conv => whnf) | (refine ⟨_, _, CallP.at c48, ?_⟩; conv => whnf) | (refine ⟨_, fun _ => c48, ?_⟩; conv => whnf) | (refine ⟨symR I s25.2.2.2.2 (IntKind.i64.wrap (2 * ((k83 : Nat) : Int))), fun _ => findsS (f := I) (g := I) ke_3 s25.2.2.2.2 (IntKind.i64.wrap (2 * ((k83 : Nat) : Int))), ?_⟩; rw [resM_sym (d := 0)]; rotate_left; exact rfl; conv => whnf) | (refine W.drawn TT_ok hmix1 rfl ?_; conv => whnf) | exact clA _ | (refine And.intro ?_ ?_ <;> conv => whnf) | exact clG _ | (refine gand ?_ h; assumption) | exact clN _ | fail
             refine parkE (fun hc => ?_) (fun hc => ?_)
             ·replace b83 := condT hc b83
              conv => whnf
              have e := Option.some.inj b83
              replace e := hret83 _ e.symm
              rw [e] at r83
              replace e := Option.some.inj r83
              replace e := hret25 _ e.symm
              rw [e] at r25
              replace e := Option.some.inj r25
              subst e
              repeat' first | exact rA _ | (refine W.drawn TT_ok hmix1 rfl ?_; conv => whnf) | exact clA _ | (refine And.intro ?_ ?_ <;> conv => whnf) | exact clG _ | (refine gand ?_ h; assumption) | exact clN _ | fail
             ·replace b83 := condF hc b83
              conv => whnf
              repeat' first | exact rA _ | refine parkI ?_ | (refine ⟨symR I s25.2.2.2.2 (IntKind.i64.wrap (2 * ((k83 : Nat) : Int))), findsS (f := I) (g := I) ke_3 s25.2.2.2.2 (IntKind.i64.wrap (2 * ((k83 : Nat) : Int))), ?_⟩; rw [resM_sym (d := 0)]; rotate_left; exact rfl; conv => whnf) | (refine ⟨symR I s25.2.2.1 (IntKind.i64.wrap (2 * ((k83 : Nat) : Int))), fun _ => findsS (f := I) (g := I) ke_3 s25.2.2.1 (IntKind.i64.wrap (2 * ((k83 : Nat) : Int))), ?_⟩; rw [resM_sym (d := 0)]; rotate_left; exact rfl; conv => whnf) | (refine ⟨symR I s25.2.2.2.1 (IntKind.i64.wrap (2 * ((k83 : Nat) : Int))), fun _ => findsS (f := I) (g := I) ke_3 s25.2.2.2.1 (IntKind.i64.wrap (2 * ((k83 : Nat) : Int))), ?_⟩; rw [resM_sym (d := 0)]; rotate_left; exact rfl; conv => whnf) | (refine W.drawn TT_ok hmix1 rfl ?_; conv => whnf) | exact clA _ | (refine And.intro ?_ ?_ <;> conv => whnf) | exact clG _ | (refine gand ?_ h; assumption) | exact clN _ | fail
              refine parkE (fun hc => ?_) (fun hc => ?_)
              ·replace b83 := condT hc b83
               conv => whnf
               have e := Option.some.inj b83
               replace e := hret83 _ e.symm
               rw [e] at r83
               replace e := Option.some.inj r83
               replace e := hret25 _ e.symm
               rw [e] at r25
               replace e := Option.some.inj r25
               subst e
               repeat' first | exact rA _ | (refine W.drawn TT_ok hmix1 rfl ?_; conv => whnf) | exact clA _ | (refine And.intro ?_ ?_ <;> conv => whnf) | exact clG _ | (refine gand ?_ h; assumption) | exact clN _ | fail
              ·replace b83 := condF hc b83
               conv => whnf
               repeat' first | exact rA _ | refine parkI ?_ | (refine W.drawn TT_ok hmix1 rfl ?_; conv => whnf) | exact clA _ | (refine And.intro ?_ ?_ <;> conv => whnf) | exact clG _ | (refine gand ?_ h; assumption) | exact clN _ | fail
               have e := Option.some.inj b83
               refine LoopW.norm [(1, (I (slF a1))), (2, (I (agF a2))), (9, (LV.ptr 0 0 0)), (11, (LV.map 1)), (12, (LV.map 2)), (13, (LV.map 3)), (14, (I s25.1)), (57, (LV.ro 3 ((a3.map A3_Int.cells).take ((mn (((a3.map A3_Int.cells).length : Nat) : Int) 80) : Int).toNat))), (58, (I ((((a3.map A3_Int.cells).take ((mn (((a3.map A3_Int.cells).length : Nat) : Int) 80) : Int).toNat).length : Nat) : Int))), (59, (I ((k25 : Nat) : Int))), (186, (I ((k83 + 1 : Nat) : Int)))] 4 [(0, (.row 69 3 [[(LV.ro 1 (y37.1.Buckets.map (roC 4 EnC))), (I y37.1.Slots), (I y37.1.Age)]])), (1, (.mp (s25.2.2.1.map (mpC I I)))), (2, (.mp (s25.2.2.2.1.map (mpC I I)))), (3, (.mp (s25.2.2.2.2.map (mpC I I))))] ⟨rfl, rfl, rfl, rfl, rfl, rfl, rfl, rfl, rfl, rfl, (congrArg (LV.int .i64) (w64_nat _ (by omega))), trivial⟩ ⟨⟨rfl, rfl, blT⟩, ⟨⟨rfl, rfl, bmI _ _⟩, ⟨⟨rfl, rfl, bmI _ _⟩, ⟨⟨rfl, rfl, bmI _ _⟩, trivial⟩⟩⟩⟩ blT rfl (K83 _ e.symm)
            ·exact (Bool.false_ne_true (hc.symm.trans hd)).elim
          ·replace b25 := condF hc b25
           conv => whnf
           repeat' first | exact rA _ | refine parkI ?_ | (refine W.drawn TT_ok hmix1 rfl ?_; conv => whnf) | exact clA _ | (refine And.intro ?_ ?_ <;> conv => whnf) | exact clG _ | (refine gand ?_ h; assumption) | exact clN _ | fail
   ·exact (Bool.false_ne_true (hc.symm.trans hd)).elim

end Go.RX
