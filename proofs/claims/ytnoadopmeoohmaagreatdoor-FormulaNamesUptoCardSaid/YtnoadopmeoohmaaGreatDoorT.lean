/-
  The facts on types and functions, as instances. Written by wip/tools/table.py.
-/
import Derived.Test.YtnoadopmeoohmaaGreatDoorProg
import Derived.Test.YtnoadopmeoohmaaGreatDoorA7
import Derived.KernelRfl
namespace Go.Proofs.YtnoadopmeoohmaaGreatDoor
open Go

@[reducible, instance] def yc1 := TyC.mk (P := Tryz.prog) Tryz.isAgg1 Tryz.sizeOf1
@[reducible, instance] def uc1 := UndC.mk Tryz.underlying1
@[reducible, instance] def zl1 := ZeroL.ofOne Tryz.zeroValue1
@[reducible, instance] def ic1 : InfoC Tryz.prog 1 8 := ⟨⟨_, Tryz.type1, rfl⟩⟩
@[reducible, instance] def yc2 := TyC.mk (P := Tryz.prog) Tryz.isAgg2 Tryz.sizeOf2
@[reducible, instance] def uc2 := UndC.mk Tryz.underlying2
@[reducible, instance] def zl2 := ZeroL.ofOne Tryz.zeroValue2
@[reducible, instance] def ic2 : InfoC Tryz.prog 2 8 := ⟨⟨_, Tryz.type2, rfl⟩⟩
@[reducible, instance] def yc3 := TyC.mk (P := Tryz.prog) Tryz.isAgg3 Tryz.sizeOf3
@[reducible, instance] def uc3 := UndC.mk Tryz.underlying3
@[reducible, instance] def zl3 := ZeroL.ofOne Tryz.zeroValue3
@[reducible, instance] def ic3 : InfoC Tryz.prog 3 8 := ⟨⟨_, Tryz.type3, rfl⟩⟩
@[reducible, instance] def yc4 := TyC.mk (P := Tryz.prog) Tryz.isAgg4 Tryz.sizeOf4
@[reducible, instance] def uc4 := UndC.mk Tryz.underlying4
@[reducible, instance] def zl4 := ZeroL.ofOne Tryz.zeroValue4
@[reducible, instance] def ic4 : InfoC Tryz.prog 4 1 := ⟨⟨_, Tryz.type4, rfl⟩⟩
@[reducible, instance] def yc5 := TyC.mk (P := Tryz.prog) Tryz.isAgg5 Tryz.sizeOf5
@[reducible, instance] def uc5 := UndC.mk Tryz.underlying5
@[reducible, instance] def zl5 := ZeroL.ofOne Tryz.zeroValue5
@[reducible, instance] def ic5 : InfoC Tryz.prog 5 1 := ⟨⟨_, Tryz.type5, rfl⟩⟩
@[reducible, instance] def yc6 := TyC.mk (P := Tryz.prog) Tryz.isAgg6 Tryz.sizeOf6
@[reducible, instance] def uc6 := UndC.mk Tryz.underlying6
@[reducible, instance] def zl6 := ZeroL.ofOne Tryz.zeroValue6
@[reducible, instance] def ic6 : InfoC Tryz.prog 6 1 := ⟨⟨_, Tryz.type6, rfl⟩⟩
@[reducible, instance] def yc7 := TyC.mk (P := Tryz.prog) Tryz.isAgg7 Tryz.sizeOf7
@[reducible, instance] def uc7 := UndC.mk Tryz.underlying7
@[reducible, instance] def zl7 := ZeroL.ofAgg Tryz.zeroValue7
@[reducible, instance] def ic7 : InfoC Tryz.prog 7 24 := ⟨⟨_, Tryz.type7, rfl⟩⟩
@[reducible, instance] def fl7_0 : FieldC Tryz.prog 7 0 2 0 := ⟨⟨_, _, Tryz.underlying7, rfl, rfl, rfl⟩⟩
@[reducible, instance] def fl7_1 : FieldC Tryz.prog 7 1 3 1 := ⟨⟨_, _, Tryz.underlying7, rfl, rfl, rfl⟩⟩
@[reducible, instance] def fl7_2 : FieldC Tryz.prog 7 2 4 2 := ⟨⟨_, _, Tryz.underlying7, rfl, rfl, rfl⟩⟩
@[reducible, instance] def fl7_3 : FieldC Tryz.prog 7 3 6 3 := ⟨⟨_, _, Tryz.underlying7, rfl, rfl, rfl⟩⟩
@[reducible, instance] def yc8 := TyC.mk (P := Tryz.prog) Tryz.isAgg8 Tryz.sizeOf8
@[reducible, instance] def uc8 := UndC.mk Tryz.underlying8
@[reducible, instance] def zl8 := ZeroL.ofAgg Tryz.zeroValue8
@[reducible, instance] def ic8 : InfoC Tryz.prog 8 24 := ⟨⟨_, Tryz.type8, rfl⟩⟩
@[reducible, instance] def fl8_0 : FieldC Tryz.prog 8 0 2 0 := ⟨⟨_, _, Tryz.underlying8, rfl, rfl, rfl⟩⟩
@[reducible, instance] def fl8_1 : FieldC Tryz.prog 8 1 3 1 := ⟨⟨_, _, Tryz.underlying8, rfl, rfl, rfl⟩⟩
@[reducible, instance] def fl8_2 : FieldC Tryz.prog 8 2 4 2 := ⟨⟨_, _, Tryz.underlying8, rfl, rfl, rfl⟩⟩
@[reducible, instance] def fl8_3 : FieldC Tryz.prog 8 3 6 3 := ⟨⟨_, _, Tryz.underlying8, rfl, rfl, rfl⟩⟩
@[reducible, instance] def yc9 := TyC.mk (P := Tryz.prog) Tryz.isAgg9 Tryz.sizeOf9
@[reducible, instance] def uc9 := UndC.mk Tryz.underlying9
@[reducible, instance] def zl9 := ZeroL.ofOne Tryz.zeroValue9
@[reducible, instance] def ic9 : InfoC Tryz.prog 9 16 := ⟨⟨_, Tryz.type9, rfl⟩⟩
@[reducible, instance] def yc10 := TyC.mk (P := Tryz.prog) Tryz.isAgg10 Tryz.sizeOf10
@[reducible, instance] def uc10 := UndC.mk Tryz.underlying10
@[reducible, instance] def zl10 := ZeroL.ofOne Tryz.zeroValue10
@[reducible, instance] def ic10 : InfoC Tryz.prog 10 16 := ⟨⟨_, Tryz.type10, rfl⟩⟩
@[reducible, instance] def yc11 := TyC.mk (P := Tryz.prog) Tryz.isAgg11 Tryz.sizeOf11
@[reducible, instance] def uc11 := UndC.mk Tryz.underlying11
@[reducible, instance] def zl11 := ZeroL.ofOne Tryz.zeroValue11
@[reducible, instance] def ic11 : InfoC Tryz.prog 11 16 := ⟨⟨_, Tryz.type11, rfl⟩⟩
@[reducible, instance] def yc12 := TyC.mk (P := Tryz.prog) Tryz.isAgg12 Tryz.sizeOf12
@[reducible, instance] def uc12 := UndC.mk Tryz.underlying12
@[reducible, instance] def zl12 := ZeroL.ofOne Tryz.zeroValue12
@[reducible, instance] def ic12 : InfoC Tryz.prog 12 8 := ⟨⟨_, Tryz.type12, rfl⟩⟩
@[reducible, instance] def yc13 := TyC.mk (P := Tryz.prog) Tryz.isAgg13 Tryz.sizeOf13
@[reducible, instance] def uc13 := UndC.mk Tryz.underlying13
@[reducible, instance] def zl13 := ZeroL.ofAgg Tryz.zeroValue13
@[reducible, instance] def ic13 : InfoC Tryz.prog 13 24 := ⟨⟨_, Tryz.type13, rfl⟩⟩
@[reducible, instance] def fl13_0 : FieldC Tryz.prog 13 0 9 0 := ⟨⟨_, _, Tryz.underlying13, rfl, rfl, rfl⟩⟩
@[reducible, instance] def fl13_1 : FieldC Tryz.prog 13 1 12 1 := ⟨⟨_, _, Tryz.underlying13, rfl, rfl, rfl⟩⟩
@[reducible, instance] def yc14 := TyC.mk (P := Tryz.prog) Tryz.isAgg14 Tryz.sizeOf14
@[reducible, instance] def uc14 := UndC.mk Tryz.underlying14
@[reducible, instance] def zl14 := ZeroL.ofAgg Tryz.zeroValue14
@[reducible, instance] def ic14 : InfoC Tryz.prog 14 24 := ⟨⟨_, Tryz.type14, rfl⟩⟩
@[reducible, instance] def fl14_0 : FieldC Tryz.prog 14 0 9 0 := ⟨⟨_, _, Tryz.underlying14, rfl, rfl, rfl⟩⟩
@[reducible, instance] def fl14_1 : FieldC Tryz.prog 14 1 12 1 := ⟨⟨_, _, Tryz.underlying14, rfl, rfl, rfl⟩⟩
@[reducible, instance] def yc15 := TyC.mk (P := Tryz.prog) Tryz.isAgg15 Tryz.sizeOf15
@[reducible, instance] def uc15 := UndC.mk Tryz.underlying15
@[reducible, instance] def zl15 := ZeroL.ofOne Tryz.zeroValue15
@[reducible, instance] def ic15 : InfoC Tryz.prog 15 8 := ⟨⟨_, Tryz.type15, rfl⟩⟩
@[reducible, instance] def yc16 := TyC.mk (P := Tryz.prog) Tryz.isAgg16 Tryz.sizeOf16
@[reducible, instance] def uc16 := UndC.mk Tryz.underlying16
@[reducible, instance] def zl16 := ZeroL.ofOne Tryz.zeroValue16
@[reducible, instance] def ic16 : InfoC Tryz.prog 16 8 := ⟨⟨_, Tryz.type16, rfl⟩⟩
@[reducible, instance] def yc17 := TyC.mk (P := Tryz.prog) Tryz.isAgg17 Tryz.sizeOf17
@[reducible, instance] def uc17 := UndC.mk Tryz.underlying17
@[reducible, instance] def zl17 := ZeroL.ofOne Tryz.zeroValue17
@[reducible, instance] def ic17 : InfoC Tryz.prog 17 8 := ⟨⟨_, Tryz.type17, rfl⟩⟩
@[reducible, instance] def yc18 := TyC.mk (P := Tryz.prog) Tryz.isAgg18 Tryz.sizeOf18
@[reducible, instance] def uc18 := UndC.mk Tryz.underlying18
@[reducible, instance] def zl18 := ZeroL.ofAgg Tryz.zeroValue18
@[reducible, instance] def ic18 : InfoC Tryz.prog 18 8 := ⟨⟨_, Tryz.type18, rfl⟩⟩
@[reducible, instance] def fl18_0 : FieldC Tryz.prog 18 0 17 0 := ⟨⟨_, _, Tryz.underlying18, rfl, rfl, rfl⟩⟩
@[reducible, instance] def yc19 := TyC.mk (P := Tryz.prog) Tryz.isAgg19 Tryz.sizeOf19
@[reducible, instance] def uc19 := UndC.mk Tryz.underlying19
@[reducible, instance] def zl19 := ZeroL.ofAgg Tryz.zeroValue19
@[reducible, instance] def ic19 : InfoC Tryz.prog 19 8 := ⟨⟨_, Tryz.type19, rfl⟩⟩
@[reducible, instance] def fl19_0 : FieldC Tryz.prog 19 0 17 0 := ⟨⟨_, _, Tryz.underlying19, rfl, rfl, rfl⟩⟩
@[reducible, instance] def yc20 := TyC.mk (P := Tryz.prog) Tryz.isAgg20 Tryz.sizeOf20
@[reducible, instance] def uc20 := UndC.mk Tryz.underlying20
@[reducible, instance] def zl20 := ZeroL.ofOne Tryz.zeroValue20
@[reducible, instance] def ic20 : InfoC Tryz.prog 20 16 := ⟨⟨_, Tryz.type20, rfl⟩⟩
@[reducible, instance] def yc21 := TyC.mk (P := Tryz.prog) Tryz.isAgg21 Tryz.sizeOf21
@[reducible, instance] def uc21 := UndC.mk Tryz.underlying21
@[reducible, instance] def zl21 := ZeroL.ofOne Tryz.zeroValue21
@[reducible, instance] def ic21 : InfoC Tryz.prog 21 4 := ⟨⟨_, Tryz.type21, rfl⟩⟩
@[reducible, instance] def yc22 := TyC.mk (P := Tryz.prog) Tryz.isAgg22 Tryz.sizeOf22
@[reducible, instance] def uc22 := UndC.mk Tryz.underlying22
@[reducible, instance] def zl22 := ZeroL.ofOne Tryz.zeroValue22
@[reducible, instance] def ic22 : InfoC Tryz.prog 22 24 := ⟨⟨_, Tryz.type22, rfl⟩⟩
@[reducible, instance] def yc23 := TyC.mk (P := Tryz.prog) Tryz.isAgg23 Tryz.sizeOf23
@[reducible, instance] def uc23 := UndC.mk Tryz.underlying23
@[reducible, instance] def zl23 := ZeroL.ofAgg Tryz.zeroValue23
@[reducible, instance] def ic23 : InfoC Tryz.prog 23 56 := ⟨⟨_, Tryz.type23, rfl⟩⟩
@[reducible, instance] def fl23_0 : FieldC Tryz.prog 23 0 3 0 := ⟨⟨_, _, Tryz.underlying23, rfl, rfl, rfl⟩⟩
@[reducible, instance] def fl23_1 : FieldC Tryz.prog 23 1 3 1 := ⟨⟨_, _, Tryz.underlying23, rfl, rfl, rfl⟩⟩
@[reducible, instance] def fl23_2 : FieldC Tryz.prog 23 2 9 2 := ⟨⟨_, _, Tryz.underlying23, rfl, rfl, rfl⟩⟩
@[reducible, instance] def fl23_3 : FieldC Tryz.prog 23 3 22 3 := ⟨⟨_, _, Tryz.underlying23, rfl, rfl, rfl⟩⟩
@[reducible, instance] def yc24 := TyC.mk (P := Tryz.prog) Tryz.isAgg24 Tryz.sizeOf24
@[reducible, instance] def uc24 := UndC.mk Tryz.underlying24
@[reducible, instance] def zl24 := ZeroL.ofAgg Tryz.zeroValue24
@[reducible, instance] def ic24 : InfoC Tryz.prog 24 56 := ⟨⟨_, Tryz.type24, rfl⟩⟩
@[reducible, instance] def fl24_0 : FieldC Tryz.prog 24 0 3 0 := ⟨⟨_, _, Tryz.underlying24, rfl, rfl, rfl⟩⟩
@[reducible, instance] def fl24_1 : FieldC Tryz.prog 24 1 3 1 := ⟨⟨_, _, Tryz.underlying24, rfl, rfl, rfl⟩⟩
@[reducible, instance] def fl24_2 : FieldC Tryz.prog 24 2 9 2 := ⟨⟨_, _, Tryz.underlying24, rfl, rfl, rfl⟩⟩
@[reducible, instance] def fl24_3 : FieldC Tryz.prog 24 3 22 3 := ⟨⟨_, _, Tryz.underlying24, rfl, rfl, rfl⟩⟩
@[reducible, instance] def yc25 := TyC.mk (P := Tryz.prog) Tryz.isAgg25 Tryz.sizeOf25
@[reducible, instance] def uc25 := UndC.mk Tryz.underlying25
@[reducible, instance] def zl25 := ZeroL.ofOne Tryz.zeroValue25
@[reducible, instance] def ic25 : InfoC Tryz.prog 25 8 := ⟨⟨_, Tryz.type25, rfl⟩⟩
@[reducible, instance] def yc26 := TyC.mk (P := Tryz.prog) Tryz.isAgg26 Tryz.sizeOf26
@[reducible, instance] def uc26 := UndC.mk Tryz.underlying26
@[reducible, instance] def zl26 := ZeroL.ofOne Tryz.zeroValue26
@[reducible, instance] def ic26 : InfoC Tryz.prog 26 8 := ⟨⟨_, Tryz.type26, rfl⟩⟩
@[reducible, instance] def yc27 := TyC.mk (P := Tryz.prog) Tryz.isAgg27 Tryz.sizeOf27
@[reducible, instance] def uc27 := UndC.mk Tryz.underlying27
@[reducible, instance] def zl27 := ZeroL.ofOne Tryz.zeroValue27
@[reducible, instance] def ic27 : InfoC Tryz.prog 27 8 := ⟨⟨_, Tryz.type27, rfl⟩⟩
@[reducible, instance] def yc28 := TyC.mk (P := Tryz.prog) Tryz.isAgg28 Tryz.sizeOf28
@[reducible, instance] def uc28 := UndC.mk Tryz.underlying28
@[reducible, instance] def zl28 := ZeroL.ofOne Tryz.zeroValue28
@[reducible, instance] def ic28 : InfoC Tryz.prog 28 8 := ⟨⟨_, Tryz.type28, rfl⟩⟩
@[reducible, instance] def yc30 := TyC.mk (P := Tryz.prog) Tryz.isAgg30 Tryz.sizeOf30
@[reducible, instance] def uc30 := UndC.mk Tryz.underlying30
@[reducible, instance] def zl30 := ZeroL.ofOne Tryz.zeroValue30
@[reducible, instance] def ic30 : InfoC Tryz.prog 30 8 := ⟨⟨_, Tryz.type30, rfl⟩⟩
@[reducible, instance] def yc31 := TyC.mk (P := Tryz.prog) Tryz.isAgg31 Tryz.sizeOf31
@[reducible, instance] def uc31 := UndC.mk Tryz.underlying31
@[reducible, instance] def zl31 := ZeroL.ofOne Tryz.zeroValue31
@[reducible, instance] def ic31 : InfoC Tryz.prog 31 8 := ⟨⟨_, Tryz.type31, rfl⟩⟩
@[reducible, instance] def yc32 := TyC.mk (P := Tryz.prog) Tryz.isAgg32 Tryz.sizeOf32
@[reducible, instance] def uc32 := UndC.mk Tryz.underlying32
@[reducible, instance] def zl32 := ZeroL.ofOne Tryz.zeroValue32
@[reducible, instance] def ic32 : InfoC Tryz.prog 32 8 := ⟨⟨_, Tryz.type32, rfl⟩⟩
@[reducible, instance] def yc34 := TyC.mk (P := Tryz.prog) Tryz.isAgg34 Tryz.sizeOf34
@[reducible, instance] def uc34 := UndC.mk Tryz.underlying34
@[reducible, instance] def zl34 := ZeroL.ofOne Tryz.zeroValue34
@[reducible, instance] def ic34 : InfoC Tryz.prog 34 8 := ⟨⟨_, Tryz.type34, rfl⟩⟩
@[reducible, instance] def yc35 := TyC.mk (P := Tryz.prog) Tryz.isAgg35 Tryz.sizeOf35
@[reducible, instance] def uc35 := UndC.mk Tryz.underlying35
@[reducible, instance] def zl35 := ZeroL.ofOne Tryz.zeroValue35
@[reducible, instance] def ic35 : InfoC Tryz.prog 35 8 := ⟨⟨_, Tryz.type35, rfl⟩⟩
@[reducible, instance] def yc36 := TyC.mk (P := Tryz.prog) Tryz.isAgg36 Tryz.sizeOf36
@[reducible, instance] def uc36 := UndC.mk Tryz.underlying36
@[reducible, instance] def zl36 := ZeroL.ofAgg Tryz.zeroValue36
@[reducible, instance] def ic36 : InfoC Tryz.prog 36 32 := ⟨⟨_, Tryz.type36, rfl⟩⟩
@[reducible, instance] def fl36_0 : FieldC Tryz.prog 36 0 3 0 := ⟨⟨_, _, Tryz.underlying36, rfl, rfl, rfl⟩⟩
@[reducible, instance] def fl36_1 : FieldC Tryz.prog 36 1 3 1 := ⟨⟨_, _, Tryz.underlying36, rfl, rfl, rfl⟩⟩
@[reducible, instance] def fl36_2 : FieldC Tryz.prog 36 2 9 2 := ⟨⟨_, _, Tryz.underlying36, rfl, rfl, rfl⟩⟩
@[reducible, instance] def yc37 := TyC.mk (P := Tryz.prog) Tryz.isAgg37 Tryz.sizeOf37
@[reducible, instance] def uc37 := UndC.mk Tryz.underlying37
@[reducible, instance] def zl37 := ZeroL.ofAgg Tryz.zeroValue37
@[reducible, instance] def ic37 : InfoC Tryz.prog 37 32 := ⟨⟨_, Tryz.type37, rfl⟩⟩
@[reducible, instance] def fl37_0 : FieldC Tryz.prog 37 0 3 0 := ⟨⟨_, _, Tryz.underlying37, rfl, rfl, rfl⟩⟩
@[reducible, instance] def fl37_1 : FieldC Tryz.prog 37 1 3 1 := ⟨⟨_, _, Tryz.underlying37, rfl, rfl, rfl⟩⟩
@[reducible, instance] def fl37_2 : FieldC Tryz.prog 37 2 9 2 := ⟨⟨_, _, Tryz.underlying37, rfl, rfl, rfl⟩⟩
@[reducible, instance] def yc38 := TyC.mk (P := Tryz.prog) Tryz.isAgg38 Tryz.sizeOf38
@[reducible, instance] def uc38 := UndC.mk Tryz.underlying38
@[reducible, instance] def zl38 := ZeroL.ofAgg Tryz.zeroValue38
@[reducible, instance] def ic38 : InfoC Tryz.prog 38 48 := ⟨⟨_, Tryz.type38, rfl⟩⟩
@[reducible, instance] def fl38_0 : FieldC Tryz.prog 38 0 9 0 := ⟨⟨_, _, Tryz.underlying38, rfl, rfl, rfl⟩⟩
@[reducible, instance] def fl38_1 : FieldC Tryz.prog 38 1 37 1 := ⟨⟨_, _, Tryz.underlying38, rfl, rfl, rfl⟩⟩
@[reducible, instance] def yc39 := TyC.mk (P := Tryz.prog) Tryz.isAgg39 Tryz.sizeOf39
@[reducible, instance] def uc39 := UndC.mk Tryz.underlying39
@[reducible, instance] def zl39 := ZeroL.ofAgg Tryz.zeroValue39
@[reducible, instance] def ic39 : InfoC Tryz.prog 39 48 := ⟨⟨_, Tryz.type39, rfl⟩⟩
@[reducible, instance] def fl39_0 : FieldC Tryz.prog 39 0 9 0 := ⟨⟨_, _, Tryz.underlying39, rfl, rfl, rfl⟩⟩
@[reducible, instance] def fl39_1 : FieldC Tryz.prog 39 1 37 1 := ⟨⟨_, _, Tryz.underlying39, rfl, rfl, rfl⟩⟩
@[reducible, instance] def yc40 := TyC.mk (P := Tryz.prog) Tryz.isAgg40 Tryz.sizeOf40
@[reducible, instance] def uc40 := UndC.mk Tryz.underlying40
@[reducible, instance] def zl40 := ZeroL.ofOne Tryz.zeroValue40
@[reducible, instance] def ic40 : InfoC Tryz.prog 40 24 := ⟨⟨_, Tryz.type40, rfl⟩⟩
@[reducible, instance] def yc42 := TyC.mk (P := Tryz.prog) Tryz.isAgg42 Tryz.sizeOf42
@[reducible, instance] def uc42 := UndC.mk Tryz.underlying42
@[reducible, instance] def zl42 := ZeroL.ofOne Tryz.zeroValue42
@[reducible, instance] def ic42 : InfoC Tryz.prog 42 8 := ⟨⟨_, Tryz.type42, rfl⟩⟩
@[reducible, instance] def yc43 := TyC.mk (P := Tryz.prog) Tryz.isAgg43 Tryz.sizeOf43
@[reducible, instance] def uc43 := UndC.mk Tryz.underlying43
@[reducible, instance] def zl43 := ZeroL.ofOne Tryz.zeroValue43
@[reducible, instance] def ic43 : InfoC Tryz.prog 43 8 := ⟨⟨_, Tryz.type43, rfl⟩⟩
@[reducible, instance] def yc44 := TyC.mk (P := Tryz.prog) Tryz.isAgg44 Tryz.sizeOf44
@[reducible, instance] def uc44 := UndC.mk Tryz.underlying44
@[reducible, instance] def zl44 := ZeroL.ofOne Tryz.zeroValue44
@[reducible, instance] def ic44 : InfoC Tryz.prog 44 8 := ⟨⟨_, Tryz.type44, rfl⟩⟩
@[reducible, instance] def yc45 := TyC.mk (P := Tryz.prog) Tryz.isAgg45 Tryz.sizeOf45
@[reducible, instance] def uc45 := UndC.mk Tryz.underlying45
@[reducible, instance] def zl45 := ZeroL.ofOne Tryz.zeroValue45
@[reducible, instance] def ic45 : InfoC Tryz.prog 45 8 := ⟨⟨_, Tryz.type45, rfl⟩⟩
@[reducible, instance] def yc46 := TyC.mk (P := Tryz.prog) Tryz.isAgg46 Tryz.sizeOf46
@[reducible, instance] def uc46 := UndC.mk Tryz.underlying46
@[reducible, instance] def zl46 := ZeroL.ofOne Tryz.zeroValue46
@[reducible, instance] def ic46 : InfoC Tryz.prog 46 8 := ⟨⟨_, Tryz.type46, rfl⟩⟩
@[reducible, instance] def yc47 := TyC.mk (P := Tryz.prog) Tryz.isAgg47 Tryz.sizeOf47
@[reducible, instance] def uc47 := UndC.mk Tryz.underlying47
@[reducible, instance] def zl47 := ZeroL.ofOne Tryz.zeroValue47
@[reducible, instance] def ic47 : InfoC Tryz.prog 47 8 := ⟨⟨_, Tryz.type47, rfl⟩⟩
@[reducible, instance] def yc49 := TyC.mk (P := Tryz.prog) Tryz.isAgg49 Tryz.sizeOf49
@[reducible, instance] def uc49 := UndC.mk Tryz.underlying49
@[reducible, instance] def zl49 := ZeroL.ofOne Tryz.zeroValue49
@[reducible, instance] def ic49 : InfoC Tryz.prog 49 8 := ⟨⟨_, Tryz.type49, rfl⟩⟩
@[reducible, instance] def yc50 := TyC.mk (P := Tryz.prog) Tryz.isAgg50 Tryz.sizeOf50
@[reducible, instance] def uc50 := UndC.mk Tryz.underlying50
@[reducible, instance] def zl50 := ZeroL.ofOne Tryz.zeroValue50
@[reducible, instance] def ic50 : InfoC Tryz.prog 50 8 := ⟨⟨_, Tryz.type50, rfl⟩⟩
@[reducible, instance] def yc51 := TyC.mk (P := Tryz.prog) Tryz.isAgg51 Tryz.sizeOf51
@[reducible, instance] def uc51 := UndC.mk Tryz.underlying51
@[reducible, instance] def zl51 := ZeroL.ofOne Tryz.zeroValue51
@[reducible, instance] def ic51 : InfoC Tryz.prog 51 8 := ⟨⟨_, Tryz.type51, rfl⟩⟩
@[reducible, instance] def yc52 := TyC.mk (P := Tryz.prog) Tryz.isAgg52 Tryz.sizeOf52
@[reducible, instance] def uc52 := UndC.mk Tryz.underlying52
@[reducible, instance] def zl52 := ZeroL.ofOne Tryz.zeroValue52
@[reducible, instance] def ic52 : InfoC Tryz.prog 52 8 := ⟨⟨_, Tryz.type52, rfl⟩⟩
@[reducible, instance] def yc53 := TyC.mk (P := Tryz.prog) Tryz.isAgg53 Tryz.sizeOf53
@[reducible, instance] def uc53 := UndC.mk Tryz.underlying53
@[reducible, instance] def zl53 := ZeroL.ofOne Tryz.zeroValue53
@[reducible, instance] def ic53 : InfoC Tryz.prog 53 8 := ⟨⟨_, Tryz.type53, rfl⟩⟩
@[reducible, instance] def yc54 := TyC.mk (P := Tryz.prog) Tryz.isAgg54 Tryz.sizeOf54
@[reducible, instance] def uc54 := UndC.mk Tryz.underlying54
@[reducible, instance] def zl54 := ZeroL.ofOne Tryz.zeroValue54
@[reducible, instance] def ic54 : InfoC Tryz.prog 54 24 := ⟨⟨_, Tryz.type54, rfl⟩⟩
@[reducible, instance] def yc55 := TyC.mk (P := Tryz.prog) Tryz.isAgg55 Tryz.sizeOf55
@[reducible, instance] def uc55 := UndC.mk Tryz.underlying55
@[reducible, instance] def zl55 := ZeroL.ofOne Tryz.zeroValue55
@[reducible, instance] def ic55 : InfoC Tryz.prog 55 8 := ⟨⟨_, Tryz.type55, rfl⟩⟩
@[reducible, instance] def yc56 := TyC.mk (P := Tryz.prog) Tryz.isAgg56 Tryz.sizeOf56
@[reducible, instance] def uc56 := UndC.mk Tryz.underlying56
@[reducible, instance] def zl56 := ZeroL.ofOne Tryz.zeroValue56
@[reducible, instance] def ic56 : InfoC Tryz.prog 56 8 := ⟨⟨_, Tryz.type56, rfl⟩⟩
@[reducible, instance] def yc57 := TyC.mk (P := Tryz.prog) Tryz.isAgg57 Tryz.sizeOf57
@[reducible, instance] def uc57 := UndC.mk Tryz.underlying57
@[reducible, instance] def zl57 := ZeroL.ofOne Tryz.zeroValue57
@[reducible, instance] def ic57 : InfoC Tryz.prog 57 8 := ⟨⟨_, Tryz.type57, rfl⟩⟩
@[reducible, instance] def yc58 := TyC.mk (P := Tryz.prog) Tryz.isAgg58 Tryz.sizeOf58
@[reducible, instance] def uc58 := UndC.mk Tryz.underlying58
@[reducible, instance] def zl58 := ZeroL.ofOne Tryz.zeroValue58
@[reducible, instance] def ic58 : InfoC Tryz.prog 58 8 := ⟨⟨_, Tryz.type58, rfl⟩⟩
@[reducible, instance] def yc59 := TyC.mk (P := Tryz.prog) Tryz.isAgg59 Tryz.sizeOf59
@[reducible, instance] def uc59 := UndC.mk Tryz.underlying59
@[reducible, instance] def zl59 := ZeroL.ofOne Tryz.zeroValue59
@[reducible, instance] def ic59 : InfoC Tryz.prog 59 8 := ⟨⟨_, Tryz.type59, rfl⟩⟩
@[reducible, instance] def yc60 := TyC.mk (P := Tryz.prog) Tryz.isAgg60 Tryz.sizeOf60
@[reducible, instance] def uc60 := UndC.mk Tryz.underlying60
@[reducible, instance] def zl60 := ZeroL.ofAgg Tryz.zeroValue60
@[reducible, instance] def ic60 : InfoC Tryz.prog 60 64 := ⟨⟨_, Tryz.type60, rfl⟩⟩
@[reducible, instance] def fl60_0 : FieldC Tryz.prog 60 0 24 0 := ⟨⟨_, _, Tryz.underlying60, rfl, rfl, rfl⟩⟩
@[reducible, instance] def fl60_1 : FieldC Tryz.prog 60 1 3 4 := ⟨⟨_, _, Tryz.underlying60, rfl, rfl, rfl⟩⟩
@[reducible, instance] def yc61 := TyC.mk (P := Tryz.prog) Tryz.isAgg61 Tryz.sizeOf61
@[reducible, instance] def uc61 := UndC.mk Tryz.underlying61
@[reducible, instance] def zl61 := ZeroL.ofAgg Tryz.zeroValue61
@[reducible, instance] def ic61 : InfoC Tryz.prog 61 64 := ⟨⟨_, Tryz.type61, rfl⟩⟩
@[reducible, instance] def fl61_0 : FieldC Tryz.prog 61 0 24 0 := ⟨⟨_, _, Tryz.underlying61, rfl, rfl, rfl⟩⟩
@[reducible, instance] def fl61_1 : FieldC Tryz.prog 61 1 3 4 := ⟨⟨_, _, Tryz.underlying61, rfl, rfl, rfl⟩⟩
@[reducible, instance] def yc62 := TyC.mk (P := Tryz.prog) Tryz.isAgg62 Tryz.sizeOf62
@[reducible, instance] def uc62 := UndC.mk Tryz.underlying62
@[reducible, instance] def zl62 := ZeroL.ofOne Tryz.zeroValue62
@[reducible, instance] def ic62 : InfoC Tryz.prog 62 24 := ⟨⟨_, Tryz.type62, rfl⟩⟩
@[reducible, instance] def yc63 := TyC.mk (P := Tryz.prog) Tryz.isAgg63 Tryz.sizeOf63
@[reducible, instance] def uc63 := UndC.mk Tryz.underlying63
@[reducible, instance] def zl63 := ZeroL.ofOne Tryz.zeroValue63
@[reducible, instance] def ic63 : InfoC Tryz.prog 63 8 := ⟨⟨_, Tryz.type63, rfl⟩⟩
@[reducible, instance] def yc64 := TyC.mk (P := Tryz.prog) Tryz.isAgg64 Tryz.sizeOf64
@[reducible, instance] def uc64 := UndC.mk Tryz.underlying64
@[reducible, instance] def zl64 := ZeroL.ofAgg Tryz.zeroValue64
@[reducible, instance] def ic64 : InfoC Tryz.prog 64 16 := ⟨⟨_, Tryz.type64, rfl⟩⟩
@[reducible, instance] def fl64_0 : FieldC Tryz.prog 64 0 27 0 := ⟨⟨_, _, Tryz.underlying64, rfl, rfl, rfl⟩⟩
@[reducible, instance] def fl64_1 : FieldC Tryz.prog 64 1 3 1 := ⟨⟨_, _, Tryz.underlying64, rfl, rfl, rfl⟩⟩
@[reducible, instance] def yc65 := TyC.mk (P := Tryz.prog) Tryz.isAgg65 Tryz.sizeOf65
@[reducible, instance] def uc65 := UndC.mk Tryz.underlying65
@[reducible, instance] def zl65 := ZeroL.ofAgg Tryz.zeroValue65
@[reducible, instance] def ic65 : InfoC Tryz.prog 65 16 := ⟨⟨_, Tryz.type65, rfl⟩⟩
@[reducible, instance] def fl65_0 : FieldC Tryz.prog 65 0 27 0 := ⟨⟨_, _, Tryz.underlying65, rfl, rfl, rfl⟩⟩
@[reducible, instance] def fl65_1 : FieldC Tryz.prog 65 1 3 1 := ⟨⟨_, _, Tryz.underlying65, rfl, rfl, rfl⟩⟩
@[reducible, instance] def yc67 := TyC.mk (P := Tryz.prog) Tryz.isAgg67 Tryz.sizeOf67
@[reducible, instance] def uc67 := UndC.mk Tryz.underlying67
@[reducible, instance] def zl67 := ZeroL.ofOne Tryz.zeroValue67
@[reducible, instance] def ic67 : InfoC Tryz.prog 67 8 := ⟨⟨_, Tryz.type67, rfl⟩⟩
@[reducible, instance] def yc68 := TyC.mk (P := Tryz.prog) Tryz.isAgg68 Tryz.sizeOf68
@[reducible, instance] def uc68 := UndC.mk Tryz.underlying68
@[reducible, instance] def zl68 := ZeroL.ofOne Tryz.zeroValue68
@[reducible, instance] def ic68 : InfoC Tryz.prog 68 8 := ⟨⟨_, Tryz.type68, rfl⟩⟩
@[reducible, instance] def yc69 := TyC.mk (P := Tryz.prog) Tryz.isAgg69 Tryz.sizeOf69
@[reducible, instance] def uc69 := UndC.mk Tryz.underlying69
@[reducible, instance] def zl69 := ZeroL.ofAgg Tryz.zeroValue69
@[reducible, instance] def ic69 : InfoC Tryz.prog 69 40 := ⟨⟨_, Tryz.type69, rfl⟩⟩
@[reducible, instance] def fl69_0 : FieldC Tryz.prog 69 0 9 0 := ⟨⟨_, _, Tryz.underlying69, rfl, rfl, rfl⟩⟩
@[reducible, instance] def fl69_1 : FieldC Tryz.prog 69 1 9 1 := ⟨⟨_, _, Tryz.underlying69, rfl, rfl, rfl⟩⟩
@[reducible, instance] def fl69_2 : FieldC Tryz.prog 69 2 3 2 := ⟨⟨_, _, Tryz.underlying69, rfl, rfl, rfl⟩⟩
@[reducible, instance] def yc70 := TyC.mk (P := Tryz.prog) Tryz.isAgg70 Tryz.sizeOf70
@[reducible, instance] def uc70 := UndC.mk Tryz.underlying70
@[reducible, instance] def zl70 := ZeroL.ofAgg Tryz.zeroValue70
@[reducible, instance] def ic70 : InfoC Tryz.prog 70 40 := ⟨⟨_, Tryz.type70, rfl⟩⟩
@[reducible, instance] def fl70_0 : FieldC Tryz.prog 70 0 9 0 := ⟨⟨_, _, Tryz.underlying70, rfl, rfl, rfl⟩⟩
@[reducible, instance] def fl70_1 : FieldC Tryz.prog 70 1 9 1 := ⟨⟨_, _, Tryz.underlying70, rfl, rfl, rfl⟩⟩
@[reducible, instance] def fl70_2 : FieldC Tryz.prog 70 2 3 2 := ⟨⟨_, _, Tryz.underlying70, rfl, rfl, rfl⟩⟩
@[reducible, instance] def yc71 := TyC.mk (P := Tryz.prog) Tryz.isAgg71 Tryz.sizeOf71
@[reducible, instance] def uc71 := UndC.mk Tryz.underlying71
@[reducible, instance] def zl71 := ZeroL.ofAgg Tryz.zeroValue71
@[reducible, instance] def ic71 : InfoC Tryz.prog 71 56 := ⟨⟨_, Tryz.type71, rfl⟩⟩
@[reducible, instance] def fl71_0 : FieldC Tryz.prog 71 0 9 0 := ⟨⟨_, _, Tryz.underlying71, rfl, rfl, rfl⟩⟩
@[reducible, instance] def fl71_1 : FieldC Tryz.prog 71 1 70 1 := ⟨⟨_, _, Tryz.underlying71, rfl, rfl, rfl⟩⟩
@[reducible, instance] def yc72 := TyC.mk (P := Tryz.prog) Tryz.isAgg72 Tryz.sizeOf72
@[reducible, instance] def uc72 := UndC.mk Tryz.underlying72
@[reducible, instance] def zl72 := ZeroL.ofAgg Tryz.zeroValue72
@[reducible, instance] def ic72 : InfoC Tryz.prog 72 56 := ⟨⟨_, Tryz.type72, rfl⟩⟩
@[reducible, instance] def fl72_0 : FieldC Tryz.prog 72 0 9 0 := ⟨⟨_, _, Tryz.underlying72, rfl, rfl, rfl⟩⟩
@[reducible, instance] def fl72_1 : FieldC Tryz.prog 72 1 70 1 := ⟨⟨_, _, Tryz.underlying72, rfl, rfl, rfl⟩⟩
@[reducible, instance] def yc73 := TyC.mk (P := Tryz.prog) Tryz.isAgg73 Tryz.sizeOf73
@[reducible, instance] def uc73 := UndC.mk Tryz.underlying73
@[reducible, instance] def zl73 := ZeroL.ofOne Tryz.zeroValue73
@[reducible, instance] def ic73 : InfoC Tryz.prog 73 8 := ⟨⟨_, Tryz.type73, rfl⟩⟩
@[reducible, instance] def yc74 := TyC.mk (P := Tryz.prog) Tryz.isAgg74 Tryz.sizeOf74
@[reducible, instance] def uc74 := UndC.mk Tryz.underlying74
@[reducible, instance] def zl74 := ZeroL.ofOne Tryz.zeroValue74
@[reducible, instance] def ic74 : InfoC Tryz.prog 74 8 := ⟨⟨_, Tryz.type74, rfl⟩⟩
@[reducible, instance] def yc75 := TyC.mk (P := Tryz.prog) Tryz.isAgg75 Tryz.sizeOf75
@[reducible, instance] def uc75 := UndC.mk Tryz.underlying75
@[reducible, instance] def zl75 := ZeroL.ofOne Tryz.zeroValue75
@[reducible, instance] def ic75 : InfoC Tryz.prog 75 8 := ⟨⟨_, Tryz.type75, rfl⟩⟩
@[reducible, instance] def yc76 := TyC.mk (P := Tryz.prog) Tryz.isAgg76 Tryz.sizeOf76
@[reducible, instance] def uc76 := UndC.mk Tryz.underlying76
@[reducible, instance] def zl76 := ZeroL.ofAgg Tryz.zeroValue76
@[reducible, instance] def ic76 : InfoC Tryz.prog 76 32 := ⟨⟨_, Tryz.type76, rfl⟩⟩
@[reducible, instance] def fl76_0 : FieldC Tryz.prog 76 0 5 0 := ⟨⟨_, _, Tryz.underlying76, rfl, rfl, rfl⟩⟩
@[reducible, instance] def fl76_1 : FieldC Tryz.prog 76 1 9 1 := ⟨⟨_, _, Tryz.underlying76, rfl, rfl, rfl⟩⟩
@[reducible, instance] def fl76_2 : FieldC Tryz.prog 76 2 3 2 := ⟨⟨_, _, Tryz.underlying76, rfl, rfl, rfl⟩⟩
@[reducible, instance] def yc77 := TyC.mk (P := Tryz.prog) Tryz.isAgg77 Tryz.sizeOf77
@[reducible, instance] def uc77 := UndC.mk Tryz.underlying77
@[reducible, instance] def zl77 := ZeroL.ofAgg Tryz.zeroValue77
@[reducible, instance] def ic77 : InfoC Tryz.prog 77 32 := ⟨⟨_, Tryz.type77, rfl⟩⟩
@[reducible, instance] def fl77_0 : FieldC Tryz.prog 77 0 5 0 := ⟨⟨_, _, Tryz.underlying77, rfl, rfl, rfl⟩⟩
@[reducible, instance] def fl77_1 : FieldC Tryz.prog 77 1 9 1 := ⟨⟨_, _, Tryz.underlying77, rfl, rfl, rfl⟩⟩
@[reducible, instance] def fl77_2 : FieldC Tryz.prog 77 2 3 2 := ⟨⟨_, _, Tryz.underlying77, rfl, rfl, rfl⟩⟩
@[reducible, instance] def yc78 := TyC.mk (P := Tryz.prog) Tryz.isAgg78 Tryz.sizeOf78
@[reducible, instance] def uc78 := UndC.mk Tryz.underlying78
@[reducible, instance] def zl78 := ZeroL.ofAgg Tryz.zeroValue78
@[reducible, instance] def ic78 : InfoC Tryz.prog 78 72 := ⟨⟨_, Tryz.type78, rfl⟩⟩
@[reducible, instance] def fl78_0 : FieldC Tryz.prog 78 0 9 0 := ⟨⟨_, _, Tryz.underlying78, rfl, rfl, rfl⟩⟩
@[reducible, instance] def fl78_1 : FieldC Tryz.prog 78 1 77 1 := ⟨⟨_, _, Tryz.underlying78, rfl, rfl, rfl⟩⟩
@[reducible, instance] def fl78_2 : FieldC Tryz.prog 78 2 3 4 := ⟨⟨_, _, Tryz.underlying78, rfl, rfl, rfl⟩⟩
@[reducible, instance] def fl78_3 : FieldC Tryz.prog 78 3 27 5 := ⟨⟨_, _, Tryz.underlying78, rfl, rfl, rfl⟩⟩
@[reducible, instance] def fl78_4 : FieldC Tryz.prog 78 4 3 6 := ⟨⟨_, _, Tryz.underlying78, rfl, rfl, rfl⟩⟩
@[reducible, instance] def yc79 := TyC.mk (P := Tryz.prog) Tryz.isAgg79 Tryz.sizeOf79
@[reducible, instance] def uc79 := UndC.mk Tryz.underlying79
@[reducible, instance] def zl79 := ZeroL.ofAgg Tryz.zeroValue79
@[reducible, instance] def ic79 : InfoC Tryz.prog 79 72 := ⟨⟨_, Tryz.type79, rfl⟩⟩
@[reducible, instance] def fl79_0 : FieldC Tryz.prog 79 0 9 0 := ⟨⟨_, _, Tryz.underlying79, rfl, rfl, rfl⟩⟩
@[reducible, instance] def fl79_1 : FieldC Tryz.prog 79 1 77 1 := ⟨⟨_, _, Tryz.underlying79, rfl, rfl, rfl⟩⟩
@[reducible, instance] def fl79_2 : FieldC Tryz.prog 79 2 3 4 := ⟨⟨_, _, Tryz.underlying79, rfl, rfl, rfl⟩⟩
@[reducible, instance] def fl79_3 : FieldC Tryz.prog 79 3 27 5 := ⟨⟨_, _, Tryz.underlying79, rfl, rfl, rfl⟩⟩
@[reducible, instance] def fl79_4 : FieldC Tryz.prog 79 4 3 6 := ⟨⟨_, _, Tryz.underlying79, rfl, rfl, rfl⟩⟩
@[reducible, instance] def yc80 := TyC.mk (P := Tryz.prog) Tryz.isAgg80 Tryz.sizeOf80
@[reducible, instance] def uc80 := UndC.mk Tryz.underlying80
@[reducible, instance] def zl80 := ZeroL.ofOne Tryz.zeroValue80
@[reducible, instance] def ic80 : InfoC Tryz.prog 80 8 := ⟨⟨_, Tryz.type80, rfl⟩⟩
@[reducible, instance] def yc81 := TyC.mk (P := Tryz.prog) Tryz.isAgg81 Tryz.sizeOf81
@[reducible, instance] def uc81 := UndC.mk Tryz.underlying81
@[reducible, instance] def zl81 := ZeroL.ofOne Tryz.zeroValue81
@[reducible, instance] def ic81 : InfoC Tryz.prog 81 8 := ⟨⟨_, Tryz.type81, rfl⟩⟩
@[reducible, instance] def yc82 := TyC.mk (P := Tryz.prog) Tryz.isAgg82 Tryz.sizeOf82
@[reducible, instance] def uc82 := UndC.mk Tryz.underlying82
@[reducible, instance] def zl82 := ZeroL.ofOne Tryz.zeroValue82
@[reducible, instance] def ic82 : InfoC Tryz.prog 82 8 := ⟨⟨_, Tryz.type82, rfl⟩⟩
@[reducible, instance] def yc83 := TyC.mk (P := Tryz.prog) Tryz.isAgg83 Tryz.sizeOf83
@[reducible, instance] def uc83 := UndC.mk Tryz.underlying83
@[reducible, instance] def zl83 := ZeroL.ofOne Tryz.zeroValue83
@[reducible, instance] def ic83 : InfoC Tryz.prog 83 24 := ⟨⟨_, Tryz.type83, rfl⟩⟩
@[reducible, instance] def yc84 := TyC.mk (P := Tryz.prog) Tryz.isAgg84 Tryz.sizeOf84
@[reducible, instance] def uc84 := UndC.mk Tryz.underlying84
@[reducible, instance] def zl84 := ZeroL.ofAgg Tryz.zeroValue84
@[reducible, instance] def ic84 : InfoC Tryz.prog 84 32 := ⟨⟨_, Tryz.type84, rfl⟩⟩
@[reducible, instance] def fl84_0 : FieldC Tryz.prog 84 0 82 0 := ⟨⟨_, _, Tryz.underlying84, rfl, rfl, rfl⟩⟩
@[reducible, instance] def fl84_1 : FieldC Tryz.prog 84 1 83 1 := ⟨⟨_, _, Tryz.underlying84, rfl, rfl, rfl⟩⟩
@[reducible, instance] def yc85 := TyC.mk (P := Tryz.prog) Tryz.isAgg85 Tryz.sizeOf85
@[reducible, instance] def uc85 := UndC.mk Tryz.underlying85
@[reducible, instance] def zl85 := ZeroL.ofAgg Tryz.zeroValue85
@[reducible, instance] def ic85 : InfoC Tryz.prog 85 32 := ⟨⟨_, Tryz.type85, rfl⟩⟩
@[reducible, instance] def fl85_0 : FieldC Tryz.prog 85 0 82 0 := ⟨⟨_, _, Tryz.underlying85, rfl, rfl, rfl⟩⟩
@[reducible, instance] def fl85_1 : FieldC Tryz.prog 85 1 83 1 := ⟨⟨_, _, Tryz.underlying85, rfl, rfl, rfl⟩⟩
@[reducible, instance] def yc86 := TyC.mk (P := Tryz.prog) Tryz.isAgg86 Tryz.sizeOf86
@[reducible, instance] def uc86 := UndC.mk Tryz.underlying86
@[reducible, instance] def zl86 := ZeroL.ofOne Tryz.zeroValue86
@[reducible, instance] def ic86 : InfoC Tryz.prog 86 8 := ⟨⟨_, Tryz.type86, rfl⟩⟩
@[reducible, instance] def yc87 := TyC.mk (P := Tryz.prog) Tryz.isAgg87 Tryz.sizeOf87
@[reducible, instance] def uc87 := UndC.mk Tryz.underlying87
@[reducible, instance] def zl87 := ZeroL.ofOne Tryz.zeroValue87
@[reducible, instance] def ic87 : InfoC Tryz.prog 87 8 := ⟨⟨_, Tryz.type87, rfl⟩⟩
@[reducible, instance] def yc88 := TyC.mk (P := Tryz.prog) Tryz.isAgg88 Tryz.sizeOf88
@[reducible, instance] def uc88 := UndC.mk Tryz.underlying88
@[reducible, instance] def zl88 := ZeroL.ofOne Tryz.zeroValue88
@[reducible, instance] def ic88 : InfoC Tryz.prog 88 8 := ⟨⟨_, Tryz.type88, rfl⟩⟩
@[reducible, instance] def yc89 := TyC.mk (P := Tryz.prog) Tryz.isAgg89 Tryz.sizeOf89
@[reducible, instance] def uc89 := UndC.mk Tryz.underlying89
@[reducible, instance] def zl89 := ZeroL.ofOne Tryz.zeroValue89
@[reducible, instance] def ic89 : InfoC Tryz.prog 89 8 := ⟨⟨_, Tryz.type89, rfl⟩⟩
@[reducible, instance] def yc90 := TyC.mk (P := Tryz.prog) Tryz.isAgg90 Tryz.sizeOf90
@[reducible, instance] def uc90 := UndC.mk Tryz.underlying90
@[reducible, instance] def zl90 := ZeroL.ofOne Tryz.zeroValue90
@[reducible, instance] def ic90 : InfoC Tryz.prog 90 8 := ⟨⟨_, Tryz.type90, rfl⟩⟩
@[reducible, instance] def yc91 := TyC.mk (P := Tryz.prog) Tryz.isAgg91 Tryz.sizeOf91
@[reducible, instance] def uc91 := UndC.mk Tryz.underlying91
@[reducible, instance] def zl91 := ZeroL.ofOne Tryz.zeroValue91
@[reducible, instance] def ic91 : InfoC Tryz.prog 91 8 := ⟨⟨_, Tryz.type91, rfl⟩⟩
@[reducible, instance] def yc92 := TyC.mk (P := Tryz.prog) Tryz.isAgg92 Tryz.sizeOf92
@[reducible, instance] def uc92 := UndC.mk Tryz.underlying92
@[reducible, instance] def zl92 := ZeroL.ofOne Tryz.zeroValue92
@[reducible, instance] def ic92 : InfoC Tryz.prog 92 24 := ⟨⟨_, Tryz.type92, rfl⟩⟩
@[reducible, instance] def yc93 := TyC.mk (P := Tryz.prog) Tryz.isAgg93 Tryz.sizeOf93
@[reducible, instance] def uc93 := UndC.mk Tryz.underlying93
@[reducible, instance] def zl93 := ZeroL.ofOne Tryz.zeroValue93
@[reducible, instance] def ic93 : InfoC Tryz.prog 93 8 := ⟨⟨_, Tryz.type93, rfl⟩⟩
@[reducible, instance] def yc94 := TyC.mk (P := Tryz.prog) Tryz.isAgg94 Tryz.sizeOf94
@[reducible, instance] def uc94 := UndC.mk Tryz.underlying94
@[reducible, instance] def zl94 := ZeroL.ofOne Tryz.zeroValue94
@[reducible, instance] def ic94 : InfoC Tryz.prog 94 8 := ⟨⟨_, Tryz.type94, rfl⟩⟩
@[reducible, instance] def yc95 := TyC.mk (P := Tryz.prog) Tryz.isAgg95 Tryz.sizeOf95
@[reducible, instance] def uc95 := UndC.mk Tryz.underlying95
@[reducible, instance] def zl95 := ZeroL.ofOne Tryz.zeroValue95
@[reducible, instance] def ic95 : InfoC Tryz.prog 95 8 := ⟨⟨_, Tryz.type95, rfl⟩⟩
@[reducible, instance] def yc96 := TyC.mk (P := Tryz.prog) Tryz.isAgg96 Tryz.sizeOf96
@[reducible, instance] def uc96 := UndC.mk Tryz.underlying96
@[reducible, instance] def zl96 := ZeroL.ofOne Tryz.zeroValue96
@[reducible, instance] def ic96 : InfoC Tryz.prog 96 8 := ⟨⟨_, Tryz.type96, rfl⟩⟩
@[reducible, instance] def yc97 := TyC.mk (P := Tryz.prog) Tryz.isAgg97 Tryz.sizeOf97
@[reducible, instance] def uc97 := UndC.mk Tryz.underlying97
@[reducible, instance] def zl97 := ZeroL.ofOne Tryz.zeroValue97
@[reducible, instance] def ic97 : InfoC Tryz.prog 97 8 := ⟨⟨_, Tryz.type97, rfl⟩⟩
@[reducible, instance] def yc98 := TyC.mk (P := Tryz.prog) Tryz.isAgg98 Tryz.sizeOf98
@[reducible, instance] def uc98 := UndC.mk Tryz.underlying98
@[reducible, instance] def zl98 := ZeroL.ofOne Tryz.zeroValue98
@[reducible, instance] def ic98 : InfoC Tryz.prog 98 8 := ⟨⟨_, Tryz.type98, rfl⟩⟩
@[reducible, instance] def yc99 := TyC.mk (P := Tryz.prog) Tryz.isAgg99 Tryz.sizeOf99
@[reducible, instance] def uc99 := UndC.mk Tryz.underlying99
@[reducible, instance] def zl99 := ZeroL.ofOne Tryz.zeroValue99
@[reducible, instance] def ic99 : InfoC Tryz.prog 99 8 := ⟨⟨_, Tryz.type99, rfl⟩⟩
@[reducible, instance] def yc100 := TyC.mk (P := Tryz.prog) Tryz.isAgg100 Tryz.sizeOf100
@[reducible, instance] def uc100 := UndC.mk Tryz.underlying100
@[reducible, instance] def zl100 := ZeroL.ofOne Tryz.zeroValue100
@[reducible, instance] def ic100 : InfoC Tryz.prog 100 8 := ⟨⟨_, Tryz.type100, rfl⟩⟩
@[reducible, instance] def yc101 := TyC.mk (P := Tryz.prog) Tryz.isAgg101 Tryz.sizeOf101
@[reducible, instance] def uc101 := UndC.mk Tryz.underlying101
@[reducible, instance] def zl101 := ZeroL.ofOne Tryz.zeroValue101
@[reducible, instance] def ic101 : InfoC Tryz.prog 101 8 := ⟨⟨_, Tryz.type101, rfl⟩⟩
@[reducible, instance] def yc102 := TyC.mk (P := Tryz.prog) Tryz.isAgg102 Tryz.sizeOf102
@[reducible, instance] def uc102 := UndC.mk Tryz.underlying102
@[reducible, instance] def zl102 := ZeroL.ofOne Tryz.zeroValue102
@[reducible, instance] def ic102 : InfoC Tryz.prog 102 8 := ⟨⟨_, Tryz.type102, rfl⟩⟩
@[reducible, instance] def yc103 := TyC.mk (P := Tryz.prog) Tryz.isAgg103 Tryz.sizeOf103
@[reducible, instance] def uc103 := UndC.mk Tryz.underlying103
@[reducible, instance] def zl103 := ZeroL.ofOne Tryz.zeroValue103
@[reducible, instance] def ic103 : InfoC Tryz.prog 103 8 := ⟨⟨_, Tryz.type103, rfl⟩⟩
@[reducible, instance] def yc104 := TyC.mk (P := Tryz.prog) Tryz.isAgg104 Tryz.sizeOf104
@[reducible, instance] def uc104 := UndC.mk Tryz.underlying104
@[reducible, instance] def zl104 := ZeroL.ofOne Tryz.zeroValue104
@[reducible, instance] def ic104 : InfoC Tryz.prog 104 8 := ⟨⟨_, Tryz.type104, rfl⟩⟩
@[reducible, instance] def yc105 := TyC.mk (P := Tryz.prog) Tryz.isAgg105 Tryz.sizeOf105
@[reducible, instance] def uc105 := UndC.mk Tryz.underlying105
@[reducible, instance] def zl105 := ZeroL.ofAgg Tryz.zeroValue105
@[reducible, instance] def ic105 : InfoC Tryz.prog 105 24 := ⟨⟨_, Tryz.type105, rfl⟩⟩
@[reducible, instance] def fl105_0 : FieldC Tryz.prog 105 0 3 0 := ⟨⟨_, _, Tryz.underlying105, rfl, rfl, rfl⟩⟩
@[reducible, instance] def fl105_1 : FieldC Tryz.prog 105 1 3 1 := ⟨⟨_, _, Tryz.underlying105, rfl, rfl, rfl⟩⟩
@[reducible, instance] def fl105_2 : FieldC Tryz.prog 105 2 96 2 := ⟨⟨_, _, Tryz.underlying105, rfl, rfl, rfl⟩⟩
@[reducible, instance] def yc106 := TyC.mk (P := Tryz.prog) Tryz.isAgg106 Tryz.sizeOf106
@[reducible, instance] def uc106 := UndC.mk Tryz.underlying106
@[reducible, instance] def zl106 := ZeroL.ofAgg Tryz.zeroValue106
@[reducible, instance] def ic106 : InfoC Tryz.prog 106 24 := ⟨⟨_, Tryz.type106, rfl⟩⟩
@[reducible, instance] def fl106_0 : FieldC Tryz.prog 106 0 3 0 := ⟨⟨_, _, Tryz.underlying106, rfl, rfl, rfl⟩⟩
@[reducible, instance] def fl106_1 : FieldC Tryz.prog 106 1 3 1 := ⟨⟨_, _, Tryz.underlying106, rfl, rfl, rfl⟩⟩
@[reducible, instance] def fl106_2 : FieldC Tryz.prog 106 2 96 2 := ⟨⟨_, _, Tryz.underlying106, rfl, rfl, rfl⟩⟩
@[reducible, instance] def yc108 := TyC.mk (P := Tryz.prog) Tryz.isAgg108 Tryz.sizeOf108
@[reducible, instance] def uc108 := UndC.mk Tryz.underlying108
@[reducible, instance] def zl108 := ZeroL.ofOne Tryz.zeroValue108
@[reducible, instance] def ic108 : InfoC Tryz.prog 108 8 := ⟨⟨_, Tryz.type108, rfl⟩⟩
@[reducible, instance] def yc109 := TyC.mk (P := Tryz.prog) Tryz.isAgg109 Tryz.sizeOf109
@[reducible, instance] def uc109 := UndC.mk Tryz.underlying109
@[reducible, instance] def zl109 := ZeroL.ofOne Tryz.zeroValue109
@[reducible, instance] def ic109 : InfoC Tryz.prog 109 8 := ⟨⟨_, Tryz.type109, rfl⟩⟩
@[reducible, instance] def yc111 := TyC.mk (P := Tryz.prog) Tryz.isAgg111 Tryz.sizeOf111
@[reducible, instance] def uc111 := UndC.mk Tryz.underlying111
@[reducible, instance] def zl111 := ZeroL.ofOne Tryz.zeroValue111
@[reducible, instance] def ic111 : InfoC Tryz.prog 111 8 := ⟨⟨_, Tryz.type111, rfl⟩⟩
@[reducible, instance] def yc112 := TyC.mk (P := Tryz.prog) Tryz.isAgg112 Tryz.sizeOf112
@[reducible, instance] def uc112 := UndC.mk Tryz.underlying112
@[reducible, instance] def zl112 := ZeroL.ofOne Tryz.zeroValue112
@[reducible, instance] def ic112 : InfoC Tryz.prog 112 8 := ⟨⟨_, Tryz.type112, rfl⟩⟩
@[reducible, instance] def yc113 := TyC.mk (P := Tryz.prog) Tryz.isAgg113 Tryz.sizeOf113
@[reducible, instance] def uc113 := UndC.mk Tryz.underlying113
@[reducible, instance] def zl113 := ZeroL.ofOne Tryz.zeroValue113
@[reducible, instance] def ic113 : InfoC Tryz.prog 113 8 := ⟨⟨_, Tryz.type113, rfl⟩⟩
@[reducible, instance] def yc114 := TyC.mk (P := Tryz.prog) Tryz.isAgg114 Tryz.sizeOf114
@[reducible, instance] def uc114 := UndC.mk Tryz.underlying114
@[reducible, instance] def zl114 := ZeroL.ofOne Tryz.zeroValue114
@[reducible, instance] def ic114 : InfoC Tryz.prog 114 8 := ⟨⟨_, Tryz.type114, rfl⟩⟩
@[reducible, instance] def yc115 := TyC.mk (P := Tryz.prog) Tryz.isAgg115 Tryz.sizeOf115
@[reducible, instance] def uc115 := UndC.mk Tryz.underlying115
@[reducible, instance] def zl115 := ZeroL.ofOne Tryz.zeroValue115
@[reducible, instance] def ic115 : InfoC Tryz.prog 115 8 := ⟨⟨_, Tryz.type115, rfl⟩⟩
@[reducible, instance] def yc117 := TyC.mk (P := Tryz.prog) Tryz.isAgg117 Tryz.sizeOf117
@[reducible, instance] def uc117 := UndC.mk Tryz.underlying117
@[reducible, instance] def zl117 := ZeroL.ofOne Tryz.zeroValue117
@[reducible, instance] def ic117 : InfoC Tryz.prog 117 8 := ⟨⟨_, Tryz.type117, rfl⟩⟩
@[reducible, instance] def yc119 := TyC.mk (P := Tryz.prog) Tryz.isAgg119 Tryz.sizeOf119
@[reducible, instance] def uc119 := UndC.mk Tryz.underlying119
@[reducible, instance] def zl119 := ZeroL.ofOne Tryz.zeroValue119
@[reducible, instance] def ic119 : InfoC Tryz.prog 119 8 := ⟨⟨_, Tryz.type119, rfl⟩⟩
@[reducible, instance] def yc120 := TyC.mk (P := Tryz.prog) Tryz.isAgg120 Tryz.sizeOf120
@[reducible, instance] def uc120 := UndC.mk Tryz.underlying120
@[reducible, instance] def zl120 := ZeroL.ofAgg Tryz.zeroValue120
@[reducible, instance] def ic120 : InfoC Tryz.prog 120 40 := ⟨⟨_, Tryz.type120, rfl⟩⟩
@[reducible, instance] def fl120_0 : FieldC Tryz.prog 120 0 9 0 := ⟨⟨_, _, Tryz.underlying120, rfl, rfl, rfl⟩⟩
@[reducible, instance] def fl120_1 : FieldC Tryz.prog 120 1 3 1 := ⟨⟨_, _, Tryz.underlying120, rfl, rfl, rfl⟩⟩
@[reducible, instance] def fl120_2 : FieldC Tryz.prog 120 2 3 2 := ⟨⟨_, _, Tryz.underlying120, rfl, rfl, rfl⟩⟩
@[reducible, instance] def fl120_3 : FieldC Tryz.prog 120 3 3 3 := ⟨⟨_, _, Tryz.underlying120, rfl, rfl, rfl⟩⟩
@[reducible, instance] def yc121 := TyC.mk (P := Tryz.prog) Tryz.isAgg121 Tryz.sizeOf121
@[reducible, instance] def uc121 := UndC.mk Tryz.underlying121
@[reducible, instance] def zl121 := ZeroL.ofAgg Tryz.zeroValue121
@[reducible, instance] def ic121 : InfoC Tryz.prog 121 40 := ⟨⟨_, Tryz.type121, rfl⟩⟩
@[reducible, instance] def fl121_0 : FieldC Tryz.prog 121 0 9 0 := ⟨⟨_, _, Tryz.underlying121, rfl, rfl, rfl⟩⟩
@[reducible, instance] def fl121_1 : FieldC Tryz.prog 121 1 3 1 := ⟨⟨_, _, Tryz.underlying121, rfl, rfl, rfl⟩⟩
@[reducible, instance] def fl121_2 : FieldC Tryz.prog 121 2 3 2 := ⟨⟨_, _, Tryz.underlying121, rfl, rfl, rfl⟩⟩
@[reducible, instance] def fl121_3 : FieldC Tryz.prog 121 3 3 3 := ⟨⟨_, _, Tryz.underlying121, rfl, rfl, rfl⟩⟩
@[reducible, instance] def yc122 := TyC.mk (P := Tryz.prog) Tryz.isAgg122 Tryz.sizeOf122
@[reducible, instance] def uc122 := UndC.mk Tryz.underlying122
@[reducible, instance] def zl122 := ZeroL.ofOne Tryz.zeroValue122
@[reducible, instance] def ic122 : InfoC Tryz.prog 122 8 := ⟨⟨_, Tryz.type122, rfl⟩⟩
@[reducible, instance] def yc123 := TyC.mk (P := Tryz.prog) Tryz.isAgg123 Tryz.sizeOf123
@[reducible, instance] def uc123 := UndC.mk Tryz.underlying123
@[reducible, instance] def zl123 := ZeroL.ofOne Tryz.zeroValue123
@[reducible, instance] def ic123 : InfoC Tryz.prog 123 16 := ⟨⟨_, Tryz.type123, rfl⟩⟩
@[reducible, instance] def yc124 := TyC.mk (P := Tryz.prog) Tryz.isAgg124 Tryz.sizeOf124
@[reducible, instance] def uc124 := UndC.mk Tryz.underlying124
@[reducible, instance] def zl124 := ZeroL.ofOne Tryz.zeroValue124
@[reducible, instance] def ic124 : InfoC Tryz.prog 124 16 := ⟨⟨_, Tryz.type124, rfl⟩⟩
@[reducible, instance] def yc125 := TyC.mk (P := Tryz.prog) Tryz.isAgg125 Tryz.sizeOf125
@[reducible, instance] def uc125 := UndC.mk Tryz.underlying125
@[reducible, instance] def zl125 := ZeroL.ofOne Tryz.zeroValue125
@[reducible, instance] def ic125 : InfoC Tryz.prog 125 8 := ⟨⟨_, Tryz.type125, rfl⟩⟩
@[reducible, instance] def yc127 := TyC.mk (P := Tryz.prog) Tryz.isAgg127 Tryz.sizeOf127
@[reducible, instance] def uc127 := UndC.mk Tryz.underlying127
@[reducible, instance] def zl127 := ZeroL.ofOne Tryz.zeroValue127
@[reducible, instance] def ic127 : InfoC Tryz.prog 127 8 := ⟨⟨_, Tryz.type127, rfl⟩⟩
@[reducible, instance] def yc128 := TyC.mk (P := Tryz.prog) Tryz.isAgg128 Tryz.sizeOf128
@[reducible, instance] def uc128 := UndC.mk Tryz.underlying128
@[reducible, instance] def zl128 := ZeroL.ofOne Tryz.zeroValue128
@[reducible, instance] def ic128 : InfoC Tryz.prog 128 8 := ⟨⟨_, Tryz.type128, rfl⟩⟩
@[reducible, instance] def yc129 := TyC.mk (P := Tryz.prog) Tryz.isAgg129 Tryz.sizeOf129
@[reducible, instance] def uc129 := UndC.mk Tryz.underlying129
@[reducible, instance] def zl129 := ZeroL.ofOne Tryz.zeroValue129
@[reducible, instance] def ic129 : InfoC Tryz.prog 129 8 := ⟨⟨_, Tryz.type129, rfl⟩⟩
@[reducible, instance] def yc130 := TyC.mk (P := Tryz.prog) Tryz.isAgg130 Tryz.sizeOf130
@[reducible, instance] def uc130 := UndC.mk Tryz.underlying130
@[reducible, instance] def zl130 := ZeroL.ofOne Tryz.zeroValue130
@[reducible, instance] def ic130 : InfoC Tryz.prog 130 8 := ⟨⟨_, Tryz.type130, rfl⟩⟩
@[reducible, instance] def yc131 := TyC.mk (P := Tryz.prog) Tryz.isAgg131 Tryz.sizeOf131
@[reducible, instance] def uc131 := UndC.mk Tryz.underlying131
@[reducible, instance] def zl131 := ZeroL.ofOne Tryz.zeroValue131
@[reducible, instance] def ic131 : InfoC Tryz.prog 131 8 := ⟨⟨_, Tryz.type131, rfl⟩⟩
@[reducible, instance] def yc133 := TyC.mk (P := Tryz.prog) Tryz.isAgg133 Tryz.sizeOf133
@[reducible, instance] def uc133 := UndC.mk Tryz.underlying133
@[reducible, instance] def zl133 := ZeroL.ofOne Tryz.zeroValue133
@[reducible, instance] def ic133 : InfoC Tryz.prog 133 8 := ⟨⟨_, Tryz.type133, rfl⟩⟩
@[reducible, instance] def yc134 := TyC.mk (P := Tryz.prog) Tryz.isAgg134 Tryz.sizeOf134
@[reducible, instance] def uc134 := UndC.mk Tryz.underlying134
@[reducible, instance] def zl134 := ZeroL.ofOne Tryz.zeroValue134
@[reducible, instance] def ic134 : InfoC Tryz.prog 134 8 := ⟨⟨_, Tryz.type134, rfl⟩⟩
@[reducible, instance] def yc135 := TyC.mk (P := Tryz.prog) Tryz.isAgg135 Tryz.sizeOf135
@[reducible, instance] def uc135 := UndC.mk Tryz.underlying135
@[reducible, instance] def zl135 := ZeroL.ofOne Tryz.zeroValue135
@[reducible, instance] def ic135 : InfoC Tryz.prog 135 8 := ⟨⟨_, Tryz.type135, rfl⟩⟩
@[reducible, instance] def yc136 := TyC.mk (P := Tryz.prog) Tryz.isAgg136 Tryz.sizeOf136
@[reducible, instance] def uc136 := UndC.mk Tryz.underlying136
@[reducible, instance] def zl136 := ZeroL.ofOne Tryz.zeroValue136
@[reducible, instance] def ic136 : InfoC Tryz.prog 136 8 := ⟨⟨_, Tryz.type136, rfl⟩⟩
@[reducible, instance] def yc137 := TyC.mk (P := Tryz.prog) Tryz.isAgg137 Tryz.sizeOf137
@[reducible, instance] def uc137 := UndC.mk Tryz.underlying137
@[reducible, instance] def zl137 := ZeroL.ofOne Tryz.zeroValue137
@[reducible, instance] def ic137 : InfoC Tryz.prog 137 8 := ⟨⟨_, Tryz.type137, rfl⟩⟩
@[reducible, instance] def yc138 := TyC.mk (P := Tryz.prog) Tryz.isAgg138 Tryz.sizeOf138
@[reducible, instance] def uc138 := UndC.mk Tryz.underlying138
@[reducible, instance] def zl138 := ZeroL.ofOne Tryz.zeroValue138
@[reducible, instance] def ic138 : InfoC Tryz.prog 138 8 := ⟨⟨_, Tryz.type138, rfl⟩⟩
@[reducible, instance] def yc139 := TyC.mk (P := Tryz.prog) Tryz.isAgg139 Tryz.sizeOf139
@[reducible, instance] def uc139 := UndC.mk Tryz.underlying139
@[reducible, instance] def zl139 := ZeroL.ofOne Tryz.zeroValue139
@[reducible, instance] def ic139 : InfoC Tryz.prog 139 8 := ⟨⟨_, Tryz.type139, rfl⟩⟩
@[reducible, instance] def yc140 := TyC.mk (P := Tryz.prog) Tryz.isAgg140 Tryz.sizeOf140
@[reducible, instance] def uc140 := UndC.mk Tryz.underlying140
@[reducible, instance] def zl140 := ZeroL.ofOne Tryz.zeroValue140
@[reducible, instance] def ic140 : InfoC Tryz.prog 140 8 := ⟨⟨_, Tryz.type140, rfl⟩⟩
@[reducible, instance] def yc141 := TyC.mk (P := Tryz.prog) Tryz.isAgg141 Tryz.sizeOf141
@[reducible, instance] def uc141 := UndC.mk Tryz.underlying141
@[reducible, instance] def zl141 := ZeroL.ofOne Tryz.zeroValue141
@[reducible, instance] def ic141 : InfoC Tryz.prog 141 8 := ⟨⟨_, Tryz.type141, rfl⟩⟩
@[reducible, instance] def yc142 := TyC.mk (P := Tryz.prog) Tryz.isAgg142 Tryz.sizeOf142
@[reducible, instance] def uc142 := UndC.mk Tryz.underlying142
@[reducible, instance] def zl142 := ZeroL.ofOne Tryz.zeroValue142
@[reducible, instance] def ic142 : InfoC Tryz.prog 142 8 := ⟨⟨_, Tryz.type142, rfl⟩⟩
@[reducible, instance] def yc143 := TyC.mk (P := Tryz.prog) Tryz.isAgg143 Tryz.sizeOf143
@[reducible, instance] def uc143 := UndC.mk Tryz.underlying143
@[reducible, instance] def zl143 := ZeroL.ofOne Tryz.zeroValue143
@[reducible, instance] def ic143 : InfoC Tryz.prog 143 8 := ⟨⟨_, Tryz.type143, rfl⟩⟩
@[reducible, instance] def yc144 := TyC.mk (P := Tryz.prog) Tryz.isAgg144 Tryz.sizeOf144
@[reducible, instance] def uc144 := UndC.mk Tryz.underlying144
@[reducible, instance] def zl144 := ZeroL.ofOne Tryz.zeroValue144
@[reducible, instance] def ic144 : InfoC Tryz.prog 144 8 := ⟨⟨_, Tryz.type144, rfl⟩⟩
@[reducible, instance] def yc145 := TyC.mk (P := Tryz.prog) Tryz.isAgg145 Tryz.sizeOf145
@[reducible, instance] def uc145 := UndC.mk Tryz.underlying145
@[reducible, instance] def zl145 := ZeroL.ofOne Tryz.zeroValue145
@[reducible, instance] def ic145 : InfoC Tryz.prog 145 8 := ⟨⟨_, Tryz.type145, rfl⟩⟩
@[reducible, instance] def yc146 := TyC.mk (P := Tryz.prog) Tryz.isAgg146 Tryz.sizeOf146
@[reducible, instance] def uc146 := UndC.mk Tryz.underlying146
@[reducible, instance] def zl146 := ZeroL.ofOne Tryz.zeroValue146
@[reducible, instance] def ic146 : InfoC Tryz.prog 146 8 := ⟨⟨_, Tryz.type146, rfl⟩⟩
@[reducible, instance] def yc147 := TyC.mk (P := Tryz.prog) Tryz.isAgg147 Tryz.sizeOf147
@[reducible, instance] def uc147 := UndC.mk Tryz.underlying147
@[reducible, instance] def zl147 := ZeroL.ofOne Tryz.zeroValue147
@[reducible, instance] def ic147 : InfoC Tryz.prog 147 8 := ⟨⟨_, Tryz.type147, rfl⟩⟩
@[reducible, instance] def yc149 := TyC.mk (P := Tryz.prog) Tryz.isAgg149 Tryz.sizeOf149
@[reducible, instance] def uc149 := UndC.mk Tryz.underlying149
@[reducible, instance] def zl149 := ZeroL.ofOne Tryz.zeroValue149
@[reducible, instance] def ic149 : InfoC Tryz.prog 149 8 := ⟨⟨_, Tryz.type149, rfl⟩⟩
@[reducible, instance] def yc150 := TyC.mk (P := Tryz.prog) Tryz.isAgg150 Tryz.sizeOf150
@[reducible, instance] def uc150 := UndC.mk Tryz.underlying150
@[reducible, instance] def zl150 := ZeroL.ofOne Tryz.zeroValue150
@[reducible, instance] def ic150 : InfoC Tryz.prog 150 8 := ⟨⟨_, Tryz.type150, rfl⟩⟩
@[reducible, instance] def yc151 := TyC.mk (P := Tryz.prog) Tryz.isAgg151 Tryz.sizeOf151
@[reducible, instance] def uc151 := UndC.mk Tryz.underlying151
@[reducible, instance] def zl151 := ZeroL.ofOne Tryz.zeroValue151
@[reducible, instance] def ic151 : InfoC Tryz.prog 151 8 := ⟨⟨_, Tryz.type151, rfl⟩⟩
@[reducible, instance] def yc152 := TyC.mk (P := Tryz.prog) Tryz.isAgg152 Tryz.sizeOf152
@[reducible, instance] def uc152 := UndC.mk Tryz.underlying152
@[reducible, instance] def zl152 := ZeroL.ofOne Tryz.zeroValue152
@[reducible, instance] def ic152 : InfoC Tryz.prog 152 8 := ⟨⟨_, Tryz.type152, rfl⟩⟩
@[reducible, instance] def yc154 := TyC.mk (P := Tryz.prog) Tryz.isAgg154 Tryz.sizeOf154
@[reducible, instance] def uc154 := UndC.mk Tryz.underlying154
@[reducible, instance] def zl154 := ZeroL.ofOne Tryz.zeroValue154
@[reducible, instance] def ic154 : InfoC Tryz.prog 154 8 := ⟨⟨_, Tryz.type154, rfl⟩⟩
@[reducible, instance] def yc155 := TyC.mk (P := Tryz.prog) Tryz.isAgg155 Tryz.sizeOf155
@[reducible, instance] def uc155 := UndC.mk Tryz.underlying155
@[reducible, instance] def zl155 := ZeroL.ofOne Tryz.zeroValue155
@[reducible, instance] def ic155 : InfoC Tryz.prog 155 8 := ⟨⟨_, Tryz.type155, rfl⟩⟩
@[reducible, instance] def yc157 := TyC.mk (P := Tryz.prog) Tryz.isAgg157 Tryz.sizeOf157
@[reducible, instance] def uc157 := UndC.mk Tryz.underlying157
@[reducible, instance] def zl157 := ZeroL.ofOne Tryz.zeroValue157
@[reducible, instance] def ic157 : InfoC Tryz.prog 157 8 := ⟨⟨_, Tryz.type157, rfl⟩⟩
@[reducible, instance] def yc158 := TyC.mk (P := Tryz.prog) Tryz.isAgg158 Tryz.sizeOf158
@[reducible, instance] def uc158 := UndC.mk Tryz.underlying158
@[reducible, instance] def zl158 := ZeroL.ofOne Tryz.zeroValue158
@[reducible, instance] def ic158 : InfoC Tryz.prog 158 8 := ⟨⟨_, Tryz.type158, rfl⟩⟩
@[reducible, instance] def yc159 := TyC.mk (P := Tryz.prog) Tryz.isAgg159 Tryz.sizeOf159
@[reducible, instance] def uc159 := UndC.mk Tryz.underlying159
@[reducible, instance] def zl159 := ZeroL.ofOne Tryz.zeroValue159
@[reducible, instance] def ic159 : InfoC Tryz.prog 159 8 := ⟨⟨_, Tryz.type159, rfl⟩⟩
@[reducible, instance] def yc160 := TyC.mk (P := Tryz.prog) Tryz.isAgg160 Tryz.sizeOf160
@[reducible, instance] def uc160 := UndC.mk Tryz.underlying160
@[reducible, instance] def zl160 := ZeroL.ofOne Tryz.zeroValue160
@[reducible, instance] def ic160 : InfoC Tryz.prog 160 8 := ⟨⟨_, Tryz.type160, rfl⟩⟩
@[reducible, instance] def yc161 := TyC.mk (P := Tryz.prog) Tryz.isAgg161 Tryz.sizeOf161
@[reducible, instance] def uc161 := UndC.mk Tryz.underlying161
@[reducible, instance] def zl161 := ZeroL.ofOne Tryz.zeroValue161
@[reducible, instance] def ic161 : InfoC Tryz.prog 161 8 := ⟨⟨_, Tryz.type161, rfl⟩⟩
@[reducible, instance] def yc162 := TyC.mk (P := Tryz.prog) Tryz.isAgg162 Tryz.sizeOf162
@[reducible, instance] def uc162 := UndC.mk Tryz.underlying162
@[reducible, instance] def zl162 := ZeroL.ofOne Tryz.zeroValue162
@[reducible, instance] def ic162 : InfoC Tryz.prog 162 8 := ⟨⟨_, Tryz.type162, rfl⟩⟩
@[reducible, instance] def yc163 := TyC.mk (P := Tryz.prog) Tryz.isAgg163 Tryz.sizeOf163
@[reducible, instance] def uc163 := UndC.mk Tryz.underlying163
@[reducible, instance] def zl163 := ZeroL.ofOne Tryz.zeroValue163
@[reducible, instance] def ic163 : InfoC Tryz.prog 163 8 := ⟨⟨_, Tryz.type163, rfl⟩⟩
@[reducible, instance] def yc164 := TyC.mk (P := Tryz.prog) Tryz.isAgg164 Tryz.sizeOf164
@[reducible, instance] def uc164 := UndC.mk Tryz.underlying164
@[reducible, instance] def zl164 := ZeroL.ofOne Tryz.zeroValue164
@[reducible, instance] def ic164 : InfoC Tryz.prog 164 8 := ⟨⟨_, Tryz.type164, rfl⟩⟩
@[reducible, instance] def yc165 := TyC.mk (P := Tryz.prog) Tryz.isAgg165 Tryz.sizeOf165
@[reducible, instance] def uc165 := UndC.mk Tryz.underlying165
@[reducible, instance] def zl165 := ZeroL.ofOne Tryz.zeroValue165
@[reducible, instance] def ic165 : InfoC Tryz.prog 165 8 := ⟨⟨_, Tryz.type165, rfl⟩⟩
@[reducible, instance] def yc166 := TyC.mk (P := Tryz.prog) Tryz.isAgg166 Tryz.sizeOf166
@[reducible, instance] def uc166 := UndC.mk Tryz.underlying166
@[reducible, instance] def zl166 := ZeroL.ofOne Tryz.zeroValue166
@[reducible, instance] def ic166 : InfoC Tryz.prog 166 8 := ⟨⟨_, Tryz.type166, rfl⟩⟩
@[reducible, instance] def yc167 := TyC.mk (P := Tryz.prog) Tryz.isAgg167 Tryz.sizeOf167
@[reducible, instance] def uc167 := UndC.mk Tryz.underlying167
@[reducible, instance] def zl167 := ZeroL.ofOne Tryz.zeroValue167
@[reducible, instance] def ic167 : InfoC Tryz.prog 167 8 := ⟨⟨_, Tryz.type167, rfl⟩⟩
@[reducible, instance] def yc168 := TyC.mk (P := Tryz.prog) Tryz.isAgg168 Tryz.sizeOf168
@[reducible, instance] def uc168 := UndC.mk Tryz.underlying168
@[reducible, instance] def zl168 := ZeroL.ofOne Tryz.zeroValue168
@[reducible, instance] def ic168 : InfoC Tryz.prog 168 8 := ⟨⟨_, Tryz.type168, rfl⟩⟩
@[reducible, instance] def yc169 := TyC.mk (P := Tryz.prog) Tryz.isAgg169 Tryz.sizeOf169
@[reducible, instance] def uc169 := UndC.mk Tryz.underlying169
@[reducible, instance] def zl169 := ZeroL.ofOne Tryz.zeroValue169
@[reducible, instance] def ic169 : InfoC Tryz.prog 169 8 := ⟨⟨_, Tryz.type169, rfl⟩⟩
@[reducible, instance] def yc171 := TyC.mk (P := Tryz.prog) Tryz.isAgg171 Tryz.sizeOf171
@[reducible, instance] def uc171 := UndC.mk Tryz.underlying171
@[reducible, instance] def zl171 := ZeroL.ofOne Tryz.zeroValue171
@[reducible, instance] def ic171 : InfoC Tryz.prog 171 8 := ⟨⟨_, Tryz.type171, rfl⟩⟩
@[reducible, instance] def yc172 := TyC.mk (P := Tryz.prog) Tryz.isAgg172 Tryz.sizeOf172
@[reducible, instance] def uc172 := UndC.mk Tryz.underlying172
@[reducible, instance] def zl172 := ZeroL.ofOne Tryz.zeroValue172
@[reducible, instance] def ic172 : InfoC Tryz.prog 172 8 := ⟨⟨_, Tryz.type172, rfl⟩⟩
@[reducible, instance] def yc173 := TyC.mk (P := Tryz.prog) Tryz.isAgg173 Tryz.sizeOf173
@[reducible, instance] def uc173 := UndC.mk Tryz.underlying173
@[reducible, instance] def zl173 := ZeroL.ofOne Tryz.zeroValue173
@[reducible, instance] def ic173 : InfoC Tryz.prog 173 8 := ⟨⟨_, Tryz.type173, rfl⟩⟩
@[reducible, instance] def yc174 := TyC.mk (P := Tryz.prog) Tryz.isAgg174 Tryz.sizeOf174
@[reducible, instance] def uc174 := UndC.mk Tryz.underlying174
@[reducible, instance] def zl174 := ZeroL.ofOne Tryz.zeroValue174
@[reducible, instance] def ic174 : InfoC Tryz.prog 174 8 := ⟨⟨_, Tryz.type174, rfl⟩⟩
@[reducible, instance] def yc175 := TyC.mk (P := Tryz.prog) Tryz.isAgg175 Tryz.sizeOf175
@[reducible, instance] def uc175 := UndC.mk Tryz.underlying175
@[reducible, instance] def zl175 := ZeroL.ofAgg Tryz.zeroValue175
@[reducible, instance] def ic175 : InfoC Tryz.prog 175 24 := ⟨⟨_, Tryz.type175, rfl⟩⟩
@[reducible, instance] def yc176 := TyC.mk (P := Tryz.prog) Tryz.isAgg176 Tryz.sizeOf176
@[reducible, instance] def uc176 := UndC.mk Tryz.underlying176
@[reducible, instance] def zl176 := ZeroL.ofOne Tryz.zeroValue176
@[reducible, instance] def ic176 : InfoC Tryz.prog 176 8 := ⟨⟨_, Tryz.type176, rfl⟩⟩
@[reducible, instance] def yc177 := TyC.mk (P := Tryz.prog) Tryz.isAgg177 Tryz.sizeOf177
@[reducible, instance] def uc177 := UndC.mk Tryz.underlying177
@[reducible, instance] def zl177 := ZeroL.ofOne Tryz.zeroValue177
@[reducible, instance] def ic177 : InfoC Tryz.prog 177 8 := ⟨⟨_, Tryz.type177, rfl⟩⟩
@[reducible, instance] def yc178 := TyC.mk (P := Tryz.prog) Tryz.isAgg178 Tryz.sizeOf178
@[reducible, instance] def uc178 := UndC.mk Tryz.underlying178
@[reducible, instance] def zl178 := ZeroL.ofOne Tryz.zeroValue178
@[reducible, instance] def ic178 : InfoC Tryz.prog 178 8 := ⟨⟨_, Tryz.type178, rfl⟩⟩
@[reducible, instance] def yc180 := TyC.mk (P := Tryz.prog) Tryz.isAgg180 Tryz.sizeOf180
@[reducible, instance] def uc180 := UndC.mk Tryz.underlying180
@[reducible, instance] def zl180 := ZeroL.ofOne Tryz.zeroValue180
@[reducible, instance] def ic180 : InfoC Tryz.prog 180 8 := ⟨⟨_, Tryz.type180, rfl⟩⟩
@[reducible, instance] def yc181 := TyC.mk (P := Tryz.prog) Tryz.isAgg181 Tryz.sizeOf181
@[reducible, instance] def uc181 := UndC.mk Tryz.underlying181
@[reducible, instance] def zl181 := ZeroL.ofOne Tryz.zeroValue181
@[reducible, instance] def ic181 : InfoC Tryz.prog 181 8 := ⟨⟨_, Tryz.type181, rfl⟩⟩
@[reducible, instance] def yc182 := TyC.mk (P := Tryz.prog) Tryz.isAgg182 Tryz.sizeOf182
@[reducible, instance] def uc182 := UndC.mk Tryz.underlying182
@[reducible, instance] def zl182 := ZeroL.ofOne Tryz.zeroValue182
@[reducible, instance] def ic182 : InfoC Tryz.prog 182 8 := ⟨⟨_, Tryz.type182, rfl⟩⟩
@[reducible, instance] def yc184 := TyC.mk (P := Tryz.prog) Tryz.isAgg184 Tryz.sizeOf184
@[reducible, instance] def uc184 := UndC.mk Tryz.underlying184
@[reducible, instance] def zl184 := ZeroL.ofOne Tryz.zeroValue184
@[reducible, instance] def ic184 : InfoC Tryz.prog 184 8 := ⟨⟨_, Tryz.type184, rfl⟩⟩
@[reducible, instance] def yc185 := TyC.mk (P := Tryz.prog) Tryz.isAgg185 Tryz.sizeOf185
@[reducible, instance] def uc185 := UndC.mk Tryz.underlying185
@[reducible, instance] def zl185 := ZeroL.ofOne Tryz.zeroValue185
@[reducible, instance] def ic185 : InfoC Tryz.prog 185 8 := ⟨⟨_, Tryz.type185, rfl⟩⟩
@[reducible, instance] def yc186 := TyC.mk (P := Tryz.prog) Tryz.isAgg186 Tryz.sizeOf186
@[reducible, instance] def uc186 := UndC.mk Tryz.underlying186
@[reducible, instance] def zl186 := ZeroL.ofOne Tryz.zeroValue186
@[reducible, instance] def ic186 : InfoC Tryz.prog 186 8 := ⟨⟨_, Tryz.type186, rfl⟩⟩
@[reducible, instance] def yc187 := TyC.mk (P := Tryz.prog) Tryz.isAgg187 Tryz.sizeOf187
@[reducible, instance] def uc187 := UndC.mk Tryz.underlying187
@[reducible, instance] def zl187 := ZeroL.ofOne Tryz.zeroValue187
@[reducible, instance] def ic187 : InfoC Tryz.prog 187 8 := ⟨⟨_, Tryz.type187, rfl⟩⟩
@[reducible, instance] def yc188 := TyC.mk (P := Tryz.prog) Tryz.isAgg188 Tryz.sizeOf188
@[reducible, instance] def uc188 := UndC.mk Tryz.underlying188
@[reducible, instance] def zl188 := ZeroL.ofOne Tryz.zeroValue188
@[reducible, instance] def ic188 : InfoC Tryz.prog 188 8 := ⟨⟨_, Tryz.type188, rfl⟩⟩
@[reducible, instance] def yc189 := TyC.mk (P := Tryz.prog) Tryz.isAgg189 Tryz.sizeOf189
@[reducible, instance] def uc189 := UndC.mk Tryz.underlying189
@[reducible, instance] def zl189 := ZeroL.ofOne Tryz.zeroValue189
@[reducible, instance] def ic189 : InfoC Tryz.prog 189 4 := ⟨⟨_, Tryz.type189, rfl⟩⟩
@[reducible, instance] def yc190 := TyC.mk (P := Tryz.prog) Tryz.isAgg190 Tryz.sizeOf190
@[reducible, instance] def uc190 := UndC.mk Tryz.underlying190
@[reducible, instance] def zl190 := ZeroL.ofOne Tryz.zeroValue190
@[reducible, instance] def ic190 : InfoC Tryz.prog 190 8 := ⟨⟨_, Tryz.type190, rfl⟩⟩
@[reducible, instance] def yc191 := TyC.mk (P := Tryz.prog) Tryz.isAgg191 Tryz.sizeOf191
@[reducible, instance] def uc191 := UndC.mk Tryz.underlying191
@[reducible, instance] def zl191 := ZeroL.ofOne Tryz.zeroValue191
@[reducible, instance] def ic191 : InfoC Tryz.prog 191 8 := ⟨⟨_, Tryz.type191, rfl⟩⟩
@[reducible, instance] def yc192 := TyC.mk (P := Tryz.prog) Tryz.isAgg192 Tryz.sizeOf192
@[reducible, instance] def uc192 := UndC.mk Tryz.underlying192
@[reducible, instance] def zl192 := ZeroL.ofOne Tryz.zeroValue192
@[reducible, instance] def ic192 : InfoC Tryz.prog 192 8 := ⟨⟨_, Tryz.type192, rfl⟩⟩
@[reducible, instance] def yc193 := TyC.mk (P := Tryz.prog) Tryz.isAgg193 Tryz.sizeOf193
@[reducible, instance] def uc193 := UndC.mk Tryz.underlying193
@[reducible, instance] def zl193 := ZeroL.ofOne Tryz.zeroValue193
@[reducible, instance] def ic193 : InfoC Tryz.prog 193 8 := ⟨⟨_, Tryz.type193, rfl⟩⟩
@[reducible, instance] def yc194 := TyC.mk (P := Tryz.prog) Tryz.isAgg194 Tryz.sizeOf194
@[reducible, instance] def uc194 := UndC.mk Tryz.underlying194
@[reducible, instance] def zl194 := ZeroL.ofOne Tryz.zeroValue194
@[reducible, instance] def ic194 : InfoC Tryz.prog 194 8 := ⟨⟨_, Tryz.type194, rfl⟩⟩
@[reducible, instance] def yc196 := TyC.mk (P := Tryz.prog) Tryz.isAgg196 Tryz.sizeOf196
@[reducible, instance] def uc196 := UndC.mk Tryz.underlying196
@[reducible, instance] def zl196 := ZeroL.ofOne Tryz.zeroValue196
@[reducible, instance] def ic196 : InfoC Tryz.prog 196 8 := ⟨⟨_, Tryz.type196, rfl⟩⟩
@[reducible, instance] def yc197 := TyC.mk (P := Tryz.prog) Tryz.isAgg197 Tryz.sizeOf197
@[reducible, instance] def uc197 := UndC.mk Tryz.underlying197
@[reducible, instance] def zl197 := ZeroL.ofOne Tryz.zeroValue197
@[reducible, instance] def ic197 : InfoC Tryz.prog 197 8 := ⟨⟨_, Tryz.type197, rfl⟩⟩
@[reducible, instance] def yc198 := TyC.mk (P := Tryz.prog) Tryz.isAgg198 Tryz.sizeOf198
@[reducible, instance] def uc198 := UndC.mk Tryz.underlying198
@[reducible, instance] def zl198 := ZeroL.ofOne Tryz.zeroValue198
@[reducible, instance] def ic198 : InfoC Tryz.prog 198 8 := ⟨⟨_, Tryz.type198, rfl⟩⟩
@[reducible, instance] def yc199 := TyC.mk (P := Tryz.prog) Tryz.isAgg199 Tryz.sizeOf199
@[reducible, instance] def uc199 := UndC.mk Tryz.underlying199
@[reducible, instance] def zl199 := ZeroL.ofOne Tryz.zeroValue199
@[reducible, instance] def ic199 : InfoC Tryz.prog 199 8 := ⟨⟨_, Tryz.type199, rfl⟩⟩
@[reducible, instance] def yc200 := TyC.mk (P := Tryz.prog) Tryz.isAgg200 Tryz.sizeOf200
@[reducible, instance] def uc200 := UndC.mk Tryz.underlying200
@[reducible, instance] def zl200 := ZeroL.ofOne Tryz.zeroValue200
@[reducible, instance] def ic200 : InfoC Tryz.prog 200 8 := ⟨⟨_, Tryz.type200, rfl⟩⟩
@[reducible, instance] def yc201 := TyC.mk (P := Tryz.prog) Tryz.isAgg201 Tryz.sizeOf201
@[reducible, instance] def uc201 := UndC.mk Tryz.underlying201
@[reducible, instance] def zl201 := ZeroL.ofAgg Tryz.zeroValue201
@[reducible, instance] def ic201 : InfoC Tryz.prog 201 160 := ⟨⟨_, Tryz.type201, rfl⟩⟩
@[reducible, instance] def yc202 := TyC.mk (P := Tryz.prog) Tryz.isAgg202 Tryz.sizeOf202
@[reducible, instance] def uc202 := UndC.mk Tryz.underlying202
@[reducible, instance] def zl202 := ZeroL.ofAgg Tryz.zeroValue202
@[reducible, instance] def ic202 : InfoC Tryz.prog 202 65 := ⟨⟨_, Tryz.type202, rfl⟩⟩
@[reducible, instance] def yc203 := TyC.mk (P := Tryz.prog) Tryz.isAgg203 Tryz.sizeOf203
@[reducible, instance] def uc203 := UndC.mk Tryz.underlying203
@[reducible, instance] def zl203 := ZeroL.ofOne Tryz.zeroValue203
@[reducible, instance] def ic203 : InfoC Tryz.prog 203 8 := ⟨⟨_, Tryz.type203, rfl⟩⟩
@[reducible, instance] def yc204 := TyC.mk (P := Tryz.prog) Tryz.isAgg204 Tryz.sizeOf204
@[reducible, instance] def uc204 := UndC.mk Tryz.underlying204
@[reducible, instance] def zl204 := ZeroL.ofOne Tryz.zeroValue204
@[reducible, instance] def ic204 : InfoC Tryz.prog 204 8 := ⟨⟨_, Tryz.type204, rfl⟩⟩
@[reducible, instance] def yc205 := TyC.mk (P := Tryz.prog) Tryz.isAgg205 Tryz.sizeOf205
@[reducible, instance] def uc205 := UndC.mk Tryz.underlying205
@[reducible, instance] def zl205 := ZeroL.ofOne Tryz.zeroValue205
@[reducible, instance] def ic205 : InfoC Tryz.prog 205 8 := ⟨⟨_, Tryz.type205, rfl⟩⟩
@[reducible, instance] def yc206 := TyC.mk (P := Tryz.prog) Tryz.isAgg206 Tryz.sizeOf206
@[reducible, instance] def uc206 := UndC.mk Tryz.underlying206
@[reducible, instance] def zl206 := ZeroL.ofOne Tryz.zeroValue206
@[reducible, instance] def ic206 : InfoC Tryz.prog 206 8 := ⟨⟨_, Tryz.type206, rfl⟩⟩
@[reducible, instance] def yc207 := TyC.mk (P := Tryz.prog) Tryz.isAgg207 Tryz.sizeOf207
@[reducible, instance] def uc207 := UndC.mk Tryz.underlying207
@[reducible, instance] def zl207 := ZeroL.ofOne Tryz.zeroValue207
@[reducible, instance] def ic207 : InfoC Tryz.prog 207 8 := ⟨⟨_, Tryz.type207, rfl⟩⟩
@[reducible, instance] def yc208 := TyC.mk (P := Tryz.prog) Tryz.isAgg208 Tryz.sizeOf208
@[reducible, instance] def uc208 := UndC.mk Tryz.underlying208
@[reducible, instance] def zl208 := ZeroL.ofOne Tryz.zeroValue208
@[reducible, instance] def ic208 : InfoC Tryz.prog 208 8 := ⟨⟨_, Tryz.type208, rfl⟩⟩
@[reducible, instance] def yc209 := TyC.mk (P := Tryz.prog) Tryz.isAgg209 Tryz.sizeOf209
@[reducible, instance] def uc209 := UndC.mk Tryz.underlying209
@[reducible, instance] def zl209 := ZeroL.ofOne Tryz.zeroValue209
@[reducible, instance] def ic209 : InfoC Tryz.prog 209 8 := ⟨⟨_, Tryz.type209, rfl⟩⟩
@[reducible, instance] def yc210 := TyC.mk (P := Tryz.prog) Tryz.isAgg210 Tryz.sizeOf210
@[reducible, instance] def uc210 := UndC.mk Tryz.underlying210
@[reducible, instance] def zl210 := ZeroL.ofAgg Tryz.zeroValue210
@[reducible, instance] def ic210 : InfoC Tryz.prog 210 256 := ⟨⟨_, Tryz.type210, rfl⟩⟩
@[reducible, instance] def yc211 := TyC.mk (P := Tryz.prog) Tryz.isAgg211 Tryz.sizeOf211
@[reducible, instance] def uc211 := UndC.mk Tryz.underlying211
@[reducible, instance] def zl211 := ZeroL.ofAgg Tryz.zeroValue211
@[reducible, instance] def ic211 : InfoC Tryz.prog 211 2 := ⟨⟨_, Tryz.type211, rfl⟩⟩
@[reducible, instance] def fl211_0 : FieldC Tryz.prog 211 0 5 0 := ⟨⟨_, _, Tryz.underlying211, rfl, rfl, rfl⟩⟩
@[reducible, instance] def fl211_1 : FieldC Tryz.prog 211 1 5 1 := ⟨⟨_, _, Tryz.underlying211, rfl, rfl, rfl⟩⟩
@[reducible, instance] def yc212 := TyC.mk (P := Tryz.prog) Tryz.isAgg212 Tryz.sizeOf212
@[reducible, instance] def uc212 := UndC.mk Tryz.underlying212
@[reducible, instance] def zl212 := ZeroL.ofAgg Tryz.zeroValue212
@[reducible, instance] def ic212 : InfoC Tryz.prog 212 2 := ⟨⟨_, Tryz.type212, rfl⟩⟩
@[reducible, instance] def fl212_0 : FieldC Tryz.prog 212 0 5 0 := ⟨⟨_, _, Tryz.underlying212, rfl, rfl, rfl⟩⟩
@[reducible, instance] def fl212_1 : FieldC Tryz.prog 212 1 5 1 := ⟨⟨_, _, Tryz.underlying212, rfl, rfl, rfl⟩⟩
@[reducible, instance] def yc213 := TyC.mk (P := Tryz.prog) Tryz.isAgg213 Tryz.sizeOf213
@[reducible, instance] def uc213 := UndC.mk Tryz.underlying213
@[reducible, instance] def zl213 := ZeroL.ofAgg Tryz.zeroValue213
@[reducible, instance] def ic213 : InfoC Tryz.prog 213 32 := ⟨⟨_, Tryz.type213, rfl⟩⟩
@[reducible, instance] def yc215 := TyC.mk (P := Tryz.prog) Tryz.isAgg215 Tryz.sizeOf215
@[reducible, instance] def uc215 := UndC.mk Tryz.underlying215
@[reducible, instance] def zl215 := ZeroL.ofOne Tryz.zeroValue215
@[reducible, instance] def ic215 : InfoC Tryz.prog 215 8 := ⟨⟨_, Tryz.type215, rfl⟩⟩
@[reducible, instance] def yc216 := TyC.mk (P := Tryz.prog) Tryz.isAgg216 Tryz.sizeOf216
@[reducible, instance] def uc216 := UndC.mk Tryz.underlying216
@[reducible, instance] def zl216 := ZeroL.ofAgg Tryz.zeroValue216
@[reducible, instance] def ic216 : InfoC Tryz.prog 216 48 := ⟨⟨_, Tryz.type216, rfl⟩⟩
@[reducible, instance] def fl216_0 : FieldC Tryz.prog 216 0 9 0 := ⟨⟨_, _, Tryz.underlying216, rfl, rfl, rfl⟩⟩
@[reducible, instance] def fl216_1 : FieldC Tryz.prog 216 1 9 1 := ⟨⟨_, _, Tryz.underlying216, rfl, rfl, rfl⟩⟩
@[reducible, instance] def fl216_2 : FieldC Tryz.prog 216 2 124 2 := ⟨⟨_, _, Tryz.underlying216, rfl, rfl, rfl⟩⟩
@[reducible, instance] def yc217 := TyC.mk (P := Tryz.prog) Tryz.isAgg217 Tryz.sizeOf217
@[reducible, instance] def uc217 := UndC.mk Tryz.underlying217
@[reducible, instance] def zl217 := ZeroL.ofAgg Tryz.zeroValue217
@[reducible, instance] def ic217 : InfoC Tryz.prog 217 48 := ⟨⟨_, Tryz.type217, rfl⟩⟩
@[reducible, instance] def fl217_0 : FieldC Tryz.prog 217 0 9 0 := ⟨⟨_, _, Tryz.underlying217, rfl, rfl, rfl⟩⟩
@[reducible, instance] def fl217_1 : FieldC Tryz.prog 217 1 9 1 := ⟨⟨_, _, Tryz.underlying217, rfl, rfl, rfl⟩⟩
@[reducible, instance] def fl217_2 : FieldC Tryz.prog 217 2 124 2 := ⟨⟨_, _, Tryz.underlying217, rfl, rfl, rfl⟩⟩
@[reducible, instance] def yc218 := TyC.mk (P := Tryz.prog) Tryz.isAgg218 Tryz.sizeOf218
@[reducible, instance] def uc218 := UndC.mk Tryz.underlying218
@[reducible, instance] def zl218 := ZeroL.ofOne Tryz.zeroValue218
@[reducible, instance] def ic218 : InfoC Tryz.prog 218 8 := ⟨⟨_, Tryz.type218, rfl⟩⟩
@[reducible, instance] def yc219 := TyC.mk (P := Tryz.prog) Tryz.isAgg219 Tryz.sizeOf219
@[reducible, instance] def uc219 := UndC.mk Tryz.underlying219
@[reducible, instance] def zl219 := ZeroL.ofOne Tryz.zeroValue219
@[reducible, instance] def ic219 : InfoC Tryz.prog 219 8 := ⟨⟨_, Tryz.type219, rfl⟩⟩
@[reducible, instance] def yc221 := TyC.mk (P := Tryz.prog) Tryz.isAgg221 Tryz.sizeOf221
@[reducible, instance] def uc221 := UndC.mk Tryz.underlying221
@[reducible, instance] def zl221 := ZeroL.ofOne Tryz.zeroValue221
@[reducible, instance] def ic221 : InfoC Tryz.prog 221 8 := ⟨⟨_, Tryz.type221, rfl⟩⟩
@[reducible, instance] def yc223 := TyC.mk (P := Tryz.prog) Tryz.isAgg223 Tryz.sizeOf223
@[reducible, instance] def uc223 := UndC.mk Tryz.underlying223
@[reducible, instance] def zl223 := ZeroL.ofOne Tryz.zeroValue223
@[reducible, instance] def ic223 : InfoC Tryz.prog 223 8 := ⟨⟨_, Tryz.type223, rfl⟩⟩
@[reducible, instance] def yc224 := TyC.mk (P := Tryz.prog) Tryz.isAgg224 Tryz.sizeOf224
@[reducible, instance] def uc224 := UndC.mk Tryz.underlying224
@[reducible, instance] def zl224 := ZeroL.ofOne Tryz.zeroValue224
@[reducible, instance] def ic224 : InfoC Tryz.prog 224 8 := ⟨⟨_, Tryz.type224, rfl⟩⟩
@[reducible, instance] def yc225 := TyC.mk (P := Tryz.prog) Tryz.isAgg225 Tryz.sizeOf225
@[reducible, instance] def uc225 := UndC.mk Tryz.underlying225
@[reducible, instance] def zl225 := ZeroL.ofOne Tryz.zeroValue225
@[reducible, instance] def ic225 : InfoC Tryz.prog 225 8 := ⟨⟨_, Tryz.type225, rfl⟩⟩
@[reducible, instance] def yc226 := TyC.mk (P := Tryz.prog) Tryz.isAgg226 Tryz.sizeOf226
@[reducible, instance] def uc226 := UndC.mk Tryz.underlying226
@[reducible, instance] def zl226 := ZeroL.ofAgg Tryz.zeroValue226
@[reducible, instance] def ic226 : InfoC Tryz.prog 226 16 := ⟨⟨_, Tryz.type226, rfl⟩⟩
@[reducible, instance] def fl226_0 : FieldC Tryz.prog 226 0 9 0 := ⟨⟨_, _, Tryz.underlying226, rfl, rfl, rfl⟩⟩
@[reducible, instance] def yc227 := TyC.mk (P := Tryz.prog) Tryz.isAgg227 Tryz.sizeOf227
@[reducible, instance] def uc227 := UndC.mk Tryz.underlying227
@[reducible, instance] def zl227 := ZeroL.ofAgg Tryz.zeroValue227
@[reducible, instance] def ic227 : InfoC Tryz.prog 227 16 := ⟨⟨_, Tryz.type227, rfl⟩⟩
@[reducible, instance] def fl227_0 : FieldC Tryz.prog 227 0 9 0 := ⟨⟨_, _, Tryz.underlying227, rfl, rfl, rfl⟩⟩
@[reducible, instance] def yc228 := TyC.mk (P := Tryz.prog) Tryz.isAgg228 Tryz.sizeOf228
@[reducible, instance] def uc228 := UndC.mk Tryz.underlying228
@[reducible, instance] def zl228 := ZeroL.ofAgg Tryz.zeroValue228
@[reducible, instance] def ic228 : InfoC Tryz.prog 228 32 := ⟨⟨_, Tryz.type228, rfl⟩⟩
@[reducible, instance] def yc229 := TyC.mk (P := Tryz.prog) Tryz.isAgg229 Tryz.sizeOf229
@[reducible, instance] def uc229 := UndC.mk Tryz.underlying229
@[reducible, instance] def zl229 := ZeroL.ofAgg Tryz.zeroValue229
@[reducible, instance] def ic229 : InfoC Tryz.prog 229 64 := ⟨⟨_, Tryz.type229, rfl⟩⟩
@[reducible, instance] def yc230 := TyC.mk (P := Tryz.prog) Tryz.isAgg230 Tryz.sizeOf230
@[reducible, instance] def uc230 := UndC.mk Tryz.underlying230
@[reducible, instance] def zl230 := ZeroL.ofOne Tryz.zeroValue230
@[reducible, instance] def ic230 : InfoC Tryz.prog 230 8 := ⟨⟨_, Tryz.type230, rfl⟩⟩
@[reducible, instance] def yc231 := TyC.mk (P := Tryz.prog) Tryz.isAgg231 Tryz.sizeOf231
@[reducible, instance] def uc231 := UndC.mk Tryz.underlying231
@[reducible, instance] def zl231 := ZeroL.ofAgg Tryz.zeroValue231
@[reducible, instance] def ic231 : InfoC Tryz.prog 231 40 := ⟨⟨_, Tryz.type231, rfl⟩⟩
@[reducible, instance] def fl231_0 : FieldC Tryz.prog 231 0 17 0 := ⟨⟨_, _, Tryz.underlying231, rfl, rfl, rfl⟩⟩
@[reducible, instance] def fl231_1 : FieldC Tryz.prog 231 1 17 1 := ⟨⟨_, _, Tryz.underlying231, rfl, rfl, rfl⟩⟩
@[reducible, instance] def fl231_2 : FieldC Tryz.prog 231 2 17 2 := ⟨⟨_, _, Tryz.underlying231, rfl, rfl, rfl⟩⟩
@[reducible, instance] def fl231_3 : FieldC Tryz.prog 231 3 9 3 := ⟨⟨_, _, Tryz.underlying231, rfl, rfl, rfl⟩⟩
@[reducible, instance] def yc232 := TyC.mk (P := Tryz.prog) Tryz.isAgg232 Tryz.sizeOf232
@[reducible, instance] def uc232 := UndC.mk Tryz.underlying232
@[reducible, instance] def zl232 := ZeroL.ofAgg Tryz.zeroValue232
@[reducible, instance] def ic232 : InfoC Tryz.prog 232 40 := ⟨⟨_, Tryz.type232, rfl⟩⟩
@[reducible, instance] def fl232_0 : FieldC Tryz.prog 232 0 17 0 := ⟨⟨_, _, Tryz.underlying232, rfl, rfl, rfl⟩⟩
@[reducible, instance] def fl232_1 : FieldC Tryz.prog 232 1 17 1 := ⟨⟨_, _, Tryz.underlying232, rfl, rfl, rfl⟩⟩
@[reducible, instance] def fl232_2 : FieldC Tryz.prog 232 2 17 2 := ⟨⟨_, _, Tryz.underlying232, rfl, rfl, rfl⟩⟩
@[reducible, instance] def fl232_3 : FieldC Tryz.prog 232 3 9 3 := ⟨⟨_, _, Tryz.underlying232, rfl, rfl, rfl⟩⟩
@[reducible, instance] def yc233 := TyC.mk (P := Tryz.prog) Tryz.isAgg233 Tryz.sizeOf233
@[reducible, instance] def uc233 := UndC.mk Tryz.underlying233
@[reducible, instance] def zl233 := ZeroL.ofAgg Tryz.zeroValue233
@[reducible, instance] def ic233 : InfoC Tryz.prog 233 0 := ⟨⟨_, Tryz.type233, rfl⟩⟩
@[reducible, instance] def yc234 := TyC.mk (P := Tryz.prog) Tryz.isAgg234 Tryz.sizeOf234
@[reducible, instance] def uc234 := UndC.mk Tryz.underlying234
@[reducible, instance] def zl234 := ZeroL.ofAgg Tryz.zeroValue234
@[reducible, instance] def ic234 : InfoC Tryz.prog 234 0 := ⟨⟨_, Tryz.type234, rfl⟩⟩
@[reducible, instance] def fl234_0 : FieldC Tryz.prog 234 0 233 0 := ⟨⟨_, _, Tryz.underlying234, rfl, rfl, rfl⟩⟩
@[reducible, instance] def yc235 := TyC.mk (P := Tryz.prog) Tryz.isAgg235 Tryz.sizeOf235
@[reducible, instance] def uc235 := UndC.mk Tryz.underlying235
@[reducible, instance] def zl235 := ZeroL.ofAgg Tryz.zeroValue235
@[reducible, instance] def ic235 : InfoC Tryz.prog 235 0 := ⟨⟨_, Tryz.type235, rfl⟩⟩
@[reducible, instance] def fl235_0 : FieldC Tryz.prog 235 0 233 0 := ⟨⟨_, _, Tryz.underlying235, rfl, rfl, rfl⟩⟩
@[reducible, instance] def yc236 := TyC.mk (P := Tryz.prog) Tryz.isAgg236 Tryz.sizeOf236
@[reducible, instance] def uc236 := UndC.mk Tryz.underlying236
@[reducible, instance] def zl236 := ZeroL.ofOne Tryz.zeroValue236
@[reducible, instance] def ic236 : InfoC Tryz.prog 236 1 := ⟨⟨_, Tryz.type236, rfl⟩⟩
@[reducible, instance] def yc237 := TyC.mk (P := Tryz.prog) Tryz.isAgg237 Tryz.sizeOf237
@[reducible, instance] def uc237 := UndC.mk Tryz.underlying237
@[reducible, instance] def zl237 := ZeroL.ofOne Tryz.zeroValue237
@[reducible, instance] def ic237 : InfoC Tryz.prog 237 1 := ⟨⟨_, Tryz.type237, rfl⟩⟩
@[reducible, instance] def yc238 := TyC.mk (P := Tryz.prog) Tryz.isAgg238 Tryz.sizeOf238
@[reducible, instance] def uc238 := UndC.mk Tryz.underlying238
@[reducible, instance] def zl238 := ZeroL.ofOne Tryz.zeroValue238
@[reducible, instance] def ic238 : InfoC Tryz.prog 238 8 := ⟨⟨_, Tryz.type238, rfl⟩⟩
@[reducible, instance] def yc239 := TyC.mk (P := Tryz.prog) Tryz.isAgg239 Tryz.sizeOf239
@[reducible, instance] def uc239 := UndC.mk Tryz.underlying239
@[reducible, instance] def zl239 := ZeroL.ofOne Tryz.zeroValue239
@[reducible, instance] def ic239 : InfoC Tryz.prog 239 4 := ⟨⟨_, Tryz.type239, rfl⟩⟩
@[reducible, instance] def yc240 := TyC.mk (P := Tryz.prog) Tryz.isAgg240 Tryz.sizeOf240
@[reducible, instance] def uc240 := UndC.mk Tryz.underlying240
@[reducible, instance] def zl240 := ZeroL.ofOne Tryz.zeroValue240
@[reducible, instance] def ic240 : InfoC Tryz.prog 240 4 := ⟨⟨_, Tryz.type240, rfl⟩⟩
@[reducible, instance] def yc241 := TyC.mk (P := Tryz.prog) Tryz.isAgg241 Tryz.sizeOf241
@[reducible, instance] def uc241 := UndC.mk Tryz.underlying241
@[reducible, instance] def zl241 := ZeroL.ofAgg Tryz.zeroValue241
@[reducible, instance] def ic241 : InfoC Tryz.prog 241 48 := ⟨⟨_, Tryz.type241, rfl⟩⟩
@[reducible, instance] def fl241_0 : FieldC Tryz.prog 241 0 12 0 := ⟨⟨_, _, Tryz.underlying241, rfl, rfl, rfl⟩⟩
@[reducible, instance] def fl241_1 : FieldC Tryz.prog 241 1 12 1 := ⟨⟨_, _, Tryz.underlying241, rfl, rfl, rfl⟩⟩
@[reducible, instance] def fl241_2 : FieldC Tryz.prog 241 2 189 2 := ⟨⟨_, _, Tryz.underlying241, rfl, rfl, rfl⟩⟩
@[reducible, instance] def fl241_3 : FieldC Tryz.prog 241 3 236 3 := ⟨⟨_, _, Tryz.underlying241, rfl, rfl, rfl⟩⟩
@[reducible, instance] def fl241_4 : FieldC Tryz.prog 241 4 5 4 := ⟨⟨_, _, Tryz.underlying241, rfl, rfl, rfl⟩⟩
@[reducible, instance] def fl241_5 : FieldC Tryz.prog 241 5 5 5 := ⟨⟨_, _, Tryz.underlying241, rfl, rfl, rfl⟩⟩
@[reducible, instance] def fl241_6 : FieldC Tryz.prog 241 6 237 6 := ⟨⟨_, _, Tryz.underlying241, rfl, rfl, rfl⟩⟩
@[reducible, instance] def fl241_7 : FieldC Tryz.prog 241 7 238 7 := ⟨⟨_, _, Tryz.underlying241, rfl, rfl, rfl⟩⟩
@[reducible, instance] def fl241_8 : FieldC Tryz.prog 241 8 129 8 := ⟨⟨_, _, Tryz.underlying241, rfl, rfl, rfl⟩⟩
@[reducible, instance] def fl241_9 : FieldC Tryz.prog 241 9 239 9 := ⟨⟨_, _, Tryz.underlying241, rfl, rfl, rfl⟩⟩
@[reducible, instance] def fl241_10 : FieldC Tryz.prog 241 10 240 10 := ⟨⟨_, _, Tryz.underlying241, rfl, rfl, rfl⟩⟩
@[reducible, instance] def yc242 := TyC.mk (P := Tryz.prog) Tryz.isAgg242 Tryz.sizeOf242
@[reducible, instance] def uc242 := UndC.mk Tryz.underlying242
@[reducible, instance] def zl242 := ZeroL.ofAgg Tryz.zeroValue242
@[reducible, instance] def ic242 : InfoC Tryz.prog 242 48 := ⟨⟨_, Tryz.type242, rfl⟩⟩
@[reducible, instance] def fl242_0 : FieldC Tryz.prog 242 0 12 0 := ⟨⟨_, _, Tryz.underlying242, rfl, rfl, rfl⟩⟩
@[reducible, instance] def fl242_1 : FieldC Tryz.prog 242 1 12 1 := ⟨⟨_, _, Tryz.underlying242, rfl, rfl, rfl⟩⟩
@[reducible, instance] def fl242_2 : FieldC Tryz.prog 242 2 189 2 := ⟨⟨_, _, Tryz.underlying242, rfl, rfl, rfl⟩⟩
@[reducible, instance] def fl242_3 : FieldC Tryz.prog 242 3 236 3 := ⟨⟨_, _, Tryz.underlying242, rfl, rfl, rfl⟩⟩
@[reducible, instance] def fl242_4 : FieldC Tryz.prog 242 4 5 4 := ⟨⟨_, _, Tryz.underlying242, rfl, rfl, rfl⟩⟩
@[reducible, instance] def fl242_5 : FieldC Tryz.prog 242 5 5 5 := ⟨⟨_, _, Tryz.underlying242, rfl, rfl, rfl⟩⟩
@[reducible, instance] def fl242_6 : FieldC Tryz.prog 242 6 237 6 := ⟨⟨_, _, Tryz.underlying242, rfl, rfl, rfl⟩⟩
@[reducible, instance] def fl242_7 : FieldC Tryz.prog 242 7 238 7 := ⟨⟨_, _, Tryz.underlying242, rfl, rfl, rfl⟩⟩
@[reducible, instance] def fl242_8 : FieldC Tryz.prog 242 8 129 8 := ⟨⟨_, _, Tryz.underlying242, rfl, rfl, rfl⟩⟩
@[reducible, instance] def fl242_9 : FieldC Tryz.prog 242 9 239 9 := ⟨⟨_, _, Tryz.underlying242, rfl, rfl, rfl⟩⟩
@[reducible, instance] def fl242_10 : FieldC Tryz.prog 242 10 240 10 := ⟨⟨_, _, Tryz.underlying242, rfl, rfl, rfl⟩⟩
@[reducible, instance] def fc3 := FunC.mk Tryz.call3
@[reducible, instance] def fc4 := FunC.mk Tryz.call4
@[reducible, instance] def fc5 := FunC.mk Tryz.call5
@[reducible, instance] def fc6 := FunC.mk Tryz.call6
@[reducible, instance] def fc7 := FunC.mk Tryz.call7
@[reducible, instance] def fc8 := FunC.mk Tryz.call8
@[reducible, instance] def fc9 := FunC.mk Tryz.call9
@[reducible, instance] def fc10 := FunC.mk Tryz.call10
@[reducible, instance] def fc11 := FunC.mk Tryz.call11
@[reducible, instance] def fc12 := FunC.mk Tryz.call12
@[reducible, instance] def fc13 := FunC.mk Tryz.call13
@[reducible, instance] def fc14 := FunC.mk Tryz.call14
@[reducible, instance] def fc15 := FunC.mk Tryz.call15
@[reducible, instance] def fc16 := FunC.mk Tryz.call16
@[reducible, instance] def fc17 := FunC.mk Tryz.call17
@[reducible, instance] def fc18 := FunC.mk Tryz.call18
@[reducible, instance] def fc19 := FunC.mk Tryz.call19
@[reducible, instance] def fc20 := FunC.mk Tryz.call20
@[reducible, instance] def fc21 := FunC.mk Tryz.call21
@[reducible, instance] def fc22 := FunC.mk Tryz.call22
@[reducible, instance] def fc23 := FunC.mk Tryz.call23
@[reducible, instance] def fc24 := FunC.mk Tryz.call24
@[reducible, instance] def fc25 := FunC.mk Tryz.call25
@[reducible, instance] def fc26 := FunC.mk Tryz.call26
@[reducible, instance] def fc27 := FunC.mk Tryz.call27
@[reducible, instance] def fc28 := FunC.mk Tryz.call28
@[reducible, instance] def fc29 := FunC.mk Tryz.call29
@[reducible, instance] def fc30 := FunC.mk Tryz.call30
@[reducible, instance] def fc31 := FunC.mk Tryz.call31
@[reducible, instance] def fc32 := FunC.mk Tryz.call32
@[reducible, instance] def fc33 := FunC.mk Tryz.call33
@[reducible, instance] def fc34 := FunC.mk Tryz.call34
@[reducible, instance] def fc35 := FunC.mk Tryz.call35
@[reducible, instance] def fc36 := FunC.mk Tryz.call36
@[reducible, instance] def fc37 := FunC.mk Tryz.call37
@[reducible, instance] def fc38 := FunC.mk Tryz.call38
@[reducible, instance] def fc39 := FunC.mk Tryz.call39
@[reducible, instance] def fc40 := FunC.mk Tryz.call40
@[reducible, instance] def fc41 := FunC.mk Tryz.call41
@[reducible, instance] def fc42 := FunC.mk Tryz.call42
@[reducible, instance] def fc43 := FunC.mk Tryz.call43
@[reducible, instance] def fc44 := FunC.mk Tryz.call44
@[reducible, instance] def fc45 := FunC.mk Tryz.call45
@[reducible, instance] def fc46 := FunC.mk Tryz.call46
@[reducible, instance] def fc47 := FunC.mk Tryz.call47
@[reducible, instance] def fc48 := FunC.mk Tryz.call48
@[reducible, instance] def fc49 := FunC.mk Tryz.call49
@[reducible, instance] def fc50 := FunC.mk Tryz.call50
@[reducible, instance] def fc51 := FunC.mk Tryz.call51
@[reducible, instance] def fc52 := FunC.mk Tryz.call52
@[reducible, instance] def fc53 := FunC.mk Tryz.call53
@[reducible, instance] def fc54 := FunC.mk Tryz.call54
@[reducible, instance] def fc55 := FunC.mk Tryz.call55
@[reducible, instance] def fc56 := FunC.mk Tryz.call56
@[reducible, instance] def fc57 := FunC.mk Tryz.call57
@[reducible, instance] def fc58 := FunC.mk Tryz.call58
@[reducible, instance] def fc59 := FunC.mk Tryz.call59
@[reducible, instance] def fc60 := FunC.mk Tryz.call60
@[reducible, instance] def fc61 := FunC.mk Tryz.call61
@[reducible, instance] def fc62 := FunC.mk Tryz.call62
@[reducible, instance] def fc63 := FunC.mk Tryz.call63
@[reducible, instance] def fc64 := FunC.mk Tryz.call64
@[reducible, instance] def fc65 := FunC.mk Tryz.call65
@[reducible, instance] def fc66 := FunC.mk Tryz.call66
@[reducible, instance] def fc67 := FunC.mk Tryz.call67
@[reducible, instance] def fc68 := FunC.mk Tryz.call68
@[reducible, instance] def fc69 := FunC.mk Tryz.call69
@[reducible, instance] def fc70 := FunC.mk Tryz.call70
@[reducible, instance] def fc71 := FunC.mk Tryz.call71
@[reducible, instance] def fc72 := FunC.mk Tryz.call72
@[reducible, instance] def fc73 := FunC.mk Tryz.call73
@[reducible, instance] def fc74 := FunC.mk Tryz.call74
@[reducible, instance] def fc75 := FunC.mk Tryz.call75
@[reducible, instance] def fc76 := FunC.mk Tryz.call76
@[reducible, instance] def fc77 := FunC.mk Tryz.call77
@[reducible, instance] def fc78 := FunC.mk Tryz.call78
@[reducible, instance] def fc79 := FunC.mk Tryz.call79
@[reducible, instance] def fc80 := FunC.mk Tryz.call80
@[reducible, instance] def fc81 := FunC.mk Tryz.call81
@[reducible, instance] def fc82 := FunC.mk Tryz.call82
@[reducible, instance] def fc83 := FunC.mk Tryz.call83
@[reducible, instance] def fc84 := FunC.mk Tryz.call84
@[reducible, instance] def fc85 := FunC.mk Tryz.call85
@[reducible, instance] def fc86 := FunC.mk Tryz.call86
@[reducible, instance] def fc87 := FunC.mk Tryz.call87
@[reducible, instance] def fc88 := FunC.mk Tryz.call88
@[reducible, instance] def fc89 := FunC.mk Tryz.call89
@[reducible, instance] def fc90 := FunC.mk Tryz.call90
@[reducible, instance] def fc91 := FunC.mk Tryz.call91
@[reducible, instance] def fc92 := FunC.mk Tryz.call92
@[reducible, instance] def fc93 := FunC.mk Tryz.call93
@[reducible, instance] def fc94 := FunC.mk Tryz.call94
@[reducible, instance] def fc95 := FunC.mk Tryz.call95
@[reducible, instance] def fc96 := FunC.mk Tryz.call96
@[reducible, instance] def fc97 := FunC.mk Tryz.call97
@[reducible, instance] def fc98 := FunC.mk Tryz.call98
@[reducible, instance] def fc99 := FunC.mk Tryz.call99
@[reducible, instance] def fc100 := FunC.mk Tryz.call100
@[reducible, instance] def fc101 := FunC.mk Tryz.call101
@[reducible, instance] def fc102 := FunC.mk Tryz.call102
@[reducible, instance] def fc103 := FunC.mk Tryz.call103
@[reducible, instance] def fc104 := FunC.mk Tryz.call104
@[reducible, instance] def fc105 := FunC.mk Tryz.call105
@[reducible, instance] def fc106 := FunC.mk Tryz.call106
@[reducible, instance] def fc107 := FunC.mk Tryz.call107
@[reducible, instance] def fc108 := FunC.mk Tryz.call108
@[reducible, instance] def fc109 := FunC.mk Tryz.call109
@[reducible, instance] def fc110 := FunC.mk Tryz.call110
@[reducible, instance] def fc111 := FunC.mk Tryz.call111
@[reducible, instance] def fc112 := FunC.mk Tryz.call112
@[reducible, instance] def fc113 := FunC.mk Tryz.call113
@[reducible, instance] def fc114 := FunC.mk Tryz.call114
@[reducible, instance] def fc115 := FunC.mk Tryz.call115
@[reducible, instance] def fc116 := FunC.mk Tryz.call116
@[reducible, instance] def fc117 := FunC.mk Tryz.call117
@[reducible, instance] def fc118 := FunC.mk Tryz.call118
@[reducible, instance] def fc119 := FunC.mk Tryz.call119
@[reducible, instance] def fc120 := FunC.mk Tryz.call120
@[reducible, instance] def fc121 := FunC.mk Tryz.call121
@[reducible, instance] def fc122 := FunC.mk Tryz.call122
@[reducible, instance] def fc123 := FunC.mk Tryz.call123
@[reducible, instance] def fc124 := FunC.mk Tryz.call124
@[reducible, instance] def fc125 := FunC.mk Tryz.call125
@[reducible, instance] def fc126 := FunC.mk Tryz.call126
@[reducible, instance] def fc127 := FunC.mk Tryz.call127
@[reducible, instance] def fc128 := FunC.mk Tryz.call128
@[reducible, instance] def fc129 := FunC.mk Tryz.call129
@[reducible, instance] def fc130 := FunC.mk Tryz.call130
@[reducible, instance] def fc131 := FunC.mk Tryz.call131
@[reducible, instance] def fc132 := FunC.mk Tryz.call132
@[reducible, instance] def fc133 := FunC.mk Tryz.call133
@[reducible, instance] def fc134 := FunC.mk Tryz.call134
@[reducible, instance] def fc135 := FunC.mk Tryz.call135
@[reducible, instance] def fc136 := FunC.mk Tryz.call136
@[reducible, instance] def fc137 := FunC.mk Tryz.call137
@[reducible, instance] def fc138 := FunC.mk Tryz.call138
@[reducible, instance] def fc139 := FunC.mk Tryz.call139
@[reducible, instance] def fc140 := FunC.mk Tryz.call140
@[reducible, instance] def fc141 := FunC.mk Tryz.call141
@[reducible, instance] def fc142 := FunC.mk Tryz.call142
@[reducible, instance] def fc143 := FunC.mk Tryz.call143
@[reducible, instance] def fc144 := FunC.mk Tryz.call144
@[reducible, instance] def fc145 := FunC.mk Tryz.call145
@[reducible, instance] def fc146 := FunC.mk Tryz.call146
@[reducible, instance] def fc147 := FunC.mk Tryz.call147
@[reducible, instance] def fc148 := FunC.mk Tryz.call148
@[reducible, instance] def fc149 := FunC.mk Tryz.call149
@[reducible, instance] def fc150 := FunC.mk Tryz.call150
@[reducible, instance] def fc151 := FunC.mk Tryz.call151
@[reducible, instance] def fc152 := FunC.mk Tryz.call152
@[reducible, instance] def fc153 := FunC.mk Tryz.call153
@[reducible, instance] def fc154 := FunC.mk Tryz.call154
@[reducible, instance] def fc156 := FunC.mk Tryz.call156
@[reducible, instance] def fc157 := FunC.mk Tryz.call157
@[reducible, instance] def fc158 := FunC.mk Tryz.call158
@[reducible, instance] def fc159 := FunC.mk Tryz.call159
@[reducible, instance] def fc160 := FunC.mk Tryz.call160
@[reducible, instance] def fc161 := FunC.mk Tryz.call161
@[reducible, instance] def fc162 := FunC.mk Tryz.call162
@[reducible, instance] def fc163 := FunC.mk Tryz.call163
@[reducible, instance] def fc164 := FunC.mk Tryz.call164
@[reducible, instance] def fc165 := FunC.mk Tryz.call165
@[reducible, instance] def fc166 := FunC.mk Tryz.call166
@[reducible, instance] def fc167 := FunC.mk Tryz.call167
@[reducible, instance] def fc168 := FunC.mk Tryz.call168
@[reducible, instance] def fc169 := FunC.mk Tryz.call169
@[reducible, instance] def fc170 := FunC.mk Tryz.call170
@[reducible, instance] def fc171 := FunC.mk Tryz.call171
@[reducible, instance] def fc172 := FunC.mk Tryz.call172
@[reducible, instance] def fc173 := FunC.mk Tryz.call173
@[reducible, instance] def fc174 := FunC.mk Tryz.call174
@[reducible, instance] def fc175 := FunC.mk Tryz.call175
@[reducible, instance] def fc176 := FunC.mk Tryz.call176
@[reducible, instance] def fc177 := FunC.mk Tryz.call177
@[reducible, instance] def fc178 := FunC.mk Tryz.call178
@[reducible, instance] def fc179 := FunC.mk Tryz.call179
@[reducible, instance] def fc180 := FunC.mk Tryz.call180
@[reducible, instance] def fc181 := FunC.mk Tryz.call181
@[reducible, instance] def fc182 := FunC.mk Tryz.call182
@[reducible, instance] def fc183 := FunC.mk Tryz.call183
@[reducible, instance] def fc185 := FunC.mk Tryz.call185
@[reducible, instance] def fc186 := FunC.mk Tryz.call186
@[reducible, instance] def fc187 := FunC.mk Tryz.call187
@[reducible, instance] def fc188 := FunC.mk Tryz.call188
@[reducible, instance] def fc189 := FunC.mk Tryz.call189
@[reducible, instance] def fc190 := FunC.mk Tryz.call190
@[reducible, instance] def fc191 := FunC.mk Tryz.call191
@[reducible, instance] def fc192 := FunC.mk Tryz.call192
@[reducible, instance] def fc193 := FunC.mk Tryz.call193
@[reducible, instance] def fc194 := FunC.mk Tryz.call194
@[reducible, instance] def fc195 := FunC.mk Tryz.call195
@[reducible, instance] def fc196 := FunC.mk Tryz.call196
@[reducible, instance] def fc197 := FunC.mk Tryz.call197
@[reducible, instance] def fc198 := FunC.mk Tryz.call198
@[reducible, instance] def fc199 := FunC.mk Tryz.call199
@[reducible, instance] def fc200 := FunC.mk Tryz.call200
@[reducible, instance] def fc201 := FunC.mk Tryz.call201
@[reducible, instance] def fc202 := FunC.mk Tryz.call202
@[reducible, instance] def fc203 := FunC.mk Tryz.call203
@[reducible, instance] def fc204 := FunC.mk Tryz.call204
@[reducible, instance] def fc205 := FunC.mk Tryz.call205
@[reducible, instance] def fc207 := FunC.mk Tryz.call207
@[reducible, instance] def fc209 := FunC.mk Tryz.call209
@[reducible, instance] def fc210 := FunC.mk Tryz.call210
@[reducible, instance] def fc212 := FunC.mk Tryz.call212
@[reducible, instance] def fc213 := FunC.mk Tryz.call213
@[reducible, instance] def fc214 := FunC.mk Tryz.call214
@[reducible, instance] def fc215 := FunC.mk Tryz.call215
@[reducible, instance] def fc216 := FunC.mk Tryz.call216
@[reducible, instance] def fc217 := FunC.mk Tryz.call217
@[reducible, instance] def fc219 := FunC.mk Tryz.call219
@[reducible, instance] def fc220 := FunC.mk Tryz.call220
@[reducible, instance] def fc221 := FunC.mk Tryz.call221
@[reducible, instance] def fc222 := FunC.mk Tryz.call222
@[reducible, instance] def fc223 := FunC.mk Tryz.call223
@[reducible, instance] def fc254 := FunC.mk Tryz.call254
@[reducible, instance] def mixI : MixC Tryz.prog := ⟨by kernel_rfl⟩
end Go.Proofs.YtnoadopmeoohmaaGreatDoor
