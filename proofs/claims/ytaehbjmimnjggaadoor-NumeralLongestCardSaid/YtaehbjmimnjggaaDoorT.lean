/-
  The facts on types and functions, as instances. Written by wip/tools/table.py.
-/
import Derived.Test.YtaehbjmimnjggaaDoorProg
import Derived.Test.YtaehbjmimnjggaaDoorA7
import Derived.KernelRfl
namespace Go.Proofs.YtaehbjmimnjggaaDoor
open Go

@[reducible, instance] def yc1 := TyC.mk (P := Tryd.prog) Tryd.isAgg1 Tryd.sizeOf1
@[reducible, instance] def uc1 := UndC.mk Tryd.underlying1
@[reducible, instance] def zl1 := ZeroL.ofOne Tryd.zeroValue1
@[reducible, instance] def ic1 : InfoC Tryd.prog 1 8 := ⟨⟨_, Tryd.type1, rfl⟩⟩
@[reducible, instance] def yc2 := TyC.mk (P := Tryd.prog) Tryd.isAgg2 Tryd.sizeOf2
@[reducible, instance] def uc2 := UndC.mk Tryd.underlying2
@[reducible, instance] def zl2 := ZeroL.ofOne Tryd.zeroValue2
@[reducible, instance] def ic2 : InfoC Tryd.prog 2 8 := ⟨⟨_, Tryd.type2, rfl⟩⟩
@[reducible, instance] def yc3 := TyC.mk (P := Tryd.prog) Tryd.isAgg3 Tryd.sizeOf3
@[reducible, instance] def uc3 := UndC.mk Tryd.underlying3
@[reducible, instance] def zl3 := ZeroL.ofOne Tryd.zeroValue3
@[reducible, instance] def ic3 : InfoC Tryd.prog 3 8 := ⟨⟨_, Tryd.type3, rfl⟩⟩
@[reducible, instance] def yc4 := TyC.mk (P := Tryd.prog) Tryd.isAgg4 Tryd.sizeOf4
@[reducible, instance] def uc4 := UndC.mk Tryd.underlying4
@[reducible, instance] def zl4 := ZeroL.ofOne Tryd.zeroValue4
@[reducible, instance] def ic4 : InfoC Tryd.prog 4 1 := ⟨⟨_, Tryd.type4, rfl⟩⟩
@[reducible, instance] def yc5 := TyC.mk (P := Tryd.prog) Tryd.isAgg5 Tryd.sizeOf5
@[reducible, instance] def uc5 := UndC.mk Tryd.underlying5
@[reducible, instance] def zl5 := ZeroL.ofOne Tryd.zeroValue5
@[reducible, instance] def ic5 : InfoC Tryd.prog 5 1 := ⟨⟨_, Tryd.type5, rfl⟩⟩
@[reducible, instance] def yc6 := TyC.mk (P := Tryd.prog) Tryd.isAgg6 Tryd.sizeOf6
@[reducible, instance] def uc6 := UndC.mk Tryd.underlying6
@[reducible, instance] def zl6 := ZeroL.ofOne Tryd.zeroValue6
@[reducible, instance] def ic6 : InfoC Tryd.prog 6 1 := ⟨⟨_, Tryd.type6, rfl⟩⟩
@[reducible, instance] def yc7 := TyC.mk (P := Tryd.prog) Tryd.isAgg7 Tryd.sizeOf7
@[reducible, instance] def uc7 := UndC.mk Tryd.underlying7
@[reducible, instance] def zl7 := ZeroL.ofAgg Tryd.zeroValue7
@[reducible, instance] def ic7 : InfoC Tryd.prog 7 24 := ⟨⟨_, Tryd.type7, rfl⟩⟩
@[reducible, instance] def fl7_0 : FieldC Tryd.prog 7 0 2 0 := ⟨⟨_, _, Tryd.underlying7, rfl, rfl, rfl⟩⟩
@[reducible, instance] def fl7_1 : FieldC Tryd.prog 7 1 3 1 := ⟨⟨_, _, Tryd.underlying7, rfl, rfl, rfl⟩⟩
@[reducible, instance] def fl7_2 : FieldC Tryd.prog 7 2 4 2 := ⟨⟨_, _, Tryd.underlying7, rfl, rfl, rfl⟩⟩
@[reducible, instance] def fl7_3 : FieldC Tryd.prog 7 3 6 3 := ⟨⟨_, _, Tryd.underlying7, rfl, rfl, rfl⟩⟩
@[reducible, instance] def yc8 := TyC.mk (P := Tryd.prog) Tryd.isAgg8 Tryd.sizeOf8
@[reducible, instance] def uc8 := UndC.mk Tryd.underlying8
@[reducible, instance] def zl8 := ZeroL.ofAgg Tryd.zeroValue8
@[reducible, instance] def ic8 : InfoC Tryd.prog 8 24 := ⟨⟨_, Tryd.type8, rfl⟩⟩
@[reducible, instance] def fl8_0 : FieldC Tryd.prog 8 0 2 0 := ⟨⟨_, _, Tryd.underlying8, rfl, rfl, rfl⟩⟩
@[reducible, instance] def fl8_1 : FieldC Tryd.prog 8 1 3 1 := ⟨⟨_, _, Tryd.underlying8, rfl, rfl, rfl⟩⟩
@[reducible, instance] def fl8_2 : FieldC Tryd.prog 8 2 4 2 := ⟨⟨_, _, Tryd.underlying8, rfl, rfl, rfl⟩⟩
@[reducible, instance] def fl8_3 : FieldC Tryd.prog 8 3 6 3 := ⟨⟨_, _, Tryd.underlying8, rfl, rfl, rfl⟩⟩
@[reducible, instance] def yc9 := TyC.mk (P := Tryd.prog) Tryd.isAgg9 Tryd.sizeOf9
@[reducible, instance] def uc9 := UndC.mk Tryd.underlying9
@[reducible, instance] def zl9 := ZeroL.ofOne Tryd.zeroValue9
@[reducible, instance] def ic9 : InfoC Tryd.prog 9 16 := ⟨⟨_, Tryd.type9, rfl⟩⟩
@[reducible, instance] def yc10 := TyC.mk (P := Tryd.prog) Tryd.isAgg10 Tryd.sizeOf10
@[reducible, instance] def uc10 := UndC.mk Tryd.underlying10
@[reducible, instance] def zl10 := ZeroL.ofOne Tryd.zeroValue10
@[reducible, instance] def ic10 : InfoC Tryd.prog 10 16 := ⟨⟨_, Tryd.type10, rfl⟩⟩
@[reducible, instance] def yc11 := TyC.mk (P := Tryd.prog) Tryd.isAgg11 Tryd.sizeOf11
@[reducible, instance] def uc11 := UndC.mk Tryd.underlying11
@[reducible, instance] def zl11 := ZeroL.ofOne Tryd.zeroValue11
@[reducible, instance] def ic11 : InfoC Tryd.prog 11 16 := ⟨⟨_, Tryd.type11, rfl⟩⟩
@[reducible, instance] def yc12 := TyC.mk (P := Tryd.prog) Tryd.isAgg12 Tryd.sizeOf12
@[reducible, instance] def uc12 := UndC.mk Tryd.underlying12
@[reducible, instance] def zl12 := ZeroL.ofOne Tryd.zeroValue12
@[reducible, instance] def ic12 : InfoC Tryd.prog 12 8 := ⟨⟨_, Tryd.type12, rfl⟩⟩
@[reducible, instance] def yc13 := TyC.mk (P := Tryd.prog) Tryd.isAgg13 Tryd.sizeOf13
@[reducible, instance] def uc13 := UndC.mk Tryd.underlying13
@[reducible, instance] def zl13 := ZeroL.ofAgg Tryd.zeroValue13
@[reducible, instance] def ic13 : InfoC Tryd.prog 13 24 := ⟨⟨_, Tryd.type13, rfl⟩⟩
@[reducible, instance] def fl13_0 : FieldC Tryd.prog 13 0 9 0 := ⟨⟨_, _, Tryd.underlying13, rfl, rfl, rfl⟩⟩
@[reducible, instance] def fl13_1 : FieldC Tryd.prog 13 1 12 1 := ⟨⟨_, _, Tryd.underlying13, rfl, rfl, rfl⟩⟩
@[reducible, instance] def yc14 := TyC.mk (P := Tryd.prog) Tryd.isAgg14 Tryd.sizeOf14
@[reducible, instance] def uc14 := UndC.mk Tryd.underlying14
@[reducible, instance] def zl14 := ZeroL.ofAgg Tryd.zeroValue14
@[reducible, instance] def ic14 : InfoC Tryd.prog 14 24 := ⟨⟨_, Tryd.type14, rfl⟩⟩
@[reducible, instance] def fl14_0 : FieldC Tryd.prog 14 0 9 0 := ⟨⟨_, _, Tryd.underlying14, rfl, rfl, rfl⟩⟩
@[reducible, instance] def fl14_1 : FieldC Tryd.prog 14 1 12 1 := ⟨⟨_, _, Tryd.underlying14, rfl, rfl, rfl⟩⟩
@[reducible, instance] def yc15 := TyC.mk (P := Tryd.prog) Tryd.isAgg15 Tryd.sizeOf15
@[reducible, instance] def uc15 := UndC.mk Tryd.underlying15
@[reducible, instance] def zl15 := ZeroL.ofOne Tryd.zeroValue15
@[reducible, instance] def ic15 : InfoC Tryd.prog 15 8 := ⟨⟨_, Tryd.type15, rfl⟩⟩
@[reducible, instance] def yc16 := TyC.mk (P := Tryd.prog) Tryd.isAgg16 Tryd.sizeOf16
@[reducible, instance] def uc16 := UndC.mk Tryd.underlying16
@[reducible, instance] def zl16 := ZeroL.ofOne Tryd.zeroValue16
@[reducible, instance] def ic16 : InfoC Tryd.prog 16 8 := ⟨⟨_, Tryd.type16, rfl⟩⟩
@[reducible, instance] def yc17 := TyC.mk (P := Tryd.prog) Tryd.isAgg17 Tryd.sizeOf17
@[reducible, instance] def uc17 := UndC.mk Tryd.underlying17
@[reducible, instance] def zl17 := ZeroL.ofOne Tryd.zeroValue17
@[reducible, instance] def ic17 : InfoC Tryd.prog 17 8 := ⟨⟨_, Tryd.type17, rfl⟩⟩
@[reducible, instance] def yc18 := TyC.mk (P := Tryd.prog) Tryd.isAgg18 Tryd.sizeOf18
@[reducible, instance] def uc18 := UndC.mk Tryd.underlying18
@[reducible, instance] def zl18 := ZeroL.ofAgg Tryd.zeroValue18
@[reducible, instance] def ic18 : InfoC Tryd.prog 18 8 := ⟨⟨_, Tryd.type18, rfl⟩⟩
@[reducible, instance] def fl18_0 : FieldC Tryd.prog 18 0 17 0 := ⟨⟨_, _, Tryd.underlying18, rfl, rfl, rfl⟩⟩
@[reducible, instance] def yc19 := TyC.mk (P := Tryd.prog) Tryd.isAgg19 Tryd.sizeOf19
@[reducible, instance] def uc19 := UndC.mk Tryd.underlying19
@[reducible, instance] def zl19 := ZeroL.ofAgg Tryd.zeroValue19
@[reducible, instance] def ic19 : InfoC Tryd.prog 19 8 := ⟨⟨_, Tryd.type19, rfl⟩⟩
@[reducible, instance] def fl19_0 : FieldC Tryd.prog 19 0 17 0 := ⟨⟨_, _, Tryd.underlying19, rfl, rfl, rfl⟩⟩
@[reducible, instance] def yc20 := TyC.mk (P := Tryd.prog) Tryd.isAgg20 Tryd.sizeOf20
@[reducible, instance] def uc20 := UndC.mk Tryd.underlying20
@[reducible, instance] def zl20 := ZeroL.ofOne Tryd.zeroValue20
@[reducible, instance] def ic20 : InfoC Tryd.prog 20 16 := ⟨⟨_, Tryd.type20, rfl⟩⟩
@[reducible, instance] def yc21 := TyC.mk (P := Tryd.prog) Tryd.isAgg21 Tryd.sizeOf21
@[reducible, instance] def uc21 := UndC.mk Tryd.underlying21
@[reducible, instance] def zl21 := ZeroL.ofOne Tryd.zeroValue21
@[reducible, instance] def ic21 : InfoC Tryd.prog 21 4 := ⟨⟨_, Tryd.type21, rfl⟩⟩
@[reducible, instance] def yc22 := TyC.mk (P := Tryd.prog) Tryd.isAgg22 Tryd.sizeOf22
@[reducible, instance] def uc22 := UndC.mk Tryd.underlying22
@[reducible, instance] def zl22 := ZeroL.ofOne Tryd.zeroValue22
@[reducible, instance] def ic22 : InfoC Tryd.prog 22 8 := ⟨⟨_, Tryd.type22, rfl⟩⟩
@[reducible, instance] def yc24 := TyC.mk (P := Tryd.prog) Tryd.isAgg24 Tryd.sizeOf24
@[reducible, instance] def uc24 := UndC.mk Tryd.underlying24
@[reducible, instance] def zl24 := ZeroL.ofOne Tryd.zeroValue24
@[reducible, instance] def ic24 : InfoC Tryd.prog 24 8 := ⟨⟨_, Tryd.type24, rfl⟩⟩
@[reducible, instance] def yc26 := TyC.mk (P := Tryd.prog) Tryd.isAgg26 Tryd.sizeOf26
@[reducible, instance] def uc26 := UndC.mk Tryd.underlying26
@[reducible, instance] def zl26 := ZeroL.ofOne Tryd.zeroValue26
@[reducible, instance] def ic26 : InfoC Tryd.prog 26 8 := ⟨⟨_, Tryd.type26, rfl⟩⟩
@[reducible, instance] def yc28 := TyC.mk (P := Tryd.prog) Tryd.isAgg28 Tryd.sizeOf28
@[reducible, instance] def uc28 := UndC.mk Tryd.underlying28
@[reducible, instance] def zl28 := ZeroL.ofOne Tryd.zeroValue28
@[reducible, instance] def ic28 : InfoC Tryd.prog 28 8 := ⟨⟨_, Tryd.type28, rfl⟩⟩
@[reducible, instance] def yc29 := TyC.mk (P := Tryd.prog) Tryd.isAgg29 Tryd.sizeOf29
@[reducible, instance] def uc29 := UndC.mk Tryd.underlying29
@[reducible, instance] def zl29 := ZeroL.ofOne Tryd.zeroValue29
@[reducible, instance] def ic29 : InfoC Tryd.prog 29 8 := ⟨⟨_, Tryd.type29, rfl⟩⟩
@[reducible, instance] def yc30 := TyC.mk (P := Tryd.prog) Tryd.isAgg30 Tryd.sizeOf30
@[reducible, instance] def uc30 := UndC.mk Tryd.underlying30
@[reducible, instance] def zl30 := ZeroL.ofOne Tryd.zeroValue30
@[reducible, instance] def ic30 : InfoC Tryd.prog 30 8 := ⟨⟨_, Tryd.type30, rfl⟩⟩
@[reducible, instance] def yc31 := TyC.mk (P := Tryd.prog) Tryd.isAgg31 Tryd.sizeOf31
@[reducible, instance] def uc31 := UndC.mk Tryd.underlying31
@[reducible, instance] def zl31 := ZeroL.ofOne Tryd.zeroValue31
@[reducible, instance] def ic31 : InfoC Tryd.prog 31 8 := ⟨⟨_, Tryd.type31, rfl⟩⟩
@[reducible, instance] def yc33 := TyC.mk (P := Tryd.prog) Tryd.isAgg33 Tryd.sizeOf33
@[reducible, instance] def uc33 := UndC.mk Tryd.underlying33
@[reducible, instance] def zl33 := ZeroL.ofOne Tryd.zeroValue33
@[reducible, instance] def ic33 : InfoC Tryd.prog 33 8 := ⟨⟨_, Tryd.type33, rfl⟩⟩
@[reducible, instance] def yc34 := TyC.mk (P := Tryd.prog) Tryd.isAgg34 Tryd.sizeOf34
@[reducible, instance] def uc34 := UndC.mk Tryd.underlying34
@[reducible, instance] def zl34 := ZeroL.ofOne Tryd.zeroValue34
@[reducible, instance] def ic34 : InfoC Tryd.prog 34 8 := ⟨⟨_, Tryd.type34, rfl⟩⟩
@[reducible, instance] def yc35 := TyC.mk (P := Tryd.prog) Tryd.isAgg35 Tryd.sizeOf35
@[reducible, instance] def uc35 := UndC.mk Tryd.underlying35
@[reducible, instance] def zl35 := ZeroL.ofOne Tryd.zeroValue35
@[reducible, instance] def ic35 : InfoC Tryd.prog 35 24 := ⟨⟨_, Tryd.type35, rfl⟩⟩
@[reducible, instance] def yc36 := TyC.mk (P := Tryd.prog) Tryd.isAgg36 Tryd.sizeOf36
@[reducible, instance] def uc36 := UndC.mk Tryd.underlying36
@[reducible, instance] def zl36 := ZeroL.ofOne Tryd.zeroValue36
@[reducible, instance] def ic36 : InfoC Tryd.prog 36 8 := ⟨⟨_, Tryd.type36, rfl⟩⟩
@[reducible, instance] def yc37 := TyC.mk (P := Tryd.prog) Tryd.isAgg37 Tryd.sizeOf37
@[reducible, instance] def uc37 := UndC.mk Tryd.underlying37
@[reducible, instance] def zl37 := ZeroL.ofOne Tryd.zeroValue37
@[reducible, instance] def ic37 : InfoC Tryd.prog 37 24 := ⟨⟨_, Tryd.type37, rfl⟩⟩
@[reducible, instance] def yc38 := TyC.mk (P := Tryd.prog) Tryd.isAgg38 Tryd.sizeOf38
@[reducible, instance] def uc38 := UndC.mk Tryd.underlying38
@[reducible, instance] def zl38 := ZeroL.ofOne Tryd.zeroValue38
@[reducible, instance] def ic38 : InfoC Tryd.prog 38 8 := ⟨⟨_, Tryd.type38, rfl⟩⟩
@[reducible, instance] def yc39 := TyC.mk (P := Tryd.prog) Tryd.isAgg39 Tryd.sizeOf39
@[reducible, instance] def uc39 := UndC.mk Tryd.underlying39
@[reducible, instance] def zl39 := ZeroL.ofOne Tryd.zeroValue39
@[reducible, instance] def ic39 : InfoC Tryd.prog 39 8 := ⟨⟨_, Tryd.type39, rfl⟩⟩
@[reducible, instance] def yc40 := TyC.mk (P := Tryd.prog) Tryd.isAgg40 Tryd.sizeOf40
@[reducible, instance] def uc40 := UndC.mk Tryd.underlying40
@[reducible, instance] def zl40 := ZeroL.ofOne Tryd.zeroValue40
@[reducible, instance] def ic40 : InfoC Tryd.prog 40 8 := ⟨⟨_, Tryd.type40, rfl⟩⟩
@[reducible, instance] def yc41 := TyC.mk (P := Tryd.prog) Tryd.isAgg41 Tryd.sizeOf41
@[reducible, instance] def uc41 := UndC.mk Tryd.underlying41
@[reducible, instance] def zl41 := ZeroL.ofOne Tryd.zeroValue41
@[reducible, instance] def ic41 : InfoC Tryd.prog 41 8 := ⟨⟨_, Tryd.type41, rfl⟩⟩
@[reducible, instance] def yc42 := TyC.mk (P := Tryd.prog) Tryd.isAgg42 Tryd.sizeOf42
@[reducible, instance] def uc42 := UndC.mk Tryd.underlying42
@[reducible, instance] def zl42 := ZeroL.ofOne Tryd.zeroValue42
@[reducible, instance] def ic42 : InfoC Tryd.prog 42 8 := ⟨⟨_, Tryd.type42, rfl⟩⟩
@[reducible, instance] def yc43 := TyC.mk (P := Tryd.prog) Tryd.isAgg43 Tryd.sizeOf43
@[reducible, instance] def uc43 := UndC.mk Tryd.underlying43
@[reducible, instance] def zl43 := ZeroL.ofOne Tryd.zeroValue43
@[reducible, instance] def ic43 : InfoC Tryd.prog 43 8 := ⟨⟨_, Tryd.type43, rfl⟩⟩
@[reducible, instance] def yc44 := TyC.mk (P := Tryd.prog) Tryd.isAgg44 Tryd.sizeOf44
@[reducible, instance] def uc44 := UndC.mk Tryd.underlying44
@[reducible, instance] def zl44 := ZeroL.ofOne Tryd.zeroValue44
@[reducible, instance] def ic44 : InfoC Tryd.prog 44 8 := ⟨⟨_, Tryd.type44, rfl⟩⟩
@[reducible, instance] def yc45 := TyC.mk (P := Tryd.prog) Tryd.isAgg45 Tryd.sizeOf45
@[reducible, instance] def uc45 := UndC.mk Tryd.underlying45
@[reducible, instance] def zl45 := ZeroL.ofOne Tryd.zeroValue45
@[reducible, instance] def ic45 : InfoC Tryd.prog 45 8 := ⟨⟨_, Tryd.type45, rfl⟩⟩
@[reducible, instance] def yc46 := TyC.mk (P := Tryd.prog) Tryd.isAgg46 Tryd.sizeOf46
@[reducible, instance] def uc46 := UndC.mk Tryd.underlying46
@[reducible, instance] def zl46 := ZeroL.ofOne Tryd.zeroValue46
@[reducible, instance] def ic46 : InfoC Tryd.prog 46 8 := ⟨⟨_, Tryd.type46, rfl⟩⟩
@[reducible, instance] def yc47 := TyC.mk (P := Tryd.prog) Tryd.isAgg47 Tryd.sizeOf47
@[reducible, instance] def uc47 := UndC.mk Tryd.underlying47
@[reducible, instance] def zl47 := ZeroL.ofOne Tryd.zeroValue47
@[reducible, instance] def ic47 : InfoC Tryd.prog 47 8 := ⟨⟨_, Tryd.type47, rfl⟩⟩
@[reducible, instance] def yc48 := TyC.mk (P := Tryd.prog) Tryd.isAgg48 Tryd.sizeOf48
@[reducible, instance] def uc48 := UndC.mk Tryd.underlying48
@[reducible, instance] def zl48 := ZeroL.ofOne Tryd.zeroValue48
@[reducible, instance] def ic48 : InfoC Tryd.prog 48 24 := ⟨⟨_, Tryd.type48, rfl⟩⟩
@[reducible, instance] def yc49 := TyC.mk (P := Tryd.prog) Tryd.isAgg49 Tryd.sizeOf49
@[reducible, instance] def uc49 := UndC.mk Tryd.underlying49
@[reducible, instance] def zl49 := ZeroL.ofAgg Tryd.zeroValue49
@[reducible, instance] def ic49 : InfoC Tryd.prog 49 24 := ⟨⟨_, Tryd.type49, rfl⟩⟩
@[reducible, instance] def fl49_0 : FieldC Tryd.prog 49 0 3 0 := ⟨⟨_, _, Tryd.underlying49, rfl, rfl, rfl⟩⟩
@[reducible, instance] def fl49_1 : FieldC Tryd.prog 49 1 9 1 := ⟨⟨_, _, Tryd.underlying49, rfl, rfl, rfl⟩⟩
@[reducible, instance] def yc50 := TyC.mk (P := Tryd.prog) Tryd.isAgg50 Tryd.sizeOf50
@[reducible, instance] def uc50 := UndC.mk Tryd.underlying50
@[reducible, instance] def zl50 := ZeroL.ofAgg Tryd.zeroValue50
@[reducible, instance] def ic50 : InfoC Tryd.prog 50 24 := ⟨⟨_, Tryd.type50, rfl⟩⟩
@[reducible, instance] def fl50_0 : FieldC Tryd.prog 50 0 3 0 := ⟨⟨_, _, Tryd.underlying50, rfl, rfl, rfl⟩⟩
@[reducible, instance] def fl50_1 : FieldC Tryd.prog 50 1 9 1 := ⟨⟨_, _, Tryd.underlying50, rfl, rfl, rfl⟩⟩
@[reducible, instance] def yc51 := TyC.mk (P := Tryd.prog) Tryd.isAgg51 Tryd.sizeOf51
@[reducible, instance] def uc51 := UndC.mk Tryd.underlying51
@[reducible, instance] def zl51 := ZeroL.ofAgg Tryd.zeroValue51
@[reducible, instance] def ic51 : InfoC Tryd.prog 51 312 := ⟨⟨_, Tryd.type51, rfl⟩⟩
@[reducible, instance] def yc52 := TyC.mk (P := Tryd.prog) Tryd.isAgg52 Tryd.sizeOf52
@[reducible, instance] def uc52 := UndC.mk Tryd.underlying52
@[reducible, instance] def zl52 := ZeroL.ofOne Tryd.zeroValue52
@[reducible, instance] def ic52 : InfoC Tryd.prog 52 8 := ⟨⟨_, Tryd.type52, rfl⟩⟩
@[reducible, instance] def yc53 := TyC.mk (P := Tryd.prog) Tryd.isAgg53 Tryd.sizeOf53
@[reducible, instance] def uc53 := UndC.mk Tryd.underlying53
@[reducible, instance] def zl53 := ZeroL.ofOne Tryd.zeroValue53
@[reducible, instance] def ic53 : InfoC Tryd.prog 53 8 := ⟨⟨_, Tryd.type53, rfl⟩⟩
@[reducible, instance] def yc54 := TyC.mk (P := Tryd.prog) Tryd.isAgg54 Tryd.sizeOf54
@[reducible, instance] def uc54 := UndC.mk Tryd.underlying54
@[reducible, instance] def zl54 := ZeroL.ofOne Tryd.zeroValue54
@[reducible, instance] def ic54 : InfoC Tryd.prog 54 8 := ⟨⟨_, Tryd.type54, rfl⟩⟩
@[reducible, instance] def yc55 := TyC.mk (P := Tryd.prog) Tryd.isAgg55 Tryd.sizeOf55
@[reducible, instance] def uc55 := UndC.mk Tryd.underlying55
@[reducible, instance] def zl55 := ZeroL.ofOne Tryd.zeroValue55
@[reducible, instance] def ic55 : InfoC Tryd.prog 55 8 := ⟨⟨_, Tryd.type55, rfl⟩⟩
@[reducible, instance] def yc56 := TyC.mk (P := Tryd.prog) Tryd.isAgg56 Tryd.sizeOf56
@[reducible, instance] def uc56 := UndC.mk Tryd.underlying56
@[reducible, instance] def zl56 := ZeroL.ofAgg Tryd.zeroValue56
@[reducible, instance] def ic56 : InfoC Tryd.prog 56 32 := ⟨⟨_, Tryd.type56, rfl⟩⟩
@[reducible, instance] def fl56_0 : FieldC Tryd.prog 56 0 55 0 := ⟨⟨_, _, Tryd.underlying56, rfl, rfl, rfl⟩⟩
@[reducible, instance] def fl56_1 : FieldC Tryd.prog 56 1 48 1 := ⟨⟨_, _, Tryd.underlying56, rfl, rfl, rfl⟩⟩
@[reducible, instance] def yc57 := TyC.mk (P := Tryd.prog) Tryd.isAgg57 Tryd.sizeOf57
@[reducible, instance] def uc57 := UndC.mk Tryd.underlying57
@[reducible, instance] def zl57 := ZeroL.ofAgg Tryd.zeroValue57
@[reducible, instance] def ic57 : InfoC Tryd.prog 57 32 := ⟨⟨_, Tryd.type57, rfl⟩⟩
@[reducible, instance] def fl57_0 : FieldC Tryd.prog 57 0 55 0 := ⟨⟨_, _, Tryd.underlying57, rfl, rfl, rfl⟩⟩
@[reducible, instance] def fl57_1 : FieldC Tryd.prog 57 1 48 1 := ⟨⟨_, _, Tryd.underlying57, rfl, rfl, rfl⟩⟩
@[reducible, instance] def yc58 := TyC.mk (P := Tryd.prog) Tryd.isAgg58 Tryd.sizeOf58
@[reducible, instance] def uc58 := UndC.mk Tryd.underlying58
@[reducible, instance] def zl58 := ZeroL.ofOne Tryd.zeroValue58
@[reducible, instance] def ic58 : InfoC Tryd.prog 58 8 := ⟨⟨_, Tryd.type58, rfl⟩⟩
@[reducible, instance] def yc59 := TyC.mk (P := Tryd.prog) Tryd.isAgg59 Tryd.sizeOf59
@[reducible, instance] def uc59 := UndC.mk Tryd.underlying59
@[reducible, instance] def zl59 := ZeroL.ofOne Tryd.zeroValue59
@[reducible, instance] def ic59 : InfoC Tryd.prog 59 16 := ⟨⟨_, Tryd.type59, rfl⟩⟩
@[reducible, instance] def yc60 := TyC.mk (P := Tryd.prog) Tryd.isAgg60 Tryd.sizeOf60
@[reducible, instance] def uc60 := UndC.mk Tryd.underlying60
@[reducible, instance] def zl60 := ZeroL.ofOne Tryd.zeroValue60
@[reducible, instance] def ic60 : InfoC Tryd.prog 60 16 := ⟨⟨_, Tryd.type60, rfl⟩⟩
@[reducible, instance] def yc62 := TyC.mk (P := Tryd.prog) Tryd.isAgg62 Tryd.sizeOf62
@[reducible, instance] def uc62 := UndC.mk Tryd.underlying62
@[reducible, instance] def zl62 := ZeroL.ofOne Tryd.zeroValue62
@[reducible, instance] def ic62 : InfoC Tryd.prog 62 8 := ⟨⟨_, Tryd.type62, rfl⟩⟩
@[reducible, instance] def yc63 := TyC.mk (P := Tryd.prog) Tryd.isAgg63 Tryd.sizeOf63
@[reducible, instance] def uc63 := UndC.mk Tryd.underlying63
@[reducible, instance] def zl63 := ZeroL.ofOne Tryd.zeroValue63
@[reducible, instance] def ic63 : InfoC Tryd.prog 63 8 := ⟨⟨_, Tryd.type63, rfl⟩⟩
@[reducible, instance] def yc64 := TyC.mk (P := Tryd.prog) Tryd.isAgg64 Tryd.sizeOf64
@[reducible, instance] def uc64 := UndC.mk Tryd.underlying64
@[reducible, instance] def zl64 := ZeroL.ofOne Tryd.zeroValue64
@[reducible, instance] def ic64 : InfoC Tryd.prog 64 8 := ⟨⟨_, Tryd.type64, rfl⟩⟩
@[reducible, instance] def yc65 := TyC.mk (P := Tryd.prog) Tryd.isAgg65 Tryd.sizeOf65
@[reducible, instance] def uc65 := UndC.mk Tryd.underlying65
@[reducible, instance] def zl65 := ZeroL.ofOne Tryd.zeroValue65
@[reducible, instance] def ic65 : InfoC Tryd.prog 65 8 := ⟨⟨_, Tryd.type65, rfl⟩⟩
@[reducible, instance] def yc66 := TyC.mk (P := Tryd.prog) Tryd.isAgg66 Tryd.sizeOf66
@[reducible, instance] def uc66 := UndC.mk Tryd.underlying66
@[reducible, instance] def zl66 := ZeroL.ofOne Tryd.zeroValue66
@[reducible, instance] def ic66 : InfoC Tryd.prog 66 8 := ⟨⟨_, Tryd.type66, rfl⟩⟩
@[reducible, instance] def yc67 := TyC.mk (P := Tryd.prog) Tryd.isAgg67 Tryd.sizeOf67
@[reducible, instance] def uc67 := UndC.mk Tryd.underlying67
@[reducible, instance] def zl67 := ZeroL.ofOne Tryd.zeroValue67
@[reducible, instance] def ic67 : InfoC Tryd.prog 67 8 := ⟨⟨_, Tryd.type67, rfl⟩⟩
@[reducible, instance] def yc68 := TyC.mk (P := Tryd.prog) Tryd.isAgg68 Tryd.sizeOf68
@[reducible, instance] def uc68 := UndC.mk Tryd.underlying68
@[reducible, instance] def zl68 := ZeroL.ofOne Tryd.zeroValue68
@[reducible, instance] def ic68 : InfoC Tryd.prog 68 8 := ⟨⟨_, Tryd.type68, rfl⟩⟩
@[reducible, instance] def yc69 := TyC.mk (P := Tryd.prog) Tryd.isAgg69 Tryd.sizeOf69
@[reducible, instance] def uc69 := UndC.mk Tryd.underlying69
@[reducible, instance] def zl69 := ZeroL.ofOne Tryd.zeroValue69
@[reducible, instance] def ic69 : InfoC Tryd.prog 69 8 := ⟨⟨_, Tryd.type69, rfl⟩⟩
@[reducible, instance] def yc71 := TyC.mk (P := Tryd.prog) Tryd.isAgg71 Tryd.sizeOf71
@[reducible, instance] def uc71 := UndC.mk Tryd.underlying71
@[reducible, instance] def zl71 := ZeroL.ofOne Tryd.zeroValue71
@[reducible, instance] def ic71 : InfoC Tryd.prog 71 8 := ⟨⟨_, Tryd.type71, rfl⟩⟩
@[reducible, instance] def yc72 := TyC.mk (P := Tryd.prog) Tryd.isAgg72 Tryd.sizeOf72
@[reducible, instance] def uc72 := UndC.mk Tryd.underlying72
@[reducible, instance] def zl72 := ZeroL.ofOne Tryd.zeroValue72
@[reducible, instance] def ic72 : InfoC Tryd.prog 72 8 := ⟨⟨_, Tryd.type72, rfl⟩⟩
@[reducible, instance] def yc73 := TyC.mk (P := Tryd.prog) Tryd.isAgg73 Tryd.sizeOf73
@[reducible, instance] def uc73 := UndC.mk Tryd.underlying73
@[reducible, instance] def zl73 := ZeroL.ofOne Tryd.zeroValue73
@[reducible, instance] def ic73 : InfoC Tryd.prog 73 8 := ⟨⟨_, Tryd.type73, rfl⟩⟩
@[reducible, instance] def yc74 := TyC.mk (P := Tryd.prog) Tryd.isAgg74 Tryd.sizeOf74
@[reducible, instance] def uc74 := UndC.mk Tryd.underlying74
@[reducible, instance] def zl74 := ZeroL.ofOne Tryd.zeroValue74
@[reducible, instance] def ic74 : InfoC Tryd.prog 74 8 := ⟨⟨_, Tryd.type74, rfl⟩⟩
@[reducible, instance] def yc75 := TyC.mk (P := Tryd.prog) Tryd.isAgg75 Tryd.sizeOf75
@[reducible, instance] def uc75 := UndC.mk Tryd.underlying75
@[reducible, instance] def zl75 := ZeroL.ofOne Tryd.zeroValue75
@[reducible, instance] def ic75 : InfoC Tryd.prog 75 8 := ⟨⟨_, Tryd.type75, rfl⟩⟩
@[reducible, instance] def yc76 := TyC.mk (P := Tryd.prog) Tryd.isAgg76 Tryd.sizeOf76
@[reducible, instance] def uc76 := UndC.mk Tryd.underlying76
@[reducible, instance] def zl76 := ZeroL.ofOne Tryd.zeroValue76
@[reducible, instance] def ic76 : InfoC Tryd.prog 76 8 := ⟨⟨_, Tryd.type76, rfl⟩⟩
@[reducible, instance] def yc78 := TyC.mk (P := Tryd.prog) Tryd.isAgg78 Tryd.sizeOf78
@[reducible, instance] def uc78 := UndC.mk Tryd.underlying78
@[reducible, instance] def zl78 := ZeroL.ofOne Tryd.zeroValue78
@[reducible, instance] def ic78 : InfoC Tryd.prog 78 8 := ⟨⟨_, Tryd.type78, rfl⟩⟩
@[reducible, instance] def yc79 := TyC.mk (P := Tryd.prog) Tryd.isAgg79 Tryd.sizeOf79
@[reducible, instance] def uc79 := UndC.mk Tryd.underlying79
@[reducible, instance] def zl79 := ZeroL.ofAgg Tryd.zeroValue79
@[reducible, instance] def ic79 : InfoC Tryd.prog 79 24 := ⟨⟨_, Tryd.type79, rfl⟩⟩
@[reducible, instance] def yc80 := TyC.mk (P := Tryd.prog) Tryd.isAgg80 Tryd.sizeOf80
@[reducible, instance] def uc80 := UndC.mk Tryd.underlying80
@[reducible, instance] def zl80 := ZeroL.ofOne Tryd.zeroValue80
@[reducible, instance] def ic80 : InfoC Tryd.prog 80 8 := ⟨⟨_, Tryd.type80, rfl⟩⟩
@[reducible, instance] def yc81 := TyC.mk (P := Tryd.prog) Tryd.isAgg81 Tryd.sizeOf81
@[reducible, instance] def uc81 := UndC.mk Tryd.underlying81
@[reducible, instance] def zl81 := ZeroL.ofOne Tryd.zeroValue81
@[reducible, instance] def ic81 : InfoC Tryd.prog 81 8 := ⟨⟨_, Tryd.type81, rfl⟩⟩
@[reducible, instance] def yc82 := TyC.mk (P := Tryd.prog) Tryd.isAgg82 Tryd.sizeOf82
@[reducible, instance] def uc82 := UndC.mk Tryd.underlying82
@[reducible, instance] def zl82 := ZeroL.ofOne Tryd.zeroValue82
@[reducible, instance] def ic82 : InfoC Tryd.prog 82 8 := ⟨⟨_, Tryd.type82, rfl⟩⟩
@[reducible, instance] def yc84 := TyC.mk (P := Tryd.prog) Tryd.isAgg84 Tryd.sizeOf84
@[reducible, instance] def uc84 := UndC.mk Tryd.underlying84
@[reducible, instance] def zl84 := ZeroL.ofOne Tryd.zeroValue84
@[reducible, instance] def ic84 : InfoC Tryd.prog 84 8 := ⟨⟨_, Tryd.type84, rfl⟩⟩
@[reducible, instance] def yc85 := TyC.mk (P := Tryd.prog) Tryd.isAgg85 Tryd.sizeOf85
@[reducible, instance] def uc85 := UndC.mk Tryd.underlying85
@[reducible, instance] def zl85 := ZeroL.ofOne Tryd.zeroValue85
@[reducible, instance] def ic85 : InfoC Tryd.prog 85 8 := ⟨⟨_, Tryd.type85, rfl⟩⟩
@[reducible, instance] def yc86 := TyC.mk (P := Tryd.prog) Tryd.isAgg86 Tryd.sizeOf86
@[reducible, instance] def uc86 := UndC.mk Tryd.underlying86
@[reducible, instance] def zl86 := ZeroL.ofOne Tryd.zeroValue86
@[reducible, instance] def ic86 : InfoC Tryd.prog 86 8 := ⟨⟨_, Tryd.type86, rfl⟩⟩
@[reducible, instance] def yc87 := TyC.mk (P := Tryd.prog) Tryd.isAgg87 Tryd.sizeOf87
@[reducible, instance] def uc87 := UndC.mk Tryd.underlying87
@[reducible, instance] def zl87 := ZeroL.ofOne Tryd.zeroValue87
@[reducible, instance] def ic87 : InfoC Tryd.prog 87 8 := ⟨⟨_, Tryd.type87, rfl⟩⟩
@[reducible, instance] def yc88 := TyC.mk (P := Tryd.prog) Tryd.isAgg88 Tryd.sizeOf88
@[reducible, instance] def uc88 := UndC.mk Tryd.underlying88
@[reducible, instance] def zl88 := ZeroL.ofOne Tryd.zeroValue88
@[reducible, instance] def ic88 : InfoC Tryd.prog 88 8 := ⟨⟨_, Tryd.type88, rfl⟩⟩
@[reducible, instance] def yc90 := TyC.mk (P := Tryd.prog) Tryd.isAgg90 Tryd.sizeOf90
@[reducible, instance] def uc90 := UndC.mk Tryd.underlying90
@[reducible, instance] def zl90 := ZeroL.ofOne Tryd.zeroValue90
@[reducible, instance] def ic90 : InfoC Tryd.prog 90 8 := ⟨⟨_, Tryd.type90, rfl⟩⟩
@[reducible, instance] def yc91 := TyC.mk (P := Tryd.prog) Tryd.isAgg91 Tryd.sizeOf91
@[reducible, instance] def uc91 := UndC.mk Tryd.underlying91
@[reducible, instance] def zl91 := ZeroL.ofOne Tryd.zeroValue91
@[reducible, instance] def ic91 : InfoC Tryd.prog 91 24 := ⟨⟨_, Tryd.type91, rfl⟩⟩
@[reducible, instance] def yc92 := TyC.mk (P := Tryd.prog) Tryd.isAgg92 Tryd.sizeOf92
@[reducible, instance] def uc92 := UndC.mk Tryd.underlying92
@[reducible, instance] def zl92 := ZeroL.ofOne Tryd.zeroValue92
@[reducible, instance] def ic92 : InfoC Tryd.prog 92 4 := ⟨⟨_, Tryd.type92, rfl⟩⟩
@[reducible, instance] def yc94 := TyC.mk (P := Tryd.prog) Tryd.isAgg94 Tryd.sizeOf94
@[reducible, instance] def uc94 := UndC.mk Tryd.underlying94
@[reducible, instance] def zl94 := ZeroL.ofOne Tryd.zeroValue94
@[reducible, instance] def ic94 : InfoC Tryd.prog 94 8 := ⟨⟨_, Tryd.type94, rfl⟩⟩
@[reducible, instance] def yc96 := TyC.mk (P := Tryd.prog) Tryd.isAgg96 Tryd.sizeOf96
@[reducible, instance] def uc96 := UndC.mk Tryd.underlying96
@[reducible, instance] def zl96 := ZeroL.ofOne Tryd.zeroValue96
@[reducible, instance] def ic96 : InfoC Tryd.prog 96 8 := ⟨⟨_, Tryd.type96, rfl⟩⟩
@[reducible, instance] def yc97 := TyC.mk (P := Tryd.prog) Tryd.isAgg97 Tryd.sizeOf97
@[reducible, instance] def uc97 := UndC.mk Tryd.underlying97
@[reducible, instance] def zl97 := ZeroL.ofOne Tryd.zeroValue97
@[reducible, instance] def ic97 : InfoC Tryd.prog 97 8 := ⟨⟨_, Tryd.type97, rfl⟩⟩
@[reducible, instance] def yc98 := TyC.mk (P := Tryd.prog) Tryd.isAgg98 Tryd.sizeOf98
@[reducible, instance] def uc98 := UndC.mk Tryd.underlying98
@[reducible, instance] def zl98 := ZeroL.ofOne Tryd.zeroValue98
@[reducible, instance] def ic98 : InfoC Tryd.prog 98 8 := ⟨⟨_, Tryd.type98, rfl⟩⟩
@[reducible, instance] def yc99 := TyC.mk (P := Tryd.prog) Tryd.isAgg99 Tryd.sizeOf99
@[reducible, instance] def uc99 := UndC.mk Tryd.underlying99
@[reducible, instance] def zl99 := ZeroL.ofAgg Tryd.zeroValue99
@[reducible, instance] def ic99 : InfoC Tryd.prog 99 160 := ⟨⟨_, Tryd.type99, rfl⟩⟩
@[reducible, instance] def yc100 := TyC.mk (P := Tryd.prog) Tryd.isAgg100 Tryd.sizeOf100
@[reducible, instance] def uc100 := UndC.mk Tryd.underlying100
@[reducible, instance] def zl100 := ZeroL.ofAgg Tryd.zeroValue100
@[reducible, instance] def ic100 : InfoC Tryd.prog 100 65 := ⟨⟨_, Tryd.type100, rfl⟩⟩
@[reducible, instance] def yc101 := TyC.mk (P := Tryd.prog) Tryd.isAgg101 Tryd.sizeOf101
@[reducible, instance] def uc101 := UndC.mk Tryd.underlying101
@[reducible, instance] def zl101 := ZeroL.ofOne Tryd.zeroValue101
@[reducible, instance] def ic101 : InfoC Tryd.prog 101 8 := ⟨⟨_, Tryd.type101, rfl⟩⟩
@[reducible, instance] def yc102 := TyC.mk (P := Tryd.prog) Tryd.isAgg102 Tryd.sizeOf102
@[reducible, instance] def uc102 := UndC.mk Tryd.underlying102
@[reducible, instance] def zl102 := ZeroL.ofAgg Tryd.zeroValue102
@[reducible, instance] def ic102 : InfoC Tryd.prog 102 256 := ⟨⟨_, Tryd.type102, rfl⟩⟩
@[reducible, instance] def yc103 := TyC.mk (P := Tryd.prog) Tryd.isAgg103 Tryd.sizeOf103
@[reducible, instance] def uc103 := UndC.mk Tryd.underlying103
@[reducible, instance] def zl103 := ZeroL.ofAgg Tryd.zeroValue103
@[reducible, instance] def ic103 : InfoC Tryd.prog 103 2 := ⟨⟨_, Tryd.type103, rfl⟩⟩
@[reducible, instance] def fl103_0 : FieldC Tryd.prog 103 0 5 0 := ⟨⟨_, _, Tryd.underlying103, rfl, rfl, rfl⟩⟩
@[reducible, instance] def fl103_1 : FieldC Tryd.prog 103 1 5 1 := ⟨⟨_, _, Tryd.underlying103, rfl, rfl, rfl⟩⟩
@[reducible, instance] def yc104 := TyC.mk (P := Tryd.prog) Tryd.isAgg104 Tryd.sizeOf104
@[reducible, instance] def uc104 := UndC.mk Tryd.underlying104
@[reducible, instance] def zl104 := ZeroL.ofAgg Tryd.zeroValue104
@[reducible, instance] def ic104 : InfoC Tryd.prog 104 2 := ⟨⟨_, Tryd.type104, rfl⟩⟩
@[reducible, instance] def fl104_0 : FieldC Tryd.prog 104 0 5 0 := ⟨⟨_, _, Tryd.underlying104, rfl, rfl, rfl⟩⟩
@[reducible, instance] def fl104_1 : FieldC Tryd.prog 104 1 5 1 := ⟨⟨_, _, Tryd.underlying104, rfl, rfl, rfl⟩⟩
@[reducible, instance] def yc105 := TyC.mk (P := Tryd.prog) Tryd.isAgg105 Tryd.sizeOf105
@[reducible, instance] def uc105 := UndC.mk Tryd.underlying105
@[reducible, instance] def zl105 := ZeroL.ofAgg Tryd.zeroValue105
@[reducible, instance] def ic105 : InfoC Tryd.prog 105 32 := ⟨⟨_, Tryd.type105, rfl⟩⟩
@[reducible, instance] def yc106 := TyC.mk (P := Tryd.prog) Tryd.isAgg106 Tryd.sizeOf106
@[reducible, instance] def uc106 := UndC.mk Tryd.underlying106
@[reducible, instance] def zl106 := ZeroL.ofOne Tryd.zeroValue106
@[reducible, instance] def ic106 : InfoC Tryd.prog 106 8 := ⟨⟨_, Tryd.type106, rfl⟩⟩
@[reducible, instance] def yc107 := TyC.mk (P := Tryd.prog) Tryd.isAgg107 Tryd.sizeOf107
@[reducible, instance] def uc107 := UndC.mk Tryd.underlying107
@[reducible, instance] def zl107 := ZeroL.ofOne Tryd.zeroValue107
@[reducible, instance] def ic107 : InfoC Tryd.prog 107 8 := ⟨⟨_, Tryd.type107, rfl⟩⟩
@[reducible, instance] def yc108 := TyC.mk (P := Tryd.prog) Tryd.isAgg108 Tryd.sizeOf108
@[reducible, instance] def uc108 := UndC.mk Tryd.underlying108
@[reducible, instance] def zl108 := ZeroL.ofOne Tryd.zeroValue108
@[reducible, instance] def ic108 : InfoC Tryd.prog 108 8 := ⟨⟨_, Tryd.type108, rfl⟩⟩
@[reducible, instance] def yc109 := TyC.mk (P := Tryd.prog) Tryd.isAgg109 Tryd.sizeOf109
@[reducible, instance] def uc109 := UndC.mk Tryd.underlying109
@[reducible, instance] def zl109 := ZeroL.ofOne Tryd.zeroValue109
@[reducible, instance] def ic109 : InfoC Tryd.prog 109 8 := ⟨⟨_, Tryd.type109, rfl⟩⟩
@[reducible, instance] def yc110 := TyC.mk (P := Tryd.prog) Tryd.isAgg110 Tryd.sizeOf110
@[reducible, instance] def uc110 := UndC.mk Tryd.underlying110
@[reducible, instance] def zl110 := ZeroL.ofAgg Tryd.zeroValue110
@[reducible, instance] def ic110 : InfoC Tryd.prog 110 12 := ⟨⟨_, Tryd.type110, rfl⟩⟩
@[reducible, instance] def yc111 := TyC.mk (P := Tryd.prog) Tryd.isAgg111 Tryd.sizeOf111
@[reducible, instance] def uc111 := UndC.mk Tryd.underlying111
@[reducible, instance] def zl111 := ZeroL.ofAgg Tryd.zeroValue111
@[reducible, instance] def ic111 : InfoC Tryd.prog 111 12 := ⟨⟨_, Tryd.type111, rfl⟩⟩
@[reducible, instance] def yc112 := TyC.mk (P := Tryd.prog) Tryd.isAgg112 Tryd.sizeOf112
@[reducible, instance] def uc112 := UndC.mk Tryd.underlying112
@[reducible, instance] def zl112 := ZeroL.ofAgg Tryd.zeroValue112
@[reducible, instance] def ic112 : InfoC Tryd.prog 112 20 := ⟨⟨_, Tryd.type112, rfl⟩⟩
@[reducible, instance] def fl112_0 : FieldC Tryd.prog 112 0 92 0 := ⟨⟨_, _, Tryd.underlying112, rfl, rfl, rfl⟩⟩
@[reducible, instance] def fl112_1 : FieldC Tryd.prog 112 1 92 1 := ⟨⟨_, _, Tryd.underlying112, rfl, rfl, rfl⟩⟩
@[reducible, instance] def fl112_2 : FieldC Tryd.prog 112 2 111 2 := ⟨⟨_, _, Tryd.underlying112, rfl, rfl, rfl⟩⟩
@[reducible, instance] def yc113 := TyC.mk (P := Tryd.prog) Tryd.isAgg113 Tryd.sizeOf113
@[reducible, instance] def uc113 := UndC.mk Tryd.underlying113
@[reducible, instance] def zl113 := ZeroL.ofAgg Tryd.zeroValue113
@[reducible, instance] def ic113 : InfoC Tryd.prog 113 20 := ⟨⟨_, Tryd.type113, rfl⟩⟩
@[reducible, instance] def fl113_0 : FieldC Tryd.prog 113 0 92 0 := ⟨⟨_, _, Tryd.underlying113, rfl, rfl, rfl⟩⟩
@[reducible, instance] def fl113_1 : FieldC Tryd.prog 113 1 92 1 := ⟨⟨_, _, Tryd.underlying113, rfl, rfl, rfl⟩⟩
@[reducible, instance] def fl113_2 : FieldC Tryd.prog 113 2 111 2 := ⟨⟨_, _, Tryd.underlying113, rfl, rfl, rfl⟩⟩
@[reducible, instance] def yc114 := TyC.mk (P := Tryd.prog) Tryd.isAgg114 Tryd.sizeOf114
@[reducible, instance] def uc114 := UndC.mk Tryd.underlying114
@[reducible, instance] def zl114 := ZeroL.ofAgg Tryd.zeroValue114
@[reducible, instance] def ic114 : InfoC Tryd.prog 114 32 := ⟨⟨_, Tryd.type114, rfl⟩⟩
@[reducible, instance] def yc115 := TyC.mk (P := Tryd.prog) Tryd.isAgg115 Tryd.sizeOf115
@[reducible, instance] def uc115 := UndC.mk Tryd.underlying115
@[reducible, instance] def zl115 := ZeroL.ofAgg Tryd.zeroValue115
@[reducible, instance] def ic115 : InfoC Tryd.prog 115 64 := ⟨⟨_, Tryd.type115, rfl⟩⟩
@[reducible, instance] def yc116 := TyC.mk (P := Tryd.prog) Tryd.isAgg116 Tryd.sizeOf116
@[reducible, instance] def uc116 := UndC.mk Tryd.underlying116
@[reducible, instance] def zl116 := ZeroL.ofAgg Tryd.zeroValue116
@[reducible, instance] def ic116 : InfoC Tryd.prog 116 40 := ⟨⟨_, Tryd.type116, rfl⟩⟩
@[reducible, instance] def fl116_0 : FieldC Tryd.prog 116 0 17 0 := ⟨⟨_, _, Tryd.underlying116, rfl, rfl, rfl⟩⟩
@[reducible, instance] def fl116_1 : FieldC Tryd.prog 116 1 17 1 := ⟨⟨_, _, Tryd.underlying116, rfl, rfl, rfl⟩⟩
@[reducible, instance] def fl116_2 : FieldC Tryd.prog 116 2 17 2 := ⟨⟨_, _, Tryd.underlying116, rfl, rfl, rfl⟩⟩
@[reducible, instance] def fl116_3 : FieldC Tryd.prog 116 3 9 3 := ⟨⟨_, _, Tryd.underlying116, rfl, rfl, rfl⟩⟩
@[reducible, instance] def yc117 := TyC.mk (P := Tryd.prog) Tryd.isAgg117 Tryd.sizeOf117
@[reducible, instance] def uc117 := UndC.mk Tryd.underlying117
@[reducible, instance] def zl117 := ZeroL.ofAgg Tryd.zeroValue117
@[reducible, instance] def ic117 : InfoC Tryd.prog 117 40 := ⟨⟨_, Tryd.type117, rfl⟩⟩
@[reducible, instance] def fl117_0 : FieldC Tryd.prog 117 0 17 0 := ⟨⟨_, _, Tryd.underlying117, rfl, rfl, rfl⟩⟩
@[reducible, instance] def fl117_1 : FieldC Tryd.prog 117 1 17 1 := ⟨⟨_, _, Tryd.underlying117, rfl, rfl, rfl⟩⟩
@[reducible, instance] def fl117_2 : FieldC Tryd.prog 117 2 17 2 := ⟨⟨_, _, Tryd.underlying117, rfl, rfl, rfl⟩⟩
@[reducible, instance] def fl117_3 : FieldC Tryd.prog 117 3 9 3 := ⟨⟨_, _, Tryd.underlying117, rfl, rfl, rfl⟩⟩
@[reducible, instance] def yc118 := TyC.mk (P := Tryd.prog) Tryd.isAgg118 Tryd.sizeOf118
@[reducible, instance] def uc118 := UndC.mk Tryd.underlying118
@[reducible, instance] def zl118 := ZeroL.ofAgg Tryd.zeroValue118
@[reducible, instance] def ic118 : InfoC Tryd.prog 118 0 := ⟨⟨_, Tryd.type118, rfl⟩⟩
@[reducible, instance] def yc119 := TyC.mk (P := Tryd.prog) Tryd.isAgg119 Tryd.sizeOf119
@[reducible, instance] def uc119 := UndC.mk Tryd.underlying119
@[reducible, instance] def zl119 := ZeroL.ofAgg Tryd.zeroValue119
@[reducible, instance] def ic119 : InfoC Tryd.prog 119 0 := ⟨⟨_, Tryd.type119, rfl⟩⟩
@[reducible, instance] def fl119_0 : FieldC Tryd.prog 119 0 118 0 := ⟨⟨_, _, Tryd.underlying119, rfl, rfl, rfl⟩⟩
@[reducible, instance] def yc120 := TyC.mk (P := Tryd.prog) Tryd.isAgg120 Tryd.sizeOf120
@[reducible, instance] def uc120 := UndC.mk Tryd.underlying120
@[reducible, instance] def zl120 := ZeroL.ofAgg Tryd.zeroValue120
@[reducible, instance] def ic120 : InfoC Tryd.prog 120 0 := ⟨⟨_, Tryd.type120, rfl⟩⟩
@[reducible, instance] def fl120_0 : FieldC Tryd.prog 120 0 118 0 := ⟨⟨_, _, Tryd.underlying120, rfl, rfl, rfl⟩⟩
@[reducible, instance] def yc121 := TyC.mk (P := Tryd.prog) Tryd.isAgg121 Tryd.sizeOf121
@[reducible, instance] def uc121 := UndC.mk Tryd.underlying121
@[reducible, instance] def zl121 := ZeroL.ofOne Tryd.zeroValue121
@[reducible, instance] def ic121 : InfoC Tryd.prog 121 1 := ⟨⟨_, Tryd.type121, rfl⟩⟩
@[reducible, instance] def yc122 := TyC.mk (P := Tryd.prog) Tryd.isAgg122 Tryd.sizeOf122
@[reducible, instance] def uc122 := UndC.mk Tryd.underlying122
@[reducible, instance] def zl122 := ZeroL.ofOne Tryd.zeroValue122
@[reducible, instance] def ic122 : InfoC Tryd.prog 122 1 := ⟨⟨_, Tryd.type122, rfl⟩⟩
@[reducible, instance] def yc123 := TyC.mk (P := Tryd.prog) Tryd.isAgg123 Tryd.sizeOf123
@[reducible, instance] def uc123 := UndC.mk Tryd.underlying123
@[reducible, instance] def zl123 := ZeroL.ofOne Tryd.zeroValue123
@[reducible, instance] def ic123 : InfoC Tryd.prog 123 8 := ⟨⟨_, Tryd.type123, rfl⟩⟩
@[reducible, instance] def yc124 := TyC.mk (P := Tryd.prog) Tryd.isAgg124 Tryd.sizeOf124
@[reducible, instance] def uc124 := UndC.mk Tryd.underlying124
@[reducible, instance] def zl124 := ZeroL.ofOne Tryd.zeroValue124
@[reducible, instance] def ic124 : InfoC Tryd.prog 124 4 := ⟨⟨_, Tryd.type124, rfl⟩⟩
@[reducible, instance] def yc125 := TyC.mk (P := Tryd.prog) Tryd.isAgg125 Tryd.sizeOf125
@[reducible, instance] def uc125 := UndC.mk Tryd.underlying125
@[reducible, instance] def zl125 := ZeroL.ofOne Tryd.zeroValue125
@[reducible, instance] def ic125 : InfoC Tryd.prog 125 4 := ⟨⟨_, Tryd.type125, rfl⟩⟩
@[reducible, instance] def yc126 := TyC.mk (P := Tryd.prog) Tryd.isAgg126 Tryd.sizeOf126
@[reducible, instance] def uc126 := UndC.mk Tryd.underlying126
@[reducible, instance] def zl126 := ZeroL.ofAgg Tryd.zeroValue126
@[reducible, instance] def ic126 : InfoC Tryd.prog 126 48 := ⟨⟨_, Tryd.type126, rfl⟩⟩
@[reducible, instance] def fl126_0 : FieldC Tryd.prog 126 0 12 0 := ⟨⟨_, _, Tryd.underlying126, rfl, rfl, rfl⟩⟩
@[reducible, instance] def fl126_1 : FieldC Tryd.prog 126 1 12 1 := ⟨⟨_, _, Tryd.underlying126, rfl, rfl, rfl⟩⟩
@[reducible, instance] def fl126_2 : FieldC Tryd.prog 126 2 92 2 := ⟨⟨_, _, Tryd.underlying126, rfl, rfl, rfl⟩⟩
@[reducible, instance] def fl126_3 : FieldC Tryd.prog 126 3 121 3 := ⟨⟨_, _, Tryd.underlying126, rfl, rfl, rfl⟩⟩
@[reducible, instance] def fl126_4 : FieldC Tryd.prog 126 4 5 4 := ⟨⟨_, _, Tryd.underlying126, rfl, rfl, rfl⟩⟩
@[reducible, instance] def fl126_5 : FieldC Tryd.prog 126 5 5 5 := ⟨⟨_, _, Tryd.underlying126, rfl, rfl, rfl⟩⟩
@[reducible, instance] def fl126_6 : FieldC Tryd.prog 126 6 122 6 := ⟨⟨_, _, Tryd.underlying126, rfl, rfl, rfl⟩⟩
@[reducible, instance] def fl126_7 : FieldC Tryd.prog 126 7 123 7 := ⟨⟨_, _, Tryd.underlying126, rfl, rfl, rfl⟩⟩
@[reducible, instance] def fl126_8 : FieldC Tryd.prog 126 8 69 8 := ⟨⟨_, _, Tryd.underlying126, rfl, rfl, rfl⟩⟩
@[reducible, instance] def fl126_9 : FieldC Tryd.prog 126 9 124 9 := ⟨⟨_, _, Tryd.underlying126, rfl, rfl, rfl⟩⟩
@[reducible, instance] def fl126_10 : FieldC Tryd.prog 126 10 125 10 := ⟨⟨_, _, Tryd.underlying126, rfl, rfl, rfl⟩⟩
@[reducible, instance] def yc127 := TyC.mk (P := Tryd.prog) Tryd.isAgg127 Tryd.sizeOf127
@[reducible, instance] def uc127 := UndC.mk Tryd.underlying127
@[reducible, instance] def zl127 := ZeroL.ofAgg Tryd.zeroValue127
@[reducible, instance] def ic127 : InfoC Tryd.prog 127 48 := ⟨⟨_, Tryd.type127, rfl⟩⟩
@[reducible, instance] def fl127_0 : FieldC Tryd.prog 127 0 12 0 := ⟨⟨_, _, Tryd.underlying127, rfl, rfl, rfl⟩⟩
@[reducible, instance] def fl127_1 : FieldC Tryd.prog 127 1 12 1 := ⟨⟨_, _, Tryd.underlying127, rfl, rfl, rfl⟩⟩
@[reducible, instance] def fl127_2 : FieldC Tryd.prog 127 2 92 2 := ⟨⟨_, _, Tryd.underlying127, rfl, rfl, rfl⟩⟩
@[reducible, instance] def fl127_3 : FieldC Tryd.prog 127 3 121 3 := ⟨⟨_, _, Tryd.underlying127, rfl, rfl, rfl⟩⟩
@[reducible, instance] def fl127_4 : FieldC Tryd.prog 127 4 5 4 := ⟨⟨_, _, Tryd.underlying127, rfl, rfl, rfl⟩⟩
@[reducible, instance] def fl127_5 : FieldC Tryd.prog 127 5 5 5 := ⟨⟨_, _, Tryd.underlying127, rfl, rfl, rfl⟩⟩
@[reducible, instance] def fl127_6 : FieldC Tryd.prog 127 6 122 6 := ⟨⟨_, _, Tryd.underlying127, rfl, rfl, rfl⟩⟩
@[reducible, instance] def fl127_7 : FieldC Tryd.prog 127 7 123 7 := ⟨⟨_, _, Tryd.underlying127, rfl, rfl, rfl⟩⟩
@[reducible, instance] def fl127_8 : FieldC Tryd.prog 127 8 69 8 := ⟨⟨_, _, Tryd.underlying127, rfl, rfl, rfl⟩⟩
@[reducible, instance] def fl127_9 : FieldC Tryd.prog 127 9 124 9 := ⟨⟨_, _, Tryd.underlying127, rfl, rfl, rfl⟩⟩
@[reducible, instance] def fl127_10 : FieldC Tryd.prog 127 10 125 10 := ⟨⟨_, _, Tryd.underlying127, rfl, rfl, rfl⟩⟩
@[reducible, instance] def fc3 := FunC.mk Tryd.call3
@[reducible, instance] def fc4 := FunC.mk Tryd.call4
@[reducible, instance] def fc5 := FunC.mk Tryd.call5
@[reducible, instance] def fc6 := FunC.mk Tryd.call6
@[reducible, instance] def fc7 := FunC.mk Tryd.call7
@[reducible, instance] def fc8 := FunC.mk Tryd.call8
@[reducible, instance] def fc9 := FunC.mk Tryd.call9
@[reducible, instance] def fc10 := FunC.mk Tryd.call10
@[reducible, instance] def fc11 := FunC.mk Tryd.call11
@[reducible, instance] def fc12 := FunC.mk Tryd.call12
@[reducible, instance] def fc13 := FunC.mk Tryd.call13
@[reducible, instance] def fc14 := FunC.mk Tryd.call14
@[reducible, instance] def fc15 := FunC.mk Tryd.call15
@[reducible, instance] def fc16 := FunC.mk Tryd.call16
@[reducible, instance] def fc17 := FunC.mk Tryd.call17
@[reducible, instance] def fc18 := FunC.mk Tryd.call18
@[reducible, instance] def fc19 := FunC.mk Tryd.call19
@[reducible, instance] def fc20 := FunC.mk Tryd.call20
@[reducible, instance] def fc21 := FunC.mk Tryd.call21
@[reducible, instance] def fc22 := FunC.mk Tryd.call22
@[reducible, instance] def fc23 := FunC.mk Tryd.call23
@[reducible, instance] def fc24 := FunC.mk Tryd.call24
@[reducible, instance] def fc25 := FunC.mk Tryd.call25
@[reducible, instance] def fc26 := FunC.mk Tryd.call26
@[reducible, instance] def fc27 := FunC.mk Tryd.call27
@[reducible, instance] def fc28 := FunC.mk Tryd.call28
@[reducible, instance] def fc29 := FunC.mk Tryd.call29
@[reducible, instance] def fc30 := FunC.mk Tryd.call30
@[reducible, instance] def fc31 := FunC.mk Tryd.call31
@[reducible, instance] def fc32 := FunC.mk Tryd.call32
@[reducible, instance] def fc33 := FunC.mk Tryd.call33
@[reducible, instance] def fc34 := FunC.mk Tryd.call34
@[reducible, instance] def fc35 := FunC.mk Tryd.call35
@[reducible, instance] def fc36 := FunC.mk Tryd.call36
@[reducible, instance] def fc37 := FunC.mk Tryd.call37
@[reducible, instance] def fc38 := FunC.mk Tryd.call38
@[reducible, instance] def fc39 := FunC.mk Tryd.call39
@[reducible, instance] def fc40 := FunC.mk Tryd.call40
@[reducible, instance] def fc41 := FunC.mk Tryd.call41
@[reducible, instance] def fc42 := FunC.mk Tryd.call42
@[reducible, instance] def fc43 := FunC.mk Tryd.call43
@[reducible, instance] def fc44 := FunC.mk Tryd.call44
@[reducible, instance] def fc45 := FunC.mk Tryd.call45
@[reducible, instance] def fc46 := FunC.mk Tryd.call46
@[reducible, instance] def fc47 := FunC.mk Tryd.call47
@[reducible, instance] def fc48 := FunC.mk Tryd.call48
@[reducible, instance] def fc49 := FunC.mk Tryd.call49
@[reducible, instance] def fc50 := FunC.mk Tryd.call50
@[reducible, instance] def fc51 := FunC.mk Tryd.call51
@[reducible, instance] def fc52 := FunC.mk Tryd.call52
@[reducible, instance] def fc53 := FunC.mk Tryd.call53
@[reducible, instance] def fc54 := FunC.mk Tryd.call54
@[reducible, instance] def fc55 := FunC.mk Tryd.call55
@[reducible, instance] def fc56 := FunC.mk Tryd.call56
@[reducible, instance] def fc57 := FunC.mk Tryd.call57
@[reducible, instance] def fc58 := FunC.mk Tryd.call58
@[reducible, instance] def fc59 := FunC.mk Tryd.call59
@[reducible, instance] def fc60 := FunC.mk Tryd.call60
@[reducible, instance] def fc61 := FunC.mk Tryd.call61
@[reducible, instance] def fc62 := FunC.mk Tryd.call62
@[reducible, instance] def fc63 := FunC.mk Tryd.call63
@[reducible, instance] def fc64 := FunC.mk Tryd.call64
@[reducible, instance] def fc65 := FunC.mk Tryd.call65
@[reducible, instance] def fc66 := FunC.mk Tryd.call66
@[reducible, instance] def fc67 := FunC.mk Tryd.call67
@[reducible, instance] def fc68 := FunC.mk Tryd.call68
@[reducible, instance] def fc71 := FunC.mk Tryd.call71
@[reducible, instance] def fc72 := FunC.mk Tryd.call72
@[reducible, instance] def fc73 := FunC.mk Tryd.call73
@[reducible, instance] def fc74 := FunC.mk Tryd.call74
@[reducible, instance] def fc75 := FunC.mk Tryd.call75
@[reducible, instance] def fc76 := FunC.mk Tryd.call76
@[reducible, instance] def fc77 := FunC.mk Tryd.call77
@[reducible, instance] def fc78 := FunC.mk Tryd.call78
@[reducible, instance] def fc79 := FunC.mk Tryd.call79
@[reducible, instance] def fc80 := FunC.mk Tryd.call80
@[reducible, instance] def fc81 := FunC.mk Tryd.call81
@[reducible, instance] def fc82 := FunC.mk Tryd.call82
@[reducible, instance] def fc83 := FunC.mk Tryd.call83
@[reducible, instance] def fc84 := FunC.mk Tryd.call84
@[reducible, instance] def fc85 := FunC.mk Tryd.call85
@[reducible, instance] def fc113 := FunC.mk Tryd.call113
@[reducible, instance] def mixI : MixC Tryd.prog := ⟨by kernel_rfl⟩
end Go.Proofs.YtaehbjmimnjggaaDoor
