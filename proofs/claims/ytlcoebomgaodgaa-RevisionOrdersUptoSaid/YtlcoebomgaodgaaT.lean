/-
  The facts on types and functions, as instances. Written by wip/tools/table.py.
-/
import Derived.Test.YtlcoebomgaodgaaProg
import Derived.Test.YtlcoebomgaodgaaA7
import Derived.KernelRfl
namespace Go.Proofs.Ytlcoebomgaodgaa
open Go

@[reducible, instance] def yc1 := TyC.mk (P := Try.prog) Try.isAgg1 Try.sizeOf1
@[reducible, instance] def uc1 := UndC.mk Try.underlying1
@[reducible, instance] def zl1 := ZeroL.ofOne Try.zeroValue1
@[reducible, instance] def ic1 : InfoC Try.prog 1 8 := ⟨⟨_, Try.type1, rfl⟩⟩
@[reducible, instance] def yc2 := TyC.mk (P := Try.prog) Try.isAgg2 Try.sizeOf2
@[reducible, instance] def uc2 := UndC.mk Try.underlying2
@[reducible, instance] def zl2 := ZeroL.ofOne Try.zeroValue2
@[reducible, instance] def ic2 : InfoC Try.prog 2 8 := ⟨⟨_, Try.type2, rfl⟩⟩
@[reducible, instance] def yc3 := TyC.mk (P := Try.prog) Try.isAgg3 Try.sizeOf3
@[reducible, instance] def uc3 := UndC.mk Try.underlying3
@[reducible, instance] def zl3 := ZeroL.ofOne Try.zeroValue3
@[reducible, instance] def ic3 : InfoC Try.prog 3 8 := ⟨⟨_, Try.type3, rfl⟩⟩
@[reducible, instance] def yc4 := TyC.mk (P := Try.prog) Try.isAgg4 Try.sizeOf4
@[reducible, instance] def uc4 := UndC.mk Try.underlying4
@[reducible, instance] def zl4 := ZeroL.ofOne Try.zeroValue4
@[reducible, instance] def ic4 : InfoC Try.prog 4 1 := ⟨⟨_, Try.type4, rfl⟩⟩
@[reducible, instance] def yc5 := TyC.mk (P := Try.prog) Try.isAgg5 Try.sizeOf5
@[reducible, instance] def uc5 := UndC.mk Try.underlying5
@[reducible, instance] def zl5 := ZeroL.ofOne Try.zeroValue5
@[reducible, instance] def ic5 : InfoC Try.prog 5 1 := ⟨⟨_, Try.type5, rfl⟩⟩
@[reducible, instance] def yc6 := TyC.mk (P := Try.prog) Try.isAgg6 Try.sizeOf6
@[reducible, instance] def uc6 := UndC.mk Try.underlying6
@[reducible, instance] def zl6 := ZeroL.ofOne Try.zeroValue6
@[reducible, instance] def ic6 : InfoC Try.prog 6 1 := ⟨⟨_, Try.type6, rfl⟩⟩
@[reducible, instance] def yc7 := TyC.mk (P := Try.prog) Try.isAgg7 Try.sizeOf7
@[reducible, instance] def uc7 := UndC.mk Try.underlying7
@[reducible, instance] def zl7 := ZeroL.ofAgg Try.zeroValue7
@[reducible, instance] def ic7 : InfoC Try.prog 7 24 := ⟨⟨_, Try.type7, rfl⟩⟩
@[reducible, instance] def fl7_0 : FieldC Try.prog 7 0 2 0 := ⟨⟨_, _, Try.underlying7, rfl, rfl, rfl⟩⟩
@[reducible, instance] def fl7_1 : FieldC Try.prog 7 1 3 1 := ⟨⟨_, _, Try.underlying7, rfl, rfl, rfl⟩⟩
@[reducible, instance] def fl7_2 : FieldC Try.prog 7 2 4 2 := ⟨⟨_, _, Try.underlying7, rfl, rfl, rfl⟩⟩
@[reducible, instance] def fl7_3 : FieldC Try.prog 7 3 6 3 := ⟨⟨_, _, Try.underlying7, rfl, rfl, rfl⟩⟩
@[reducible, instance] def yc8 := TyC.mk (P := Try.prog) Try.isAgg8 Try.sizeOf8
@[reducible, instance] def uc8 := UndC.mk Try.underlying8
@[reducible, instance] def zl8 := ZeroL.ofAgg Try.zeroValue8
@[reducible, instance] def ic8 : InfoC Try.prog 8 24 := ⟨⟨_, Try.type8, rfl⟩⟩
@[reducible, instance] def fl8_0 : FieldC Try.prog 8 0 2 0 := ⟨⟨_, _, Try.underlying8, rfl, rfl, rfl⟩⟩
@[reducible, instance] def fl8_1 : FieldC Try.prog 8 1 3 1 := ⟨⟨_, _, Try.underlying8, rfl, rfl, rfl⟩⟩
@[reducible, instance] def fl8_2 : FieldC Try.prog 8 2 4 2 := ⟨⟨_, _, Try.underlying8, rfl, rfl, rfl⟩⟩
@[reducible, instance] def fl8_3 : FieldC Try.prog 8 3 6 3 := ⟨⟨_, _, Try.underlying8, rfl, rfl, rfl⟩⟩
@[reducible, instance] def yc9 := TyC.mk (P := Try.prog) Try.isAgg9 Try.sizeOf9
@[reducible, instance] def uc9 := UndC.mk Try.underlying9
@[reducible, instance] def zl9 := ZeroL.ofOne Try.zeroValue9
@[reducible, instance] def ic9 : InfoC Try.prog 9 16 := ⟨⟨_, Try.type9, rfl⟩⟩
@[reducible, instance] def yc10 := TyC.mk (P := Try.prog) Try.isAgg10 Try.sizeOf10
@[reducible, instance] def uc10 := UndC.mk Try.underlying10
@[reducible, instance] def zl10 := ZeroL.ofOne Try.zeroValue10
@[reducible, instance] def ic10 : InfoC Try.prog 10 16 := ⟨⟨_, Try.type10, rfl⟩⟩
@[reducible, instance] def yc11 := TyC.mk (P := Try.prog) Try.isAgg11 Try.sizeOf11
@[reducible, instance] def uc11 := UndC.mk Try.underlying11
@[reducible, instance] def zl11 := ZeroL.ofOne Try.zeroValue11
@[reducible, instance] def ic11 : InfoC Try.prog 11 16 := ⟨⟨_, Try.type11, rfl⟩⟩
@[reducible, instance] def yc12 := TyC.mk (P := Try.prog) Try.isAgg12 Try.sizeOf12
@[reducible, instance] def uc12 := UndC.mk Try.underlying12
@[reducible, instance] def zl12 := ZeroL.ofOne Try.zeroValue12
@[reducible, instance] def ic12 : InfoC Try.prog 12 8 := ⟨⟨_, Try.type12, rfl⟩⟩
@[reducible, instance] def yc13 := TyC.mk (P := Try.prog) Try.isAgg13 Try.sizeOf13
@[reducible, instance] def uc13 := UndC.mk Try.underlying13
@[reducible, instance] def zl13 := ZeroL.ofAgg Try.zeroValue13
@[reducible, instance] def ic13 : InfoC Try.prog 13 24 := ⟨⟨_, Try.type13, rfl⟩⟩
@[reducible, instance] def fl13_0 : FieldC Try.prog 13 0 9 0 := ⟨⟨_, _, Try.underlying13, rfl, rfl, rfl⟩⟩
@[reducible, instance] def fl13_1 : FieldC Try.prog 13 1 12 1 := ⟨⟨_, _, Try.underlying13, rfl, rfl, rfl⟩⟩
@[reducible, instance] def yc14 := TyC.mk (P := Try.prog) Try.isAgg14 Try.sizeOf14
@[reducible, instance] def uc14 := UndC.mk Try.underlying14
@[reducible, instance] def zl14 := ZeroL.ofAgg Try.zeroValue14
@[reducible, instance] def ic14 : InfoC Try.prog 14 24 := ⟨⟨_, Try.type14, rfl⟩⟩
@[reducible, instance] def fl14_0 : FieldC Try.prog 14 0 9 0 := ⟨⟨_, _, Try.underlying14, rfl, rfl, rfl⟩⟩
@[reducible, instance] def fl14_1 : FieldC Try.prog 14 1 12 1 := ⟨⟨_, _, Try.underlying14, rfl, rfl, rfl⟩⟩
@[reducible, instance] def yc15 := TyC.mk (P := Try.prog) Try.isAgg15 Try.sizeOf15
@[reducible, instance] def uc15 := UndC.mk Try.underlying15
@[reducible, instance] def zl15 := ZeroL.ofOne Try.zeroValue15
@[reducible, instance] def ic15 : InfoC Try.prog 15 8 := ⟨⟨_, Try.type15, rfl⟩⟩
@[reducible, instance] def yc16 := TyC.mk (P := Try.prog) Try.isAgg16 Try.sizeOf16
@[reducible, instance] def uc16 := UndC.mk Try.underlying16
@[reducible, instance] def zl16 := ZeroL.ofOne Try.zeroValue16
@[reducible, instance] def ic16 : InfoC Try.prog 16 8 := ⟨⟨_, Try.type16, rfl⟩⟩
@[reducible, instance] def yc17 := TyC.mk (P := Try.prog) Try.isAgg17 Try.sizeOf17
@[reducible, instance] def uc17 := UndC.mk Try.underlying17
@[reducible, instance] def zl17 := ZeroL.ofOne Try.zeroValue17
@[reducible, instance] def ic17 : InfoC Try.prog 17 8 := ⟨⟨_, Try.type17, rfl⟩⟩
@[reducible, instance] def yc18 := TyC.mk (P := Try.prog) Try.isAgg18 Try.sizeOf18
@[reducible, instance] def uc18 := UndC.mk Try.underlying18
@[reducible, instance] def zl18 := ZeroL.ofAgg Try.zeroValue18
@[reducible, instance] def ic18 : InfoC Try.prog 18 8 := ⟨⟨_, Try.type18, rfl⟩⟩
@[reducible, instance] def fl18_0 : FieldC Try.prog 18 0 17 0 := ⟨⟨_, _, Try.underlying18, rfl, rfl, rfl⟩⟩
@[reducible, instance] def yc19 := TyC.mk (P := Try.prog) Try.isAgg19 Try.sizeOf19
@[reducible, instance] def uc19 := UndC.mk Try.underlying19
@[reducible, instance] def zl19 := ZeroL.ofAgg Try.zeroValue19
@[reducible, instance] def ic19 : InfoC Try.prog 19 8 := ⟨⟨_, Try.type19, rfl⟩⟩
@[reducible, instance] def fl19_0 : FieldC Try.prog 19 0 17 0 := ⟨⟨_, _, Try.underlying19, rfl, rfl, rfl⟩⟩
@[reducible, instance] def yc20 := TyC.mk (P := Try.prog) Try.isAgg20 Try.sizeOf20
@[reducible, instance] def uc20 := UndC.mk Try.underlying20
@[reducible, instance] def zl20 := ZeroL.ofOne Try.zeroValue20
@[reducible, instance] def ic20 : InfoC Try.prog 20 16 := ⟨⟨_, Try.type20, rfl⟩⟩
@[reducible, instance] def yc21 := TyC.mk (P := Try.prog) Try.isAgg21 Try.sizeOf21
@[reducible, instance] def uc21 := UndC.mk Try.underlying21
@[reducible, instance] def zl21 := ZeroL.ofOne Try.zeroValue21
@[reducible, instance] def ic21 : InfoC Try.prog 21 4 := ⟨⟨_, Try.type21, rfl⟩⟩
@[reducible, instance] def yc22 := TyC.mk (P := Try.prog) Try.isAgg22 Try.sizeOf22
@[reducible, instance] def uc22 := UndC.mk Try.underlying22
@[reducible, instance] def zl22 := ZeroL.ofAgg Try.zeroValue22
@[reducible, instance] def ic22 : InfoC Try.prog 22 32 := ⟨⟨_, Try.type22, rfl⟩⟩
@[reducible, instance] def fl22_0 : FieldC Try.prog 22 0 3 0 := ⟨⟨_, _, Try.underlying22, rfl, rfl, rfl⟩⟩
@[reducible, instance] def fl22_1 : FieldC Try.prog 22 1 9 1 := ⟨⟨_, _, Try.underlying22, rfl, rfl, rfl⟩⟩
@[reducible, instance] def fl22_2 : FieldC Try.prog 22 2 3 2 := ⟨⟨_, _, Try.underlying22, rfl, rfl, rfl⟩⟩
@[reducible, instance] def yc23 := TyC.mk (P := Try.prog) Try.isAgg23 Try.sizeOf23
@[reducible, instance] def uc23 := UndC.mk Try.underlying23
@[reducible, instance] def zl23 := ZeroL.ofAgg Try.zeroValue23
@[reducible, instance] def ic23 : InfoC Try.prog 23 32 := ⟨⟨_, Try.type23, rfl⟩⟩
@[reducible, instance] def fl23_0 : FieldC Try.prog 23 0 3 0 := ⟨⟨_, _, Try.underlying23, rfl, rfl, rfl⟩⟩
@[reducible, instance] def fl23_1 : FieldC Try.prog 23 1 9 1 := ⟨⟨_, _, Try.underlying23, rfl, rfl, rfl⟩⟩
@[reducible, instance] def fl23_2 : FieldC Try.prog 23 2 3 2 := ⟨⟨_, _, Try.underlying23, rfl, rfl, rfl⟩⟩
@[reducible, instance] def yc24 := TyC.mk (P := Try.prog) Try.isAgg24 Try.sizeOf24
@[reducible, instance] def uc24 := UndC.mk Try.underlying24
@[reducible, instance] def zl24 := ZeroL.ofOne Try.zeroValue24
@[reducible, instance] def ic24 : InfoC Try.prog 24 24 := ⟨⟨_, Try.type24, rfl⟩⟩
@[reducible, instance] def yc25 := TyC.mk (P := Try.prog) Try.isAgg25 Try.sizeOf25
@[reducible, instance] def uc25 := UndC.mk Try.underlying25
@[reducible, instance] def zl25 := ZeroL.ofOne Try.zeroValue25
@[reducible, instance] def ic25 : InfoC Try.prog 25 8 := ⟨⟨_, Try.type25, rfl⟩⟩
@[reducible, instance] def yc26 := TyC.mk (P := Try.prog) Try.isAgg26 Try.sizeOf26
@[reducible, instance] def uc26 := UndC.mk Try.underlying26
@[reducible, instance] def zl26 := ZeroL.ofOne Try.zeroValue26
@[reducible, instance] def ic26 : InfoC Try.prog 26 8 := ⟨⟨_, Try.type26, rfl⟩⟩
@[reducible, instance] def yc27 := TyC.mk (P := Try.prog) Try.isAgg27 Try.sizeOf27
@[reducible, instance] def uc27 := UndC.mk Try.underlying27
@[reducible, instance] def zl27 := ZeroL.ofOne Try.zeroValue27
@[reducible, instance] def ic27 : InfoC Try.prog 27 8 := ⟨⟨_, Try.type27, rfl⟩⟩
@[reducible, instance] def yc28 := TyC.mk (P := Try.prog) Try.isAgg28 Try.sizeOf28
@[reducible, instance] def uc28 := UndC.mk Try.underlying28
@[reducible, instance] def zl28 := ZeroL.ofOne Try.zeroValue28
@[reducible, instance] def ic28 : InfoC Try.prog 28 8 := ⟨⟨_, Try.type28, rfl⟩⟩
@[reducible, instance] def yc29 := TyC.mk (P := Try.prog) Try.isAgg29 Try.sizeOf29
@[reducible, instance] def uc29 := UndC.mk Try.underlying29
@[reducible, instance] def zl29 := ZeroL.ofOne Try.zeroValue29
@[reducible, instance] def ic29 : InfoC Try.prog 29 8 := ⟨⟨_, Try.type29, rfl⟩⟩
@[reducible, instance] def yc30 := TyC.mk (P := Try.prog) Try.isAgg30 Try.sizeOf30
@[reducible, instance] def uc30 := UndC.mk Try.underlying30
@[reducible, instance] def zl30 := ZeroL.ofOne Try.zeroValue30
@[reducible, instance] def ic30 : InfoC Try.prog 30 8 := ⟨⟨_, Try.type30, rfl⟩⟩
@[reducible, instance] def yc31 := TyC.mk (P := Try.prog) Try.isAgg31 Try.sizeOf31
@[reducible, instance] def uc31 := UndC.mk Try.underlying31
@[reducible, instance] def zl31 := ZeroL.ofOne Try.zeroValue31
@[reducible, instance] def ic31 : InfoC Try.prog 31 8 := ⟨⟨_, Try.type31, rfl⟩⟩
@[reducible, instance] def yc33 := TyC.mk (P := Try.prog) Try.isAgg33 Try.sizeOf33
@[reducible, instance] def uc33 := UndC.mk Try.underlying33
@[reducible, instance] def zl33 := ZeroL.ofOne Try.zeroValue33
@[reducible, instance] def ic33 : InfoC Try.prog 33 8 := ⟨⟨_, Try.type33, rfl⟩⟩
@[reducible, instance] def yc34 := TyC.mk (P := Try.prog) Try.isAgg34 Try.sizeOf34
@[reducible, instance] def uc34 := UndC.mk Try.underlying34
@[reducible, instance] def zl34 := ZeroL.ofOne Try.zeroValue34
@[reducible, instance] def ic34 : InfoC Try.prog 34 8 := ⟨⟨_, Try.type34, rfl⟩⟩
@[reducible, instance] def yc36 := TyC.mk (P := Try.prog) Try.isAgg36 Try.sizeOf36
@[reducible, instance] def uc36 := UndC.mk Try.underlying36
@[reducible, instance] def zl36 := ZeroL.ofOne Try.zeroValue36
@[reducible, instance] def ic36 : InfoC Try.prog 36 8 := ⟨⟨_, Try.type36, rfl⟩⟩
@[reducible, instance] def yc37 := TyC.mk (P := Try.prog) Try.isAgg37 Try.sizeOf37
@[reducible, instance] def uc37 := UndC.mk Try.underlying37
@[reducible, instance] def zl37 := ZeroL.ofOne Try.zeroValue37
@[reducible, instance] def ic37 : InfoC Try.prog 37 8 := ⟨⟨_, Try.type37, rfl⟩⟩
@[reducible, instance] def yc38 := TyC.mk (P := Try.prog) Try.isAgg38 Try.sizeOf38
@[reducible, instance] def uc38 := UndC.mk Try.underlying38
@[reducible, instance] def zl38 := ZeroL.ofOne Try.zeroValue38
@[reducible, instance] def ic38 : InfoC Try.prog 38 8 := ⟨⟨_, Try.type38, rfl⟩⟩
@[reducible, instance] def yc39 := TyC.mk (P := Try.prog) Try.isAgg39 Try.sizeOf39
@[reducible, instance] def uc39 := UndC.mk Try.underlying39
@[reducible, instance] def zl39 := ZeroL.ofOne Try.zeroValue39
@[reducible, instance] def ic39 : InfoC Try.prog 39 8 := ⟨⟨_, Try.type39, rfl⟩⟩
@[reducible, instance] def yc40 := TyC.mk (P := Try.prog) Try.isAgg40 Try.sizeOf40
@[reducible, instance] def uc40 := UndC.mk Try.underlying40
@[reducible, instance] def zl40 := ZeroL.ofOne Try.zeroValue40
@[reducible, instance] def ic40 : InfoC Try.prog 40 24 := ⟨⟨_, Try.type40, rfl⟩⟩
@[reducible, instance] def yc41 := TyC.mk (P := Try.prog) Try.isAgg41 Try.sizeOf41
@[reducible, instance] def uc41 := UndC.mk Try.underlying41
@[reducible, instance] def zl41 := ZeroL.ofOne Try.zeroValue41
@[reducible, instance] def ic41 : InfoC Try.prog 41 24 := ⟨⟨_, Try.type41, rfl⟩⟩
@[reducible, instance] def yc42 := TyC.mk (P := Try.prog) Try.isAgg42 Try.sizeOf42
@[reducible, instance] def uc42 := UndC.mk Try.underlying42
@[reducible, instance] def zl42 := ZeroL.ofAgg Try.zeroValue42
@[reducible, instance] def ic42 : InfoC Try.prog 42 64 := ⟨⟨_, Try.type42, rfl⟩⟩
@[reducible, instance] def fl42_0 : FieldC Try.prog 42 0 40 0 := ⟨⟨_, _, Try.underlying42, rfl, rfl, rfl⟩⟩
@[reducible, instance] def fl42_1 : FieldC Try.prog 42 1 3 1 := ⟨⟨_, _, Try.underlying42, rfl, rfl, rfl⟩⟩
@[reducible, instance] def fl42_2 : FieldC Try.prog 42 2 3 2 := ⟨⟨_, _, Try.underlying42, rfl, rfl, rfl⟩⟩
@[reducible, instance] def fl42_3 : FieldC Try.prog 42 3 41 3 := ⟨⟨_, _, Try.underlying42, rfl, rfl, rfl⟩⟩
@[reducible, instance] def yc43 := TyC.mk (P := Try.prog) Try.isAgg43 Try.sizeOf43
@[reducible, instance] def uc43 := UndC.mk Try.underlying43
@[reducible, instance] def zl43 := ZeroL.ofAgg Try.zeroValue43
@[reducible, instance] def ic43 : InfoC Try.prog 43 64 := ⟨⟨_, Try.type43, rfl⟩⟩
@[reducible, instance] def fl43_0 : FieldC Try.prog 43 0 40 0 := ⟨⟨_, _, Try.underlying43, rfl, rfl, rfl⟩⟩
@[reducible, instance] def fl43_1 : FieldC Try.prog 43 1 3 1 := ⟨⟨_, _, Try.underlying43, rfl, rfl, rfl⟩⟩
@[reducible, instance] def fl43_2 : FieldC Try.prog 43 2 3 2 := ⟨⟨_, _, Try.underlying43, rfl, rfl, rfl⟩⟩
@[reducible, instance] def fl43_3 : FieldC Try.prog 43 3 41 3 := ⟨⟨_, _, Try.underlying43, rfl, rfl, rfl⟩⟩
@[reducible, instance] def yc44 := TyC.mk (P := Try.prog) Try.isAgg44 Try.sizeOf44
@[reducible, instance] def uc44 := UndC.mk Try.underlying44
@[reducible, instance] def zl44 := ZeroL.ofOne Try.zeroValue44
@[reducible, instance] def ic44 : InfoC Try.prog 44 8 := ⟨⟨_, Try.type44, rfl⟩⟩
@[reducible, instance] def yc45 := TyC.mk (P := Try.prog) Try.isAgg45 Try.sizeOf45
@[reducible, instance] def uc45 := UndC.mk Try.underlying45
@[reducible, instance] def zl45 := ZeroL.ofOne Try.zeroValue45
@[reducible, instance] def ic45 : InfoC Try.prog 45 8 := ⟨⟨_, Try.type45, rfl⟩⟩
@[reducible, instance] def yc46 := TyC.mk (P := Try.prog) Try.isAgg46 Try.sizeOf46
@[reducible, instance] def uc46 := UndC.mk Try.underlying46
@[reducible, instance] def zl46 := ZeroL.ofOne Try.zeroValue46
@[reducible, instance] def ic46 : InfoC Try.prog 46 8 := ⟨⟨_, Try.type46, rfl⟩⟩
@[reducible, instance] def yc47 := TyC.mk (P := Try.prog) Try.isAgg47 Try.sizeOf47
@[reducible, instance] def uc47 := UndC.mk Try.underlying47
@[reducible, instance] def zl47 := ZeroL.ofOne Try.zeroValue47
@[reducible, instance] def ic47 : InfoC Try.prog 47 8 := ⟨⟨_, Try.type47, rfl⟩⟩
@[reducible, instance] def yc48 := TyC.mk (P := Try.prog) Try.isAgg48 Try.sizeOf48
@[reducible, instance] def uc48 := UndC.mk Try.underlying48
@[reducible, instance] def zl48 := ZeroL.ofOne Try.zeroValue48
@[reducible, instance] def ic48 : InfoC Try.prog 48 8 := ⟨⟨_, Try.type48, rfl⟩⟩
@[reducible, instance] def yc49 := TyC.mk (P := Try.prog) Try.isAgg49 Try.sizeOf49
@[reducible, instance] def uc49 := UndC.mk Try.underlying49
@[reducible, instance] def zl49 := ZeroL.ofOne Try.zeroValue49
@[reducible, instance] def ic49 : InfoC Try.prog 49 8 := ⟨⟨_, Try.type49, rfl⟩⟩
@[reducible, instance] def yc50 := TyC.mk (P := Try.prog) Try.isAgg50 Try.sizeOf50
@[reducible, instance] def uc50 := UndC.mk Try.underlying50
@[reducible, instance] def zl50 := ZeroL.ofAgg Try.zeroValue50
@[reducible, instance] def ic50 : InfoC Try.prog 50 48 := ⟨⟨_, Try.type50, rfl⟩⟩
@[reducible, instance] def fl50_0 : FieldC Try.prog 50 0 41 0 := ⟨⟨_, _, Try.underlying50, rfl, rfl, rfl⟩⟩
@[reducible, instance] def fl50_1 : FieldC Try.prog 50 1 41 1 := ⟨⟨_, _, Try.underlying50, rfl, rfl, rfl⟩⟩
@[reducible, instance] def yc51 := TyC.mk (P := Try.prog) Try.isAgg51 Try.sizeOf51
@[reducible, instance] def uc51 := UndC.mk Try.underlying51
@[reducible, instance] def zl51 := ZeroL.ofAgg Try.zeroValue51
@[reducible, instance] def ic51 : InfoC Try.prog 51 48 := ⟨⟨_, Try.type51, rfl⟩⟩
@[reducible, instance] def fl51_0 : FieldC Try.prog 51 0 41 0 := ⟨⟨_, _, Try.underlying51, rfl, rfl, rfl⟩⟩
@[reducible, instance] def fl51_1 : FieldC Try.prog 51 1 41 1 := ⟨⟨_, _, Try.underlying51, rfl, rfl, rfl⟩⟩
@[reducible, instance] def yc52 := TyC.mk (P := Try.prog) Try.isAgg52 Try.sizeOf52
@[reducible, instance] def uc52 := UndC.mk Try.underlying52
@[reducible, instance] def zl52 := ZeroL.ofOne Try.zeroValue52
@[reducible, instance] def ic52 : InfoC Try.prog 52 8 := ⟨⟨_, Try.type52, rfl⟩⟩
@[reducible, instance] def yc53 := TyC.mk (P := Try.prog) Try.isAgg53 Try.sizeOf53
@[reducible, instance] def uc53 := UndC.mk Try.underlying53
@[reducible, instance] def zl53 := ZeroL.ofOne Try.zeroValue53
@[reducible, instance] def ic53 : InfoC Try.prog 53 8 := ⟨⟨_, Try.type53, rfl⟩⟩
@[reducible, instance] def yc54 := TyC.mk (P := Try.prog) Try.isAgg54 Try.sizeOf54
@[reducible, instance] def uc54 := UndC.mk Try.underlying54
@[reducible, instance] def zl54 := ZeroL.ofOne Try.zeroValue54
@[reducible, instance] def ic54 : InfoC Try.prog 54 2 := ⟨⟨_, Try.type54, rfl⟩⟩
@[reducible, instance] def yc55 := TyC.mk (P := Try.prog) Try.isAgg55 Try.sizeOf55
@[reducible, instance] def uc55 := UndC.mk Try.underlying55
@[reducible, instance] def zl55 := ZeroL.ofOne Try.zeroValue55
@[reducible, instance] def ic55 : InfoC Try.prog 55 8 := ⟨⟨_, Try.type55, rfl⟩⟩
@[reducible, instance] def yc56 := TyC.mk (P := Try.prog) Try.isAgg56 Try.sizeOf56
@[reducible, instance] def uc56 := UndC.mk Try.underlying56
@[reducible, instance] def zl56 := ZeroL.ofOne Try.zeroValue56
@[reducible, instance] def ic56 : InfoC Try.prog 56 8 := ⟨⟨_, Try.type56, rfl⟩⟩
@[reducible, instance] def yc58 := TyC.mk (P := Try.prog) Try.isAgg58 Try.sizeOf58
@[reducible, instance] def uc58 := UndC.mk Try.underlying58
@[reducible, instance] def zl58 := ZeroL.ofOne Try.zeroValue58
@[reducible, instance] def ic58 : InfoC Try.prog 58 8 := ⟨⟨_, Try.type58, rfl⟩⟩
@[reducible, instance] def yc59 := TyC.mk (P := Try.prog) Try.isAgg59 Try.sizeOf59
@[reducible, instance] def uc59 := UndC.mk Try.underlying59
@[reducible, instance] def zl59 := ZeroL.ofOne Try.zeroValue59
@[reducible, instance] def ic59 : InfoC Try.prog 59 8 := ⟨⟨_, Try.type59, rfl⟩⟩
@[reducible, instance] def yc60 := TyC.mk (P := Try.prog) Try.isAgg60 Try.sizeOf60
@[reducible, instance] def uc60 := UndC.mk Try.underlying60
@[reducible, instance] def zl60 := ZeroL.ofOne Try.zeroValue60
@[reducible, instance] def ic60 : InfoC Try.prog 60 8 := ⟨⟨_, Try.type60, rfl⟩⟩
@[reducible, instance] def yc61 := TyC.mk (P := Try.prog) Try.isAgg61 Try.sizeOf61
@[reducible, instance] def uc61 := UndC.mk Try.underlying61
@[reducible, instance] def zl61 := ZeroL.ofOne Try.zeroValue61
@[reducible, instance] def ic61 : InfoC Try.prog 61 8 := ⟨⟨_, Try.type61, rfl⟩⟩
@[reducible, instance] def yc62 := TyC.mk (P := Try.prog) Try.isAgg62 Try.sizeOf62
@[reducible, instance] def uc62 := UndC.mk Try.underlying62
@[reducible, instance] def zl62 := ZeroL.ofOne Try.zeroValue62
@[reducible, instance] def ic62 : InfoC Try.prog 62 8 := ⟨⟨_, Try.type62, rfl⟩⟩
@[reducible, instance] def yc63 := TyC.mk (P := Try.prog) Try.isAgg63 Try.sizeOf63
@[reducible, instance] def uc63 := UndC.mk Try.underlying63
@[reducible, instance] def zl63 := ZeroL.ofOne Try.zeroValue63
@[reducible, instance] def ic63 : InfoC Try.prog 63 24 := ⟨⟨_, Try.type63, rfl⟩⟩
@[reducible, instance] def yc64 := TyC.mk (P := Try.prog) Try.isAgg64 Try.sizeOf64
@[reducible, instance] def uc64 := UndC.mk Try.underlying64
@[reducible, instance] def zl64 := ZeroL.ofOne Try.zeroValue64
@[reducible, instance] def ic64 : InfoC Try.prog 64 8 := ⟨⟨_, Try.type64, rfl⟩⟩
@[reducible, instance] def yc65 := TyC.mk (P := Try.prog) Try.isAgg65 Try.sizeOf65
@[reducible, instance] def uc65 := UndC.mk Try.underlying65
@[reducible, instance] def zl65 := ZeroL.ofAgg Try.zeroValue65
@[reducible, instance] def ic65 : InfoC Try.prog 65 40 := ⟨⟨_, Try.type65, rfl⟩⟩
@[reducible, instance] def fl65_0 : FieldC Try.prog 65 0 9 0 := ⟨⟨_, _, Try.underlying65, rfl, rfl, rfl⟩⟩
@[reducible, instance] def fl65_1 : FieldC Try.prog 65 1 3 1 := ⟨⟨_, _, Try.underlying65, rfl, rfl, rfl⟩⟩
@[reducible, instance] def fl65_2 : FieldC Try.prog 65 2 3 2 := ⟨⟨_, _, Try.underlying65, rfl, rfl, rfl⟩⟩
@[reducible, instance] def fl65_3 : FieldC Try.prog 65 3 3 3 := ⟨⟨_, _, Try.underlying65, rfl, rfl, rfl⟩⟩
@[reducible, instance] def yc66 := TyC.mk (P := Try.prog) Try.isAgg66 Try.sizeOf66
@[reducible, instance] def uc66 := UndC.mk Try.underlying66
@[reducible, instance] def zl66 := ZeroL.ofAgg Try.zeroValue66
@[reducible, instance] def ic66 : InfoC Try.prog 66 40 := ⟨⟨_, Try.type66, rfl⟩⟩
@[reducible, instance] def fl66_0 : FieldC Try.prog 66 0 9 0 := ⟨⟨_, _, Try.underlying66, rfl, rfl, rfl⟩⟩
@[reducible, instance] def fl66_1 : FieldC Try.prog 66 1 3 1 := ⟨⟨_, _, Try.underlying66, rfl, rfl, rfl⟩⟩
@[reducible, instance] def fl66_2 : FieldC Try.prog 66 2 3 2 := ⟨⟨_, _, Try.underlying66, rfl, rfl, rfl⟩⟩
@[reducible, instance] def fl66_3 : FieldC Try.prog 66 3 3 3 := ⟨⟨_, _, Try.underlying66, rfl, rfl, rfl⟩⟩
@[reducible, instance] def yc67 := TyC.mk (P := Try.prog) Try.isAgg67 Try.sizeOf67
@[reducible, instance] def uc67 := UndC.mk Try.underlying67
@[reducible, instance] def zl67 := ZeroL.ofOne Try.zeroValue67
@[reducible, instance] def ic67 : InfoC Try.prog 67 8 := ⟨⟨_, Try.type67, rfl⟩⟩
@[reducible, instance] def yc68 := TyC.mk (P := Try.prog) Try.isAgg68 Try.sizeOf68
@[reducible, instance] def uc68 := UndC.mk Try.underlying68
@[reducible, instance] def zl68 := ZeroL.ofOne Try.zeroValue68
@[reducible, instance] def ic68 : InfoC Try.prog 68 8 := ⟨⟨_, Try.type68, rfl⟩⟩
@[reducible, instance] def yc69 := TyC.mk (P := Try.prog) Try.isAgg69 Try.sizeOf69
@[reducible, instance] def uc69 := UndC.mk Try.underlying69
@[reducible, instance] def zl69 := ZeroL.ofOne Try.zeroValue69
@[reducible, instance] def ic69 : InfoC Try.prog 69 8 := ⟨⟨_, Try.type69, rfl⟩⟩
@[reducible, instance] def yc70 := TyC.mk (P := Try.prog) Try.isAgg70 Try.sizeOf70
@[reducible, instance] def uc70 := UndC.mk Try.underlying70
@[reducible, instance] def zl70 := ZeroL.ofOne Try.zeroValue70
@[reducible, instance] def ic70 : InfoC Try.prog 70 24 := ⟨⟨_, Try.type70, rfl⟩⟩
@[reducible, instance] def yc72 := TyC.mk (P := Try.prog) Try.isAgg72 Try.sizeOf72
@[reducible, instance] def uc72 := UndC.mk Try.underlying72
@[reducible, instance] def zl72 := ZeroL.ofOne Try.zeroValue72
@[reducible, instance] def ic72 : InfoC Try.prog 72 8 := ⟨⟨_, Try.type72, rfl⟩⟩
@[reducible, instance] def yc73 := TyC.mk (P := Try.prog) Try.isAgg73 Try.sizeOf73
@[reducible, instance] def uc73 := UndC.mk Try.underlying73
@[reducible, instance] def zl73 := ZeroL.ofOne Try.zeroValue73
@[reducible, instance] def ic73 : InfoC Try.prog 73 8 := ⟨⟨_, Try.type73, rfl⟩⟩
@[reducible, instance] def yc74 := TyC.mk (P := Try.prog) Try.isAgg74 Try.sizeOf74
@[reducible, instance] def uc74 := UndC.mk Try.underlying74
@[reducible, instance] def zl74 := ZeroL.ofOne Try.zeroValue74
@[reducible, instance] def ic74 : InfoC Try.prog 74 8 := ⟨⟨_, Try.type74, rfl⟩⟩
@[reducible, instance] def yc75 := TyC.mk (P := Try.prog) Try.isAgg75 Try.sizeOf75
@[reducible, instance] def uc75 := UndC.mk Try.underlying75
@[reducible, instance] def zl75 := ZeroL.ofOne Try.zeroValue75
@[reducible, instance] def ic75 : InfoC Try.prog 75 8 := ⟨⟨_, Try.type75, rfl⟩⟩
@[reducible, instance] def yc76 := TyC.mk (P := Try.prog) Try.isAgg76 Try.sizeOf76
@[reducible, instance] def uc76 := UndC.mk Try.underlying76
@[reducible, instance] def zl76 := ZeroL.ofOne Try.zeroValue76
@[reducible, instance] def ic76 : InfoC Try.prog 76 8 := ⟨⟨_, Try.type76, rfl⟩⟩
@[reducible, instance] def yc77 := TyC.mk (P := Try.prog) Try.isAgg77 Try.sizeOf77
@[reducible, instance] def uc77 := UndC.mk Try.underlying77
@[reducible, instance] def zl77 := ZeroL.ofOne Try.zeroValue77
@[reducible, instance] def ic77 : InfoC Try.prog 77 8 := ⟨⟨_, Try.type77, rfl⟩⟩
@[reducible, instance] def yc78 := TyC.mk (P := Try.prog) Try.isAgg78 Try.sizeOf78
@[reducible, instance] def uc78 := UndC.mk Try.underlying78
@[reducible, instance] def zl78 := ZeroL.ofOne Try.zeroValue78
@[reducible, instance] def ic78 : InfoC Try.prog 78 8 := ⟨⟨_, Try.type78, rfl⟩⟩
@[reducible, instance] def yc79 := TyC.mk (P := Try.prog) Try.isAgg79 Try.sizeOf79
@[reducible, instance] def uc79 := UndC.mk Try.underlying79
@[reducible, instance] def zl79 := ZeroL.ofOne Try.zeroValue79
@[reducible, instance] def ic79 : InfoC Try.prog 79 8 := ⟨⟨_, Try.type79, rfl⟩⟩
@[reducible, instance] def yc80 := TyC.mk (P := Try.prog) Try.isAgg80 Try.sizeOf80
@[reducible, instance] def uc80 := UndC.mk Try.underlying80
@[reducible, instance] def zl80 := ZeroL.ofOne Try.zeroValue80
@[reducible, instance] def ic80 : InfoC Try.prog 80 8 := ⟨⟨_, Try.type80, rfl⟩⟩
@[reducible, instance] def yc81 := TyC.mk (P := Try.prog) Try.isAgg81 Try.sizeOf81
@[reducible, instance] def uc81 := UndC.mk Try.underlying81
@[reducible, instance] def zl81 := ZeroL.ofOne Try.zeroValue81
@[reducible, instance] def ic81 : InfoC Try.prog 81 8 := ⟨⟨_, Try.type81, rfl⟩⟩
@[reducible, instance] def yc82 := TyC.mk (P := Try.prog) Try.isAgg82 Try.sizeOf82
@[reducible, instance] def uc82 := UndC.mk Try.underlying82
@[reducible, instance] def zl82 := ZeroL.ofOne Try.zeroValue82
@[reducible, instance] def ic82 : InfoC Try.prog 82 8 := ⟨⟨_, Try.type82, rfl⟩⟩
@[reducible, instance] def yc83 := TyC.mk (P := Try.prog) Try.isAgg83 Try.sizeOf83
@[reducible, instance] def uc83 := UndC.mk Try.underlying83
@[reducible, instance] def zl83 := ZeroL.ofOne Try.zeroValue83
@[reducible, instance] def ic83 : InfoC Try.prog 83 8 := ⟨⟨_, Try.type83, rfl⟩⟩
@[reducible, instance] def yc84 := TyC.mk (P := Try.prog) Try.isAgg84 Try.sizeOf84
@[reducible, instance] def uc84 := UndC.mk Try.underlying84
@[reducible, instance] def zl84 := ZeroL.ofOne Try.zeroValue84
@[reducible, instance] def ic84 : InfoC Try.prog 84 8 := ⟨⟨_, Try.type84, rfl⟩⟩
@[reducible, instance] def yc85 := TyC.mk (P := Try.prog) Try.isAgg85 Try.sizeOf85
@[reducible, instance] def uc85 := UndC.mk Try.underlying85
@[reducible, instance] def zl85 := ZeroL.ofOne Try.zeroValue85
@[reducible, instance] def ic85 : InfoC Try.prog 85 8 := ⟨⟨_, Try.type85, rfl⟩⟩
@[reducible, instance] def yc87 := TyC.mk (P := Try.prog) Try.isAgg87 Try.sizeOf87
@[reducible, instance] def uc87 := UndC.mk Try.underlying87
@[reducible, instance] def zl87 := ZeroL.ofOne Try.zeroValue87
@[reducible, instance] def ic87 : InfoC Try.prog 87 8 := ⟨⟨_, Try.type87, rfl⟩⟩
@[reducible, instance] def yc88 := TyC.mk (P := Try.prog) Try.isAgg88 Try.sizeOf88
@[reducible, instance] def uc88 := UndC.mk Try.underlying88
@[reducible, instance] def zl88 := ZeroL.ofOne Try.zeroValue88
@[reducible, instance] def ic88 : InfoC Try.prog 88 8 := ⟨⟨_, Try.type88, rfl⟩⟩
@[reducible, instance] def yc89 := TyC.mk (P := Try.prog) Try.isAgg89 Try.sizeOf89
@[reducible, instance] def uc89 := UndC.mk Try.underlying89
@[reducible, instance] def zl89 := ZeroL.ofOne Try.zeroValue89
@[reducible, instance] def ic89 : InfoC Try.prog 89 8 := ⟨⟨_, Try.type89, rfl⟩⟩
@[reducible, instance] def yc90 := TyC.mk (P := Try.prog) Try.isAgg90 Try.sizeOf90
@[reducible, instance] def uc90 := UndC.mk Try.underlying90
@[reducible, instance] def zl90 := ZeroL.ofOne Try.zeroValue90
@[reducible, instance] def ic90 : InfoC Try.prog 90 8 := ⟨⟨_, Try.type90, rfl⟩⟩
@[reducible, instance] def yc91 := TyC.mk (P := Try.prog) Try.isAgg91 Try.sizeOf91
@[reducible, instance] def uc91 := UndC.mk Try.underlying91
@[reducible, instance] def zl91 := ZeroL.ofOne Try.zeroValue91
@[reducible, instance] def ic91 : InfoC Try.prog 91 8 := ⟨⟨_, Try.type91, rfl⟩⟩
@[reducible, instance] def yc92 := TyC.mk (P := Try.prog) Try.isAgg92 Try.sizeOf92
@[reducible, instance] def uc92 := UndC.mk Try.underlying92
@[reducible, instance] def zl92 := ZeroL.ofOne Try.zeroValue92
@[reducible, instance] def ic92 : InfoC Try.prog 92 8 := ⟨⟨_, Try.type92, rfl⟩⟩
@[reducible, instance] def yc93 := TyC.mk (P := Try.prog) Try.isAgg93 Try.sizeOf93
@[reducible, instance] def uc93 := UndC.mk Try.underlying93
@[reducible, instance] def zl93 := ZeroL.ofOne Try.zeroValue93
@[reducible, instance] def ic93 : InfoC Try.prog 93 8 := ⟨⟨_, Try.type93, rfl⟩⟩
@[reducible, instance] def yc94 := TyC.mk (P := Try.prog) Try.isAgg94 Try.sizeOf94
@[reducible, instance] def uc94 := UndC.mk Try.underlying94
@[reducible, instance] def zl94 := ZeroL.ofOne Try.zeroValue94
@[reducible, instance] def ic94 : InfoC Try.prog 94 8 := ⟨⟨_, Try.type94, rfl⟩⟩
@[reducible, instance] def yc95 := TyC.mk (P := Try.prog) Try.isAgg95 Try.sizeOf95
@[reducible, instance] def uc95 := UndC.mk Try.underlying95
@[reducible, instance] def zl95 := ZeroL.ofOne Try.zeroValue95
@[reducible, instance] def ic95 : InfoC Try.prog 95 8 := ⟨⟨_, Try.type95, rfl⟩⟩
@[reducible, instance] def yc96 := TyC.mk (P := Try.prog) Try.isAgg96 Try.sizeOf96
@[reducible, instance] def uc96 := UndC.mk Try.underlying96
@[reducible, instance] def zl96 := ZeroL.ofOne Try.zeroValue96
@[reducible, instance] def ic96 : InfoC Try.prog 96 8 := ⟨⟨_, Try.type96, rfl⟩⟩
@[reducible, instance] def yc97 := TyC.mk (P := Try.prog) Try.isAgg97 Try.sizeOf97
@[reducible, instance] def uc97 := UndC.mk Try.underlying97
@[reducible, instance] def zl97 := ZeroL.ofOne Try.zeroValue97
@[reducible, instance] def ic97 : InfoC Try.prog 97 8 := ⟨⟨_, Try.type97, rfl⟩⟩
@[reducible, instance] def yc98 := TyC.mk (P := Try.prog) Try.isAgg98 Try.sizeOf98
@[reducible, instance] def uc98 := UndC.mk Try.underlying98
@[reducible, instance] def zl98 := ZeroL.ofOne Try.zeroValue98
@[reducible, instance] def ic98 : InfoC Try.prog 98 8 := ⟨⟨_, Try.type98, rfl⟩⟩
@[reducible, instance] def yc99 := TyC.mk (P := Try.prog) Try.isAgg99 Try.sizeOf99
@[reducible, instance] def uc99 := UndC.mk Try.underlying99
@[reducible, instance] def zl99 := ZeroL.ofOne Try.zeroValue99
@[reducible, instance] def ic99 : InfoC Try.prog 99 8 := ⟨⟨_, Try.type99, rfl⟩⟩
@[reducible, instance] def yc100 := TyC.mk (P := Try.prog) Try.isAgg100 Try.sizeOf100
@[reducible, instance] def uc100 := UndC.mk Try.underlying100
@[reducible, instance] def zl100 := ZeroL.ofOne Try.zeroValue100
@[reducible, instance] def ic100 : InfoC Try.prog 100 8 := ⟨⟨_, Try.type100, rfl⟩⟩
@[reducible, instance] def yc101 := TyC.mk (P := Try.prog) Try.isAgg101 Try.sizeOf101
@[reducible, instance] def uc101 := UndC.mk Try.underlying101
@[reducible, instance] def zl101 := ZeroL.ofOne Try.zeroValue101
@[reducible, instance] def ic101 : InfoC Try.prog 101 8 := ⟨⟨_, Try.type101, rfl⟩⟩
@[reducible, instance] def yc102 := TyC.mk (P := Try.prog) Try.isAgg102 Try.sizeOf102
@[reducible, instance] def uc102 := UndC.mk Try.underlying102
@[reducible, instance] def zl102 := ZeroL.ofOne Try.zeroValue102
@[reducible, instance] def ic102 : InfoC Try.prog 102 8 := ⟨⟨_, Try.type102, rfl⟩⟩
@[reducible, instance] def yc103 := TyC.mk (P := Try.prog) Try.isAgg103 Try.sizeOf103
@[reducible, instance] def uc103 := UndC.mk Try.underlying103
@[reducible, instance] def zl103 := ZeroL.ofOne Try.zeroValue103
@[reducible, instance] def ic103 : InfoC Try.prog 103 8 := ⟨⟨_, Try.type103, rfl⟩⟩
@[reducible, instance] def yc104 := TyC.mk (P := Try.prog) Try.isAgg104 Try.sizeOf104
@[reducible, instance] def uc104 := UndC.mk Try.underlying104
@[reducible, instance] def zl104 := ZeroL.ofOne Try.zeroValue104
@[reducible, instance] def ic104 : InfoC Try.prog 104 8 := ⟨⟨_, Try.type104, rfl⟩⟩
@[reducible, instance] def yc106 := TyC.mk (P := Try.prog) Try.isAgg106 Try.sizeOf106
@[reducible, instance] def uc106 := UndC.mk Try.underlying106
@[reducible, instance] def zl106 := ZeroL.ofOne Try.zeroValue106
@[reducible, instance] def ic106 : InfoC Try.prog 106 8 := ⟨⟨_, Try.type106, rfl⟩⟩
@[reducible, instance] def yc107 := TyC.mk (P := Try.prog) Try.isAgg107 Try.sizeOf107
@[reducible, instance] def uc107 := UndC.mk Try.underlying107
@[reducible, instance] def zl107 := ZeroL.ofOne Try.zeroValue107
@[reducible, instance] def ic107 : InfoC Try.prog 107 24 := ⟨⟨_, Try.type107, rfl⟩⟩
@[reducible, instance] def yc108 := TyC.mk (P := Try.prog) Try.isAgg108 Try.sizeOf108
@[reducible, instance] def uc108 := UndC.mk Try.underlying108
@[reducible, instance] def zl108 := ZeroL.ofOne Try.zeroValue108
@[reducible, instance] def ic108 : InfoC Try.prog 108 8 := ⟨⟨_, Try.type108, rfl⟩⟩
@[reducible, instance] def yc109 := TyC.mk (P := Try.prog) Try.isAgg109 Try.sizeOf109
@[reducible, instance] def uc109 := UndC.mk Try.underlying109
@[reducible, instance] def zl109 := ZeroL.ofOne Try.zeroValue109
@[reducible, instance] def ic109 : InfoC Try.prog 109 8 := ⟨⟨_, Try.type109, rfl⟩⟩
@[reducible, instance] def yc110 := TyC.mk (P := Try.prog) Try.isAgg110 Try.sizeOf110
@[reducible, instance] def uc110 := UndC.mk Try.underlying110
@[reducible, instance] def zl110 := ZeroL.ofOne Try.zeroValue110
@[reducible, instance] def ic110 : InfoC Try.prog 110 8 := ⟨⟨_, Try.type110, rfl⟩⟩
@[reducible, instance] def yc111 := TyC.mk (P := Try.prog) Try.isAgg111 Try.sizeOf111
@[reducible, instance] def uc111 := UndC.mk Try.underlying111
@[reducible, instance] def zl111 := ZeroL.ofOne Try.zeroValue111
@[reducible, instance] def ic111 : InfoC Try.prog 111 8 := ⟨⟨_, Try.type111, rfl⟩⟩
@[reducible, instance] def yc112 := TyC.mk (P := Try.prog) Try.isAgg112 Try.sizeOf112
@[reducible, instance] def uc112 := UndC.mk Try.underlying112
@[reducible, instance] def zl112 := ZeroL.ofOne Try.zeroValue112
@[reducible, instance] def ic112 : InfoC Try.prog 112 8 := ⟨⟨_, Try.type112, rfl⟩⟩
@[reducible, instance] def yc114 := TyC.mk (P := Try.prog) Try.isAgg114 Try.sizeOf114
@[reducible, instance] def uc114 := UndC.mk Try.underlying114
@[reducible, instance] def zl114 := ZeroL.ofOne Try.zeroValue114
@[reducible, instance] def ic114 : InfoC Try.prog 114 8 := ⟨⟨_, Try.type114, rfl⟩⟩
@[reducible, instance] def yc115 := TyC.mk (P := Try.prog) Try.isAgg115 Try.sizeOf115
@[reducible, instance] def uc115 := UndC.mk Try.underlying115
@[reducible, instance] def zl115 := ZeroL.ofOne Try.zeroValue115
@[reducible, instance] def ic115 : InfoC Try.prog 115 8 := ⟨⟨_, Try.type115, rfl⟩⟩
@[reducible, instance] def yc116 := TyC.mk (P := Try.prog) Try.isAgg116 Try.sizeOf116
@[reducible, instance] def uc116 := UndC.mk Try.underlying116
@[reducible, instance] def zl116 := ZeroL.ofOne Try.zeroValue116
@[reducible, instance] def ic116 : InfoC Try.prog 116 8 := ⟨⟨_, Try.type116, rfl⟩⟩
@[reducible, instance] def yc117 := TyC.mk (P := Try.prog) Try.isAgg117 Try.sizeOf117
@[reducible, instance] def uc117 := UndC.mk Try.underlying117
@[reducible, instance] def zl117 := ZeroL.ofOne Try.zeroValue117
@[reducible, instance] def ic117 : InfoC Try.prog 117 8 := ⟨⟨_, Try.type117, rfl⟩⟩
@[reducible, instance] def yc118 := TyC.mk (P := Try.prog) Try.isAgg118 Try.sizeOf118
@[reducible, instance] def uc118 := UndC.mk Try.underlying118
@[reducible, instance] def zl118 := ZeroL.ofOne Try.zeroValue118
@[reducible, instance] def ic118 : InfoC Try.prog 118 8 := ⟨⟨_, Try.type118, rfl⟩⟩
@[reducible, instance] def yc119 := TyC.mk (P := Try.prog) Try.isAgg119 Try.sizeOf119
@[reducible, instance] def uc119 := UndC.mk Try.underlying119
@[reducible, instance] def zl119 := ZeroL.ofOne Try.zeroValue119
@[reducible, instance] def ic119 : InfoC Try.prog 119 8 := ⟨⟨_, Try.type119, rfl⟩⟩
@[reducible, instance] def yc120 := TyC.mk (P := Try.prog) Try.isAgg120 Try.sizeOf120
@[reducible, instance] def uc120 := UndC.mk Try.underlying120
@[reducible, instance] def zl120 := ZeroL.ofOne Try.zeroValue120
@[reducible, instance] def ic120 : InfoC Try.prog 120 4 := ⟨⟨_, Try.type120, rfl⟩⟩
@[reducible, instance] def yc121 := TyC.mk (P := Try.prog) Try.isAgg121 Try.sizeOf121
@[reducible, instance] def uc121 := UndC.mk Try.underlying121
@[reducible, instance] def zl121 := ZeroL.ofOne Try.zeroValue121
@[reducible, instance] def ic121 : InfoC Try.prog 121 8 := ⟨⟨_, Try.type121, rfl⟩⟩
@[reducible, instance] def yc122 := TyC.mk (P := Try.prog) Try.isAgg122 Try.sizeOf122
@[reducible, instance] def uc122 := UndC.mk Try.underlying122
@[reducible, instance] def zl122 := ZeroL.ofOne Try.zeroValue122
@[reducible, instance] def ic122 : InfoC Try.prog 122 8 := ⟨⟨_, Try.type122, rfl⟩⟩
@[reducible, instance] def yc123 := TyC.mk (P := Try.prog) Try.isAgg123 Try.sizeOf123
@[reducible, instance] def uc123 := UndC.mk Try.underlying123
@[reducible, instance] def zl123 := ZeroL.ofOne Try.zeroValue123
@[reducible, instance] def ic123 : InfoC Try.prog 123 8 := ⟨⟨_, Try.type123, rfl⟩⟩
@[reducible, instance] def yc124 := TyC.mk (P := Try.prog) Try.isAgg124 Try.sizeOf124
@[reducible, instance] def uc124 := UndC.mk Try.underlying124
@[reducible, instance] def zl124 := ZeroL.ofOne Try.zeroValue124
@[reducible, instance] def ic124 : InfoC Try.prog 124 8 := ⟨⟨_, Try.type124, rfl⟩⟩
@[reducible, instance] def yc125 := TyC.mk (P := Try.prog) Try.isAgg125 Try.sizeOf125
@[reducible, instance] def uc125 := UndC.mk Try.underlying125
@[reducible, instance] def zl125 := ZeroL.ofOne Try.zeroValue125
@[reducible, instance] def ic125 : InfoC Try.prog 125 8 := ⟨⟨_, Try.type125, rfl⟩⟩
@[reducible, instance] def yc126 := TyC.mk (P := Try.prog) Try.isAgg126 Try.sizeOf126
@[reducible, instance] def uc126 := UndC.mk Try.underlying126
@[reducible, instance] def zl126 := ZeroL.ofOne Try.zeroValue126
@[reducible, instance] def ic126 : InfoC Try.prog 126 8 := ⟨⟨_, Try.type126, rfl⟩⟩
@[reducible, instance] def yc128 := TyC.mk (P := Try.prog) Try.isAgg128 Try.sizeOf128
@[reducible, instance] def uc128 := UndC.mk Try.underlying128
@[reducible, instance] def zl128 := ZeroL.ofOne Try.zeroValue128
@[reducible, instance] def ic128 : InfoC Try.prog 128 8 := ⟨⟨_, Try.type128, rfl⟩⟩
@[reducible, instance] def yc129 := TyC.mk (P := Try.prog) Try.isAgg129 Try.sizeOf129
@[reducible, instance] def uc129 := UndC.mk Try.underlying129
@[reducible, instance] def zl129 := ZeroL.ofOne Try.zeroValue129
@[reducible, instance] def ic129 : InfoC Try.prog 129 8 := ⟨⟨_, Try.type129, rfl⟩⟩
@[reducible, instance] def yc130 := TyC.mk (P := Try.prog) Try.isAgg130 Try.sizeOf130
@[reducible, instance] def uc130 := UndC.mk Try.underlying130
@[reducible, instance] def zl130 := ZeroL.ofOne Try.zeroValue130
@[reducible, instance] def ic130 : InfoC Try.prog 130 8 := ⟨⟨_, Try.type130, rfl⟩⟩
@[reducible, instance] def yc131 := TyC.mk (P := Try.prog) Try.isAgg131 Try.sizeOf131
@[reducible, instance] def uc131 := UndC.mk Try.underlying131
@[reducible, instance] def zl131 := ZeroL.ofOne Try.zeroValue131
@[reducible, instance] def ic131 : InfoC Try.prog 131 8 := ⟨⟨_, Try.type131, rfl⟩⟩
@[reducible, instance] def yc132 := TyC.mk (P := Try.prog) Try.isAgg132 Try.sizeOf132
@[reducible, instance] def uc132 := UndC.mk Try.underlying132
@[reducible, instance] def zl132 := ZeroL.ofOne Try.zeroValue132
@[reducible, instance] def ic132 : InfoC Try.prog 132 8 := ⟨⟨_, Try.type132, rfl⟩⟩
@[reducible, instance] def yc133 := TyC.mk (P := Try.prog) Try.isAgg133 Try.sizeOf133
@[reducible, instance] def uc133 := UndC.mk Try.underlying133
@[reducible, instance] def zl133 := ZeroL.ofOne Try.zeroValue133
@[reducible, instance] def ic133 : InfoC Try.prog 133 8 := ⟨⟨_, Try.type133, rfl⟩⟩
@[reducible, instance] def yc134 := TyC.mk (P := Try.prog) Try.isAgg134 Try.sizeOf134
@[reducible, instance] def uc134 := UndC.mk Try.underlying134
@[reducible, instance] def zl134 := ZeroL.ofOne Try.zeroValue134
@[reducible, instance] def ic134 : InfoC Try.prog 134 8 := ⟨⟨_, Try.type134, rfl⟩⟩
@[reducible, instance] def yc135 := TyC.mk (P := Try.prog) Try.isAgg135 Try.sizeOf135
@[reducible, instance] def uc135 := UndC.mk Try.underlying135
@[reducible, instance] def zl135 := ZeroL.ofOne Try.zeroValue135
@[reducible, instance] def ic135 : InfoC Try.prog 135 8 := ⟨⟨_, Try.type135, rfl⟩⟩
@[reducible, instance] def yc136 := TyC.mk (P := Try.prog) Try.isAgg136 Try.sizeOf136
@[reducible, instance] def uc136 := UndC.mk Try.underlying136
@[reducible, instance] def zl136 := ZeroL.ofOne Try.zeroValue136
@[reducible, instance] def ic136 : InfoC Try.prog 136 8 := ⟨⟨_, Try.type136, rfl⟩⟩
@[reducible, instance] def yc137 := TyC.mk (P := Try.prog) Try.isAgg137 Try.sizeOf137
@[reducible, instance] def uc137 := UndC.mk Try.underlying137
@[reducible, instance] def zl137 := ZeroL.ofOne Try.zeroValue137
@[reducible, instance] def ic137 : InfoC Try.prog 137 8 := ⟨⟨_, Try.type137, rfl⟩⟩
@[reducible, instance] def yc138 := TyC.mk (P := Try.prog) Try.isAgg138 Try.sizeOf138
@[reducible, instance] def uc138 := UndC.mk Try.underlying138
@[reducible, instance] def zl138 := ZeroL.ofOne Try.zeroValue138
@[reducible, instance] def ic138 : InfoC Try.prog 138 8 := ⟨⟨_, Try.type138, rfl⟩⟩
@[reducible, instance] def yc139 := TyC.mk (P := Try.prog) Try.isAgg139 Try.sizeOf139
@[reducible, instance] def uc139 := UndC.mk Try.underlying139
@[reducible, instance] def zl139 := ZeroL.ofOne Try.zeroValue139
@[reducible, instance] def ic139 : InfoC Try.prog 139 8 := ⟨⟨_, Try.type139, rfl⟩⟩
@[reducible, instance] def yc140 := TyC.mk (P := Try.prog) Try.isAgg140 Try.sizeOf140
@[reducible, instance] def uc140 := UndC.mk Try.underlying140
@[reducible, instance] def zl140 := ZeroL.ofOne Try.zeroValue140
@[reducible, instance] def ic140 : InfoC Try.prog 140 8 := ⟨⟨_, Try.type140, rfl⟩⟩
@[reducible, instance] def yc141 := TyC.mk (P := Try.prog) Try.isAgg141 Try.sizeOf141
@[reducible, instance] def uc141 := UndC.mk Try.underlying141
@[reducible, instance] def zl141 := ZeroL.ofOne Try.zeroValue141
@[reducible, instance] def ic141 : InfoC Try.prog 141 8 := ⟨⟨_, Try.type141, rfl⟩⟩
@[reducible, instance] def yc142 := TyC.mk (P := Try.prog) Try.isAgg142 Try.sizeOf142
@[reducible, instance] def uc142 := UndC.mk Try.underlying142
@[reducible, instance] def zl142 := ZeroL.ofOne Try.zeroValue142
@[reducible, instance] def ic142 : InfoC Try.prog 142 8 := ⟨⟨_, Try.type142, rfl⟩⟩
@[reducible, instance] def yc143 := TyC.mk (P := Try.prog) Try.isAgg143 Try.sizeOf143
@[reducible, instance] def uc143 := UndC.mk Try.underlying143
@[reducible, instance] def zl143 := ZeroL.ofOne Try.zeroValue143
@[reducible, instance] def ic143 : InfoC Try.prog 143 8 := ⟨⟨_, Try.type143, rfl⟩⟩
@[reducible, instance] def yc144 := TyC.mk (P := Try.prog) Try.isAgg144 Try.sizeOf144
@[reducible, instance] def uc144 := UndC.mk Try.underlying144
@[reducible, instance] def zl144 := ZeroL.ofOne Try.zeroValue144
@[reducible, instance] def ic144 : InfoC Try.prog 144 8 := ⟨⟨_, Try.type144, rfl⟩⟩
@[reducible, instance] def yc145 := TyC.mk (P := Try.prog) Try.isAgg145 Try.sizeOf145
@[reducible, instance] def uc145 := UndC.mk Try.underlying145
@[reducible, instance] def zl145 := ZeroL.ofOne Try.zeroValue145
@[reducible, instance] def ic145 : InfoC Try.prog 145 8 := ⟨⟨_, Try.type145, rfl⟩⟩
@[reducible, instance] def yc147 := TyC.mk (P := Try.prog) Try.isAgg147 Try.sizeOf147
@[reducible, instance] def uc147 := UndC.mk Try.underlying147
@[reducible, instance] def zl147 := ZeroL.ofOne Try.zeroValue147
@[reducible, instance] def ic147 : InfoC Try.prog 147 8 := ⟨⟨_, Try.type147, rfl⟩⟩
@[reducible, instance] def yc148 := TyC.mk (P := Try.prog) Try.isAgg148 Try.sizeOf148
@[reducible, instance] def uc148 := UndC.mk Try.underlying148
@[reducible, instance] def zl148 := ZeroL.ofOne Try.zeroValue148
@[reducible, instance] def ic148 : InfoC Try.prog 148 8 := ⟨⟨_, Try.type148, rfl⟩⟩
@[reducible, instance] def yc149 := TyC.mk (P := Try.prog) Try.isAgg149 Try.sizeOf149
@[reducible, instance] def uc149 := UndC.mk Try.underlying149
@[reducible, instance] def zl149 := ZeroL.ofOne Try.zeroValue149
@[reducible, instance] def ic149 : InfoC Try.prog 149 8 := ⟨⟨_, Try.type149, rfl⟩⟩
@[reducible, instance] def yc150 := TyC.mk (P := Try.prog) Try.isAgg150 Try.sizeOf150
@[reducible, instance] def uc150 := UndC.mk Try.underlying150
@[reducible, instance] def zl150 := ZeroL.ofOne Try.zeroValue150
@[reducible, instance] def ic150 : InfoC Try.prog 150 8 := ⟨⟨_, Try.type150, rfl⟩⟩
@[reducible, instance] def yc151 := TyC.mk (P := Try.prog) Try.isAgg151 Try.sizeOf151
@[reducible, instance] def uc151 := UndC.mk Try.underlying151
@[reducible, instance] def zl151 := ZeroL.ofOne Try.zeroValue151
@[reducible, instance] def ic151 : InfoC Try.prog 151 8 := ⟨⟨_, Try.type151, rfl⟩⟩
@[reducible, instance] def yc152 := TyC.mk (P := Try.prog) Try.isAgg152 Try.sizeOf152
@[reducible, instance] def uc152 := UndC.mk Try.underlying152
@[reducible, instance] def zl152 := ZeroL.ofAgg Try.zeroValue152
@[reducible, instance] def ic152 : InfoC Try.prog 152 40 := ⟨⟨_, Try.type152, rfl⟩⟩
@[reducible, instance] def fl152_0 : FieldC Try.prog 152 0 17 0 := ⟨⟨_, _, Try.underlying152, rfl, rfl, rfl⟩⟩
@[reducible, instance] def fl152_1 : FieldC Try.prog 152 1 17 1 := ⟨⟨_, _, Try.underlying152, rfl, rfl, rfl⟩⟩
@[reducible, instance] def fl152_2 : FieldC Try.prog 152 2 17 2 := ⟨⟨_, _, Try.underlying152, rfl, rfl, rfl⟩⟩
@[reducible, instance] def fl152_3 : FieldC Try.prog 152 3 9 3 := ⟨⟨_, _, Try.underlying152, rfl, rfl, rfl⟩⟩
@[reducible, instance] def yc153 := TyC.mk (P := Try.prog) Try.isAgg153 Try.sizeOf153
@[reducible, instance] def uc153 := UndC.mk Try.underlying153
@[reducible, instance] def zl153 := ZeroL.ofAgg Try.zeroValue153
@[reducible, instance] def ic153 : InfoC Try.prog 153 40 := ⟨⟨_, Try.type153, rfl⟩⟩
@[reducible, instance] def fl153_0 : FieldC Try.prog 153 0 17 0 := ⟨⟨_, _, Try.underlying153, rfl, rfl, rfl⟩⟩
@[reducible, instance] def fl153_1 : FieldC Try.prog 153 1 17 1 := ⟨⟨_, _, Try.underlying153, rfl, rfl, rfl⟩⟩
@[reducible, instance] def fl153_2 : FieldC Try.prog 153 2 17 2 := ⟨⟨_, _, Try.underlying153, rfl, rfl, rfl⟩⟩
@[reducible, instance] def fl153_3 : FieldC Try.prog 153 3 9 3 := ⟨⟨_, _, Try.underlying153, rfl, rfl, rfl⟩⟩
@[reducible, instance] def yc154 := TyC.mk (P := Try.prog) Try.isAgg154 Try.sizeOf154
@[reducible, instance] def uc154 := UndC.mk Try.underlying154
@[reducible, instance] def zl154 := ZeroL.ofAgg Try.zeroValue154
@[reducible, instance] def ic154 : InfoC Try.prog 154 0 := ⟨⟨_, Try.type154, rfl⟩⟩
@[reducible, instance] def yc155 := TyC.mk (P := Try.prog) Try.isAgg155 Try.sizeOf155
@[reducible, instance] def uc155 := UndC.mk Try.underlying155
@[reducible, instance] def zl155 := ZeroL.ofAgg Try.zeroValue155
@[reducible, instance] def ic155 : InfoC Try.prog 155 0 := ⟨⟨_, Try.type155, rfl⟩⟩
@[reducible, instance] def fl155_0 : FieldC Try.prog 155 0 154 0 := ⟨⟨_, _, Try.underlying155, rfl, rfl, rfl⟩⟩
@[reducible, instance] def yc156 := TyC.mk (P := Try.prog) Try.isAgg156 Try.sizeOf156
@[reducible, instance] def uc156 := UndC.mk Try.underlying156
@[reducible, instance] def zl156 := ZeroL.ofAgg Try.zeroValue156
@[reducible, instance] def ic156 : InfoC Try.prog 156 0 := ⟨⟨_, Try.type156, rfl⟩⟩
@[reducible, instance] def fl156_0 : FieldC Try.prog 156 0 154 0 := ⟨⟨_, _, Try.underlying156, rfl, rfl, rfl⟩⟩
@[reducible, instance] def yc157 := TyC.mk (P := Try.prog) Try.isAgg157 Try.sizeOf157
@[reducible, instance] def uc157 := UndC.mk Try.underlying157
@[reducible, instance] def zl157 := ZeroL.ofOne Try.zeroValue157
@[reducible, instance] def ic157 : InfoC Try.prog 157 8 := ⟨⟨_, Try.type157, rfl⟩⟩
@[reducible, instance] def yc158 := TyC.mk (P := Try.prog) Try.isAgg158 Try.sizeOf158
@[reducible, instance] def uc158 := UndC.mk Try.underlying158
@[reducible, instance] def zl158 := ZeroL.ofOne Try.zeroValue158
@[reducible, instance] def ic158 : InfoC Try.prog 158 1 := ⟨⟨_, Try.type158, rfl⟩⟩
@[reducible, instance] def yc159 := TyC.mk (P := Try.prog) Try.isAgg159 Try.sizeOf159
@[reducible, instance] def uc159 := UndC.mk Try.underlying159
@[reducible, instance] def zl159 := ZeroL.ofOne Try.zeroValue159
@[reducible, instance] def ic159 : InfoC Try.prog 159 1 := ⟨⟨_, Try.type159, rfl⟩⟩
@[reducible, instance] def yc160 := TyC.mk (P := Try.prog) Try.isAgg160 Try.sizeOf160
@[reducible, instance] def uc160 := UndC.mk Try.underlying160
@[reducible, instance] def zl160 := ZeroL.ofOne Try.zeroValue160
@[reducible, instance] def ic160 : InfoC Try.prog 160 8 := ⟨⟨_, Try.type160, rfl⟩⟩
@[reducible, instance] def yc161 := TyC.mk (P := Try.prog) Try.isAgg161 Try.sizeOf161
@[reducible, instance] def uc161 := UndC.mk Try.underlying161
@[reducible, instance] def zl161 := ZeroL.ofOne Try.zeroValue161
@[reducible, instance] def ic161 : InfoC Try.prog 161 8 := ⟨⟨_, Try.type161, rfl⟩⟩
@[reducible, instance] def yc162 := TyC.mk (P := Try.prog) Try.isAgg162 Try.sizeOf162
@[reducible, instance] def uc162 := UndC.mk Try.underlying162
@[reducible, instance] def zl162 := ZeroL.ofOne Try.zeroValue162
@[reducible, instance] def ic162 : InfoC Try.prog 162 4 := ⟨⟨_, Try.type162, rfl⟩⟩
@[reducible, instance] def yc163 := TyC.mk (P := Try.prog) Try.isAgg163 Try.sizeOf163
@[reducible, instance] def uc163 := UndC.mk Try.underlying163
@[reducible, instance] def zl163 := ZeroL.ofOne Try.zeroValue163
@[reducible, instance] def ic163 : InfoC Try.prog 163 4 := ⟨⟨_, Try.type163, rfl⟩⟩
@[reducible, instance] def yc164 := TyC.mk (P := Try.prog) Try.isAgg164 Try.sizeOf164
@[reducible, instance] def uc164 := UndC.mk Try.underlying164
@[reducible, instance] def zl164 := ZeroL.ofAgg Try.zeroValue164
@[reducible, instance] def ic164 : InfoC Try.prog 164 48 := ⟨⟨_, Try.type164, rfl⟩⟩
@[reducible, instance] def fl164_0 : FieldC Try.prog 164 0 12 0 := ⟨⟨_, _, Try.underlying164, rfl, rfl, rfl⟩⟩
@[reducible, instance] def fl164_1 : FieldC Try.prog 164 1 12 1 := ⟨⟨_, _, Try.underlying164, rfl, rfl, rfl⟩⟩
@[reducible, instance] def fl164_2 : FieldC Try.prog 164 2 120 2 := ⟨⟨_, _, Try.underlying164, rfl, rfl, rfl⟩⟩
@[reducible, instance] def fl164_3 : FieldC Try.prog 164 3 158 3 := ⟨⟨_, _, Try.underlying164, rfl, rfl, rfl⟩⟩
@[reducible, instance] def fl164_4 : FieldC Try.prog 164 4 5 4 := ⟨⟨_, _, Try.underlying164, rfl, rfl, rfl⟩⟩
@[reducible, instance] def fl164_5 : FieldC Try.prog 164 5 5 5 := ⟨⟨_, _, Try.underlying164, rfl, rfl, rfl⟩⟩
@[reducible, instance] def fl164_6 : FieldC Try.prog 164 6 159 6 := ⟨⟨_, _, Try.underlying164, rfl, rfl, rfl⟩⟩
@[reducible, instance] def fl164_7 : FieldC Try.prog 164 7 160 7 := ⟨⟨_, _, Try.underlying164, rfl, rfl, rfl⟩⟩
@[reducible, instance] def fl164_8 : FieldC Try.prog 164 8 161 8 := ⟨⟨_, _, Try.underlying164, rfl, rfl, rfl⟩⟩
@[reducible, instance] def fl164_9 : FieldC Try.prog 164 9 162 9 := ⟨⟨_, _, Try.underlying164, rfl, rfl, rfl⟩⟩
@[reducible, instance] def fl164_10 : FieldC Try.prog 164 10 163 10 := ⟨⟨_, _, Try.underlying164, rfl, rfl, rfl⟩⟩
@[reducible, instance] def yc165 := TyC.mk (P := Try.prog) Try.isAgg165 Try.sizeOf165
@[reducible, instance] def uc165 := UndC.mk Try.underlying165
@[reducible, instance] def zl165 := ZeroL.ofAgg Try.zeroValue165
@[reducible, instance] def ic165 : InfoC Try.prog 165 48 := ⟨⟨_, Try.type165, rfl⟩⟩
@[reducible, instance] def fl165_0 : FieldC Try.prog 165 0 12 0 := ⟨⟨_, _, Try.underlying165, rfl, rfl, rfl⟩⟩
@[reducible, instance] def fl165_1 : FieldC Try.prog 165 1 12 1 := ⟨⟨_, _, Try.underlying165, rfl, rfl, rfl⟩⟩
@[reducible, instance] def fl165_2 : FieldC Try.prog 165 2 120 2 := ⟨⟨_, _, Try.underlying165, rfl, rfl, rfl⟩⟩
@[reducible, instance] def fl165_3 : FieldC Try.prog 165 3 158 3 := ⟨⟨_, _, Try.underlying165, rfl, rfl, rfl⟩⟩
@[reducible, instance] def fl165_4 : FieldC Try.prog 165 4 5 4 := ⟨⟨_, _, Try.underlying165, rfl, rfl, rfl⟩⟩
@[reducible, instance] def fl165_5 : FieldC Try.prog 165 5 5 5 := ⟨⟨_, _, Try.underlying165, rfl, rfl, rfl⟩⟩
@[reducible, instance] def fl165_6 : FieldC Try.prog 165 6 159 6 := ⟨⟨_, _, Try.underlying165, rfl, rfl, rfl⟩⟩
@[reducible, instance] def fl165_7 : FieldC Try.prog 165 7 160 7 := ⟨⟨_, _, Try.underlying165, rfl, rfl, rfl⟩⟩
@[reducible, instance] def fl165_8 : FieldC Try.prog 165 8 161 8 := ⟨⟨_, _, Try.underlying165, rfl, rfl, rfl⟩⟩
@[reducible, instance] def fl165_9 : FieldC Try.prog 165 9 162 9 := ⟨⟨_, _, Try.underlying165, rfl, rfl, rfl⟩⟩
@[reducible, instance] def fl165_10 : FieldC Try.prog 165 10 163 10 := ⟨⟨_, _, Try.underlying165, rfl, rfl, rfl⟩⟩
@[reducible, instance] def yc166 := TyC.mk (P := Try.prog) Try.isAgg166 Try.sizeOf166
@[reducible, instance] def uc166 := UndC.mk Try.underlying166
@[reducible, instance] def zl166 := ZeroL.ofOne Try.zeroValue166
@[reducible, instance] def ic166 : InfoC Try.prog 166 8 := ⟨⟨_, Try.type166, rfl⟩⟩
@[reducible, instance] def fc3 := FunC.mk Try.call3
@[reducible, instance] def fc4 := FunC.mk Try.call4
@[reducible, instance] def fc5 := FunC.mk Try.call5
@[reducible, instance] def fc6 := FunC.mk Try.call6
@[reducible, instance] def fc7 := FunC.mk Try.call7
@[reducible, instance] def fc8 := FunC.mk Try.call8
@[reducible, instance] def fc9 := FunC.mk Try.call9
@[reducible, instance] def fc10 := FunC.mk Try.call10
@[reducible, instance] def fc11 := FunC.mk Try.call11
@[reducible, instance] def fc12 := FunC.mk Try.call12
@[reducible, instance] def fc13 := FunC.mk Try.call13
@[reducible, instance] def fc14 := FunC.mk Try.call14
@[reducible, instance] def fc15 := FunC.mk Try.call15
@[reducible, instance] def fc16 := FunC.mk Try.call16
@[reducible, instance] def fc17 := FunC.mk Try.call17
@[reducible, instance] def fc18 := FunC.mk Try.call18
@[reducible, instance] def fc19 := FunC.mk Try.call19
@[reducible, instance] def fc20 := FunC.mk Try.call20
@[reducible, instance] def fc21 := FunC.mk Try.call21
@[reducible, instance] def fc22 := FunC.mk Try.call22
@[reducible, instance] def fc23 := FunC.mk Try.call23
@[reducible, instance] def fc24 := FunC.mk Try.call24
@[reducible, instance] def fc25 := FunC.mk Try.call25
@[reducible, instance] def fc26 := FunC.mk Try.call26
@[reducible, instance] def fc27 := FunC.mk Try.call27
@[reducible, instance] def fc28 := FunC.mk Try.call28
@[reducible, instance] def fc29 := FunC.mk Try.call29
@[reducible, instance] def fc30 := FunC.mk Try.call30
@[reducible, instance] def fc31 := FunC.mk Try.call31
@[reducible, instance] def fc32 := FunC.mk Try.call32
@[reducible, instance] def fc33 := FunC.mk Try.call33
@[reducible, instance] def fc34 := FunC.mk Try.call34
@[reducible, instance] def fc35 := FunC.mk Try.call35
@[reducible, instance] def fc36 := FunC.mk Try.call36
@[reducible, instance] def fc37 := FunC.mk Try.call37
@[reducible, instance] def fc38 := FunC.mk Try.call38
@[reducible, instance] def fc39 := FunC.mk Try.call39
@[reducible, instance] def fc40 := FunC.mk Try.call40
@[reducible, instance] def fc41 := FunC.mk Try.call41
@[reducible, instance] def fc42 := FunC.mk Try.call42
@[reducible, instance] def fc43 := FunC.mk Try.call43
@[reducible, instance] def fc44 := FunC.mk Try.call44
@[reducible, instance] def fc45 := FunC.mk Try.call45
@[reducible, instance] def fc46 := FunC.mk Try.call46
@[reducible, instance] def fc47 := FunC.mk Try.call47
@[reducible, instance] def fc48 := FunC.mk Try.call48
@[reducible, instance] def fc49 := FunC.mk Try.call49
@[reducible, instance] def fc50 := FunC.mk Try.call50
@[reducible, instance] def fc51 := FunC.mk Try.call51
@[reducible, instance] def fc52 := FunC.mk Try.call52
@[reducible, instance] def fc53 := FunC.mk Try.call53
@[reducible, instance] def fc54 := FunC.mk Try.call54
@[reducible, instance] def fc55 := FunC.mk Try.call55
@[reducible, instance] def fc56 := FunC.mk Try.call56
@[reducible, instance] def fc58 := FunC.mk Try.call58
@[reducible, instance] def fc59 := FunC.mk Try.call59
@[reducible, instance] def fc60 := FunC.mk Try.call60
@[reducible, instance] def fc61 := FunC.mk Try.call61
@[reducible, instance] def fc62 := FunC.mk Try.call62
@[reducible, instance] def fc63 := FunC.mk Try.call63
@[reducible, instance] def fc64 := FunC.mk Try.call64
@[reducible, instance] def fc65 := FunC.mk Try.call65
@[reducible, instance] def fc66 := FunC.mk Try.call66
@[reducible, instance] def fc67 := FunC.mk Try.call67
@[reducible, instance] def fc68 := FunC.mk Try.call68
@[reducible, instance] def fc69 := FunC.mk Try.call69
@[reducible, instance] def fc70 := FunC.mk Try.call70
@[reducible, instance] def fc71 := FunC.mk Try.call71
@[reducible, instance] def fc72 := FunC.mk Try.call72
@[reducible, instance] def fc73 := FunC.mk Try.call73
@[reducible, instance] def fc74 := FunC.mk Try.call74
@[reducible, instance] def fc75 := FunC.mk Try.call75
@[reducible, instance] def fc76 := FunC.mk Try.call76
@[reducible, instance] def fc77 := FunC.mk Try.call77
@[reducible, instance] def fc78 := FunC.mk Try.call78
@[reducible, instance] def fc79 := FunC.mk Try.call79
@[reducible, instance] def fc80 := FunC.mk Try.call80
@[reducible, instance] def fc81 := FunC.mk Try.call81
@[reducible, instance] def fc82 := FunC.mk Try.call82
@[reducible, instance] def fc83 := FunC.mk Try.call83
@[reducible, instance] def fc84 := FunC.mk Try.call84
@[reducible, instance] def fc85 := FunC.mk Try.call85
@[reducible, instance] def fc86 := FunC.mk Try.call86
@[reducible, instance] def fc87 := FunC.mk Try.call87
@[reducible, instance] def fc88 := FunC.mk Try.call88
@[reducible, instance] def fc89 := FunC.mk Try.call89
@[reducible, instance] def fc90 := FunC.mk Try.call90
@[reducible, instance] def fc91 := FunC.mk Try.call91
@[reducible, instance] def fc92 := FunC.mk Try.call92
@[reducible, instance] def fc93 := FunC.mk Try.call93
@[reducible, instance] def fc94 := FunC.mk Try.call94
@[reducible, instance] def fc95 := FunC.mk Try.call95
@[reducible, instance] def fc96 := FunC.mk Try.call96
@[reducible, instance] def fc97 := FunC.mk Try.call97
@[reducible, instance] def fc98 := FunC.mk Try.call98
@[reducible, instance] def fc99 := FunC.mk Try.call99
@[reducible, instance] def fc100 := FunC.mk Try.call100
@[reducible, instance] def fc101 := FunC.mk Try.call101
@[reducible, instance] def fc102 := FunC.mk Try.call102
@[reducible, instance] def fc103 := FunC.mk Try.call103
@[reducible, instance] def fc104 := FunC.mk Try.call104
@[reducible, instance] def fc105 := FunC.mk Try.call105
@[reducible, instance] def fc106 := FunC.mk Try.call106
@[reducible, instance] def fc107 := FunC.mk Try.call107
@[reducible, instance] def fc108 := FunC.mk Try.call108
@[reducible, instance] def fc109 := FunC.mk Try.call109
@[reducible, instance] def fc110 := FunC.mk Try.call110
@[reducible, instance] def fc111 := FunC.mk Try.call111
@[reducible, instance] def fc112 := FunC.mk Try.call112
@[reducible, instance] def fc113 := FunC.mk Try.call113
@[reducible, instance] def fc114 := FunC.mk Try.call114
@[reducible, instance] def fc115 := FunC.mk Try.call115
@[reducible, instance] def fc116 := FunC.mk Try.call116
@[reducible, instance] def fc117 := FunC.mk Try.call117
@[reducible, instance] def fc118 := FunC.mk Try.call118
@[reducible, instance] def fc119 := FunC.mk Try.call119
@[reducible, instance] def fc120 := FunC.mk Try.call120
@[reducible, instance] def mixI : MixC Try.prog := ⟨by kernel_rfl⟩
end Go.Proofs.Ytlcoebomgaodgaa
