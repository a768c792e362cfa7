import Derived.Test.YtnoadopmeoohmaaGreatDoorProg
import Derived.Test.YtnoadopmeoohmaaGreatDoorZ02
import Derived.KernelRfl
/-
  The facts on types and functions, as instances. Written by wip/tools/table.py.
-/
namespace Go.Proofs.YtnoadopmeoohmaaGreatDoor
open Go
@[reducible, instance] def yc2 := TyC.mk (P := Tryz.prog) Tryz.isAgg2 Tryz.sizeOf2
@[reducible, instance] def yc3 := TyC.mk (P := Tryz.prog) Tryz.isAgg3 Tryz.sizeOf3
@[reducible, instance] def uc3 := UndC.mk Tryz.underlying3
@[reducible, instance] def zl3 := ZeroL.ofOne Tryz.zeroValue3
@[reducible, instance] def uc4 := UndC.mk Tryz.underlying4
@[reducible, instance] def yc5 := TyC.mk (P := Tryz.prog) Tryz.isAgg5 Tryz.sizeOf5
@[reducible, instance] def uc5 := UndC.mk Tryz.underlying5
@[reducible, instance] def zl5 := ZeroL.ofOne Tryz.zeroValue5
@[reducible, instance] def ic5 : InfoC Tryz.prog 5 1 := ⟨⟨_, Tryz.type5, rfl⟩⟩
@[reducible, instance] def yc9 := TyC.mk (P := Tryz.prog) Tryz.isAgg9 Tryz.sizeOf9
@[reducible, instance] def uc9 := UndC.mk Tryz.underlying9
@[reducible, instance] def zl9 := ZeroL.ofOne Tryz.zeroValue9
@[reducible, instance] def ic9 : InfoC Tryz.prog 9 16 := ⟨⟨_, Tryz.type9, rfl⟩⟩
@[reducible, instance] def yc22 := TyC.mk (P := Tryz.prog) Tryz.isAgg22 Tryz.sizeOf22
@[reducible, instance] def uc22 := UndC.mk Tryz.underlying22
@[reducible, instance] def yc24 := TyC.mk (P := Tryz.prog) Tryz.isAgg24 Tryz.sizeOf24
@[reducible, instance] def zl24 := ZeroL.ofAgg Tryz.zeroValue24
@[reducible, instance] def ic24 : InfoC Tryz.prog 24 56 := ⟨⟨_, Tryz.type24, rfl⟩⟩
@[reducible, instance] def fl24_0 : FieldC Tryz.prog 24 0 3 0 := ⟨⟨_, _, Tryz.underlying24, rfl, rfl, rfl⟩⟩
@[reducible, instance] def fl24_1 : FieldC Tryz.prog 24 1 3 1 := ⟨⟨_, _, Tryz.underlying24, rfl, rfl, rfl⟩⟩
@[reducible, instance] def fl24_2 : FieldC Tryz.prog 24 2 9 2 := ⟨⟨_, _, Tryz.underlying24, rfl, rfl, rfl⟩⟩
@[reducible, instance] def fl24_3 : FieldC Tryz.prog 24 3 22 3 := ⟨⟨_, _, Tryz.underlying24, rfl, rfl, rfl⟩⟩
@[reducible, instance] def yc27 := TyC.mk (P := Tryz.prog) Tryz.isAgg27 Tryz.sizeOf27
@[reducible, instance] def zl27 := ZeroL.ofOne Tryz.zeroValue27
@[reducible, instance] def yc37 := TyC.mk (P := Tryz.prog) Tryz.isAgg37 Tryz.sizeOf37
@[reducible, instance] def zl37 := ZeroL.ofAgg Tryz.zeroValue37
@[reducible, instance] def ic37 : InfoC Tryz.prog 37 32 := ⟨⟨_, Tryz.type37, rfl⟩⟩
@[reducible, instance] def fl37_0 : FieldC Tryz.prog 37 0 3 0 := ⟨⟨_, _, Tryz.underlying37, rfl, rfl, rfl⟩⟩
@[reducible, instance] def fl37_1 : FieldC Tryz.prog 37 1 3 1 := ⟨⟨_, _, Tryz.underlying37, rfl, rfl, rfl⟩⟩
@[reducible, instance] def fl37_2 : FieldC Tryz.prog 37 2 9 2 := ⟨⟨_, _, Tryz.underlying37, rfl, rfl, rfl⟩⟩
@[reducible, instance] def yc39 := TyC.mk (P := Tryz.prog) Tryz.isAgg39 Tryz.sizeOf39
@[reducible, instance] def zl39 := ZeroL.ofAgg Tryz.zeroValue39
@[reducible, instance] def ic39 : InfoC Tryz.prog 39 48 := ⟨⟨_, Tryz.type39, rfl⟩⟩
@[reducible, instance] def fl39_0 : FieldC Tryz.prog 39 0 9 0 := ⟨⟨_, _, Tryz.underlying39, rfl, rfl, rfl⟩⟩
@[reducible, instance] def fl39_1 : FieldC Tryz.prog 39 1 37 1 := ⟨⟨_, _, Tryz.underlying39, rfl, rfl, rfl⟩⟩
@[reducible, instance] def uc40 := UndC.mk Tryz.underlying40
@[reducible, instance] def uc54 := UndC.mk Tryz.underlying54
@[reducible, instance] def yc59 := TyC.mk (P := Tryz.prog) Tryz.isAgg59 Tryz.sizeOf59
@[reducible, instance] def zl59 := ZeroL.ofOne Tryz.zeroValue59
@[reducible, instance] def yc65 := TyC.mk (P := Tryz.prog) Tryz.isAgg65 Tryz.sizeOf65
@[reducible, instance] def uc65 := UndC.mk Tryz.underlying65
@[reducible, instance] def zl65 := ZeroL.ofAgg Tryz.zeroValue65
@[reducible, instance] def fl65_0 : FieldC Tryz.prog 65 0 27 0 := ⟨⟨_, _, Tryz.underlying65, rfl, rfl, rfl⟩⟩
@[reducible, instance] def fl65_1 : FieldC Tryz.prog 65 1 3 1 := ⟨⟨_, _, Tryz.underlying65, rfl, rfl, rfl⟩⟩
@[reducible, instance] def yc70 := TyC.mk (P := Tryz.prog) Tryz.isAgg70 Tryz.sizeOf70
@[reducible, instance] def zl70 := ZeroL.ofAgg Tryz.zeroValue70
@[reducible, instance] def fl70_0 : FieldC Tryz.prog 70 0 9 0 := ⟨⟨_, _, Tryz.underlying70, rfl, rfl, rfl⟩⟩
@[reducible, instance] def fl70_1 : FieldC Tryz.prog 70 1 9 1 := ⟨⟨_, _, Tryz.underlying70, rfl, rfl, rfl⟩⟩
@[reducible, instance] def fl70_2 : FieldC Tryz.prog 70 2 3 2 := ⟨⟨_, _, Tryz.underlying70, rfl, rfl, rfl⟩⟩
@[reducible, instance] def zl72 := ZeroL.ofAgg Tryz.zeroValue72
@[reducible, instance] def fl72_0 : FieldC Tryz.prog 72 0 9 0 := ⟨⟨_, _, Tryz.underlying72, rfl, rfl, rfl⟩⟩
@[reducible, instance] def fl72_1 : FieldC Tryz.prog 72 1 70 1 := ⟨⟨_, _, Tryz.underlying72, rfl, rfl, rfl⟩⟩
@[reducible, instance] def yc82 := TyC.mk (P := Tryz.prog) Tryz.isAgg82 Tryz.sizeOf82
@[reducible, instance] def uc82 := UndC.mk Tryz.underlying82
@[reducible, instance] def yc83 := TyC.mk (P := Tryz.prog) Tryz.isAgg83 Tryz.sizeOf83
@[reducible, instance] def uc83 := UndC.mk Tryz.underlying83
@[reducible, instance] def yc85 := TyC.mk (P := Tryz.prog) Tryz.isAgg85 Tryz.sizeOf85
@[reducible, instance] def zl85 := ZeroL.ofAgg Tryz.zeroValue85
@[reducible, instance] def ic85 : InfoC Tryz.prog 85 32 := ⟨⟨_, Tryz.type85, rfl⟩⟩
@[reducible, instance] def fl85_0 : FieldC Tryz.prog 85 0 82 0 := ⟨⟨_, _, Tryz.underlying85, rfl, rfl, rfl⟩⟩
@[reducible, instance] def fl85_1 : FieldC Tryz.prog 85 1 83 1 := ⟨⟨_, _, Tryz.underlying85, rfl, rfl, rfl⟩⟩
@[reducible, instance] def uc92 := UndC.mk Tryz.underlying92
@[reducible, instance] def yc96 := TyC.mk (P := Tryz.prog) Tryz.isAgg96 Tryz.sizeOf96
@[reducible, instance] def yc106 := TyC.mk (P := Tryz.prog) Tryz.isAgg106 Tryz.sizeOf106
@[reducible, instance] def zl106 := ZeroL.ofAgg Tryz.zeroValue106
@[reducible, instance] def fl106_0 : FieldC Tryz.prog 106 0 3 0 := ⟨⟨_, _, Tryz.underlying106, rfl, rfl, rfl⟩⟩
@[reducible, instance] def fl106_1 : FieldC Tryz.prog 106 1 3 1 := ⟨⟨_, _, Tryz.underlying106, rfl, rfl, rfl⟩⟩
@[reducible, instance] def fl106_2 : FieldC Tryz.prog 106 2 96 2 := ⟨⟨_, _, Tryz.underlying106, rfl, rfl, rfl⟩⟩
@[reducible, instance] def uc108 := UndC.mk Tryz.underlying108
@[reducible, instance] def uc115 := UndC.mk Tryz.underlying115
@[reducible, instance] def yc121 := TyC.mk (P := Tryz.prog) Tryz.isAgg121 Tryz.sizeOf121
@[reducible, instance] def zl121 := ZeroL.ofAgg Tryz.zeroValue121
@[reducible, instance] def fl121_0 : FieldC Tryz.prog 121 0 9 0 := ⟨⟨_, _, Tryz.underlying121, rfl, rfl, rfl⟩⟩
@[reducible, instance] def fl121_1 : FieldC Tryz.prog 121 1 3 1 := ⟨⟨_, _, Tryz.underlying121, rfl, rfl, rfl⟩⟩
@[reducible, instance] def fl121_2 : FieldC Tryz.prog 121 2 3 2 := ⟨⟨_, _, Tryz.underlying121, rfl, rfl, rfl⟩⟩
@[reducible, instance] def fl121_3 : FieldC Tryz.prog 121 3 3 3 := ⟨⟨_, _, Tryz.underlying121, rfl, rfl, rfl⟩⟩
@[reducible, instance] def uc129 := UndC.mk Tryz.underlying129
@[reducible, instance] def uc136 := UndC.mk Tryz.underlying136
@[reducible, instance] def yc137 := TyC.mk (P := Tryz.prog) Tryz.isAgg137 Tryz.sizeOf137
@[reducible, instance] def yc145 := TyC.mk (P := Tryz.prog) Tryz.isAgg145 Tryz.sizeOf145
@[reducible, instance] def uc166 := UndC.mk Tryz.underlying166
@[reducible, instance] def fc12 := FunC.mk Tryz.call12
@[reducible, instance] def fc14 := FunC.mk Tryz.call14
@[reducible, instance] def fc16 := FunC.mk Tryz.call16
@[reducible, instance] def fc19 := FunC.mk Tryz.call19
@[reducible, instance] def fc22 := FunC.mk Tryz.call22
@[reducible, instance] def fc29 := FunC.mk Tryz.call29
@[reducible, instance] def fc31 := FunC.mk Tryz.call31
@[reducible, instance] def fc35 := FunC.mk Tryz.call35
@[reducible, instance] def fc36 := FunC.mk Tryz.call36
@[reducible, instance] def fc38 := FunC.mk Tryz.call38
@[reducible, instance] def fc39 := FunC.mk Tryz.call39
@[reducible, instance] def fc40 := FunC.mk Tryz.call40
@[reducible, instance] def fc41 := FunC.mk Tryz.call41
@[reducible, instance] def fc42 := FunC.mk Tryz.call42
@[reducible, instance] def fc43 := FunC.mk Tryz.call43
@[reducible, instance] def fc47 := FunC.mk Tryz.call47
@[reducible, instance] def fc48 := FunC.mk Tryz.call48
@[reducible, instance] def fc49 := FunC.mk Tryz.call49
@[reducible, instance] def fc54 := FunC.mk Tryz.call54
@[reducible, instance] def fc55 := FunC.mk Tryz.call55
@[reducible, instance] def fc60 := FunC.mk Tryz.call60
@[reducible, instance] def fc61 := FunC.mk Tryz.call61
@[reducible, instance] def fc62 := FunC.mk Tryz.call62
@[reducible, instance] def fc63 := FunC.mk Tryz.call63
@[reducible, instance] def fc64 := FunC.mk Tryz.call64
@[reducible, instance] def fc65 := FunC.mk Tryz.call65
@[reducible, instance] def fc69 := FunC.mk Tryz.call69
@[reducible, instance] def fc70 := FunC.mk Tryz.call70
@[reducible, instance] def fc71 := FunC.mk Tryz.call71
@[reducible, instance] def fc72 := FunC.mk Tryz.call72
@[reducible, instance] def fc73 := FunC.mk Tryz.call73
@[reducible, instance] def fc79 := FunC.mk Tryz.call79
@[reducible, instance] def fc80 := FunC.mk Tryz.call80
@[reducible, instance] def fc81 := FunC.mk Tryz.call81
@[reducible, instance] def fc82 := FunC.mk Tryz.call82
@[reducible, instance] def fc83 := FunC.mk Tryz.call83
@[reducible, instance] def fc84 := FunC.mk Tryz.call84
@[reducible, instance] def fc85 := FunC.mk Tryz.call85
@[reducible, instance] def fc89 := FunC.mk Tryz.call89
@[reducible, instance] def fc90 := FunC.mk Tryz.call90
@[reducible, instance] def fc91 := FunC.mk Tryz.call91
@[reducible, instance] def fc92 := FunC.mk Tryz.call92
@[reducible, instance] def fc93 := FunC.mk Tryz.call93
@[reducible, instance] def fc94 := FunC.mk Tryz.call94
@[reducible, instance] def fc95 := FunC.mk Tryz.call95
@[reducible, instance] def fc96 := FunC.mk Tryz.call96
@[reducible, instance] def fc97 := FunC.mk Tryz.call97
@[reducible, instance] def fc99 := FunC.mk Tryz.call99
@[reducible, instance] def fc104 := FunC.mk Tryz.call104
@[reducible, instance] def fc105 := FunC.mk Tryz.call105
@[reducible, instance] def fc106 := FunC.mk Tryz.call106
@[reducible, instance] def fc108 := FunC.mk Tryz.call108
@[reducible, instance] def fc112 := FunC.mk Tryz.call112
@[reducible, instance] def fc113 := FunC.mk Tryz.call113
@[reducible, instance] def fc114 := FunC.mk Tryz.call114
@[reducible, instance] def fc115 := FunC.mk Tryz.call115
@[reducible, instance] def fc116 := FunC.mk Tryz.call116
@[reducible, instance] def fc117 := FunC.mk Tryz.call117
@[reducible, instance] def fc118 := FunC.mk Tryz.call118
@[reducible, instance] def fc119 := FunC.mk Tryz.call119
@[reducible, instance] def fc120 := FunC.mk Tryz.call120
@[reducible, instance] def fc121 := FunC.mk Tryz.call121
@[reducible, instance] def fc122 := FunC.mk Tryz.call122
@[reducible, instance] def fc123 := FunC.mk Tryz.call123
@[reducible, instance] def fc125 := FunC.mk Tryz.call125
@[reducible, instance] def fc126 := FunC.mk Tryz.call126
@[reducible, instance] def fc127 := FunC.mk Tryz.call127
@[reducible, instance] def fc128 := FunC.mk Tryz.call128
@[reducible, instance] def fc129 := FunC.mk Tryz.call129
@[reducible, instance] def fc130 := FunC.mk Tryz.call130
@[reducible, instance] def fc131 := FunC.mk Tryz.call131
@[reducible, instance] def fc132 := FunC.mk Tryz.call132
@[reducible, instance] def fc133 := FunC.mk Tryz.call133
@[reducible, instance] def fc135 := FunC.mk Tryz.call135
@[reducible, instance] def fc137 := FunC.mk Tryz.call137
@[reducible, instance] def fc138 := FunC.mk Tryz.call138
@[reducible, instance] def fc139 := FunC.mk Tryz.call139
@[reducible, instance] def fc140 := FunC.mk Tryz.call140
@[reducible, instance] def fc142 := FunC.mk Tryz.call142
@[reducible, instance] def fc143 := FunC.mk Tryz.call143
@[reducible, instance] def fc148 := FunC.mk Tryz.call148
@[reducible, instance] def fc149 := FunC.mk Tryz.call149
@[reducible, instance] def fc150 := FunC.mk Tryz.call150
@[reducible, instance] def fc151 := FunC.mk Tryz.call151
@[reducible, instance] def fc153 := FunC.mk Tryz.call153
@[reducible, instance] def fc154 := FunC.mk Tryz.call154
@[reducible, instance] def fc160 := FunC.mk Tryz.call160
@[reducible, instance] def fc161 := FunC.mk Tryz.call161
@[reducible, instance] def fc162 := FunC.mk Tryz.call162
@[reducible, instance] def fc180 := FunC.mk Tryz.call180
@[reducible, instance] def fc181 := FunC.mk Tryz.call181
@[reducible, instance] def fc182 := FunC.mk Tryz.call182
@[reducible, instance] def fc188 := FunC.mk Tryz.call188
@[reducible, instance] def fc189 := FunC.mk Tryz.call189
@[reducible, instance] def fc205 := FunC.mk Tryz.call205
@[reducible, instance] def fc217 := FunC.mk Tryz.call217
@[reducible, instance] def fc222 := FunC.mk Tryz.call222
@[reducible, instance] def fc223 := FunC.mk Tryz.call223
@[reducible, instance] def mixI : MixC Tryz.prog := ⟨by kernel_rfl⟩
end Go.Proofs.YtnoadopmeoohmaaGreatDoor
