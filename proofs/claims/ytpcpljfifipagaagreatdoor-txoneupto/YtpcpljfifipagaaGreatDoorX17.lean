/- A part of the proof: the engine that walks Go code, the walks of the broker, or their laws (Tlay). -/
import Derived.Ground.NamesProg
import Derived.Shelf.Strings.SplitCore
import Derived.Shelf.Strings.Split
import Derived.Shelf.Strings.Search3
import Derived.Shelf.Strings.Count
import Derived.Test.YtpcpljfifipagaaGreatDoorProg
import Derived.Test.YtpcpljfifipagaaGreatDoorX14
set_option linter.unusedSimpArgs false
set_option linter.unusedVariables false
set_option maxHeartbeats 8000000
set_option maxRecDepth 20000
namespace Go.Proofs
open Go.Shelf
def Tryz.lays221_ren : Go.Shelf.Ren := ⟨fun | 221 => 151 | 268 => 223 | 138 => 224 | 143 => 225 | 195 => 264 | 197 => 260 | 218 => 265 | 219 => 266 | 260 => 285 | 217 => 288 | 225 => 289 | 224 => 290 | 267 => 291 | 266 => 304 | 314 => 305 | n => n, fun | 9 => 9 | 3 => 3 | 31 => 133 | 4 => 4 | 0 => 0 | 105 => 252 | 21 => 21 | 5 => 5 | 46 => 257 | 119 => 277 | 139 => 280 | 138 => 279 | 146 => 283 | 51 => 282 | n => n, fun | 1 => 0 | 3 => 2 | 4 => 3 | n => n⟩
theorem Tryz.lays221 : Go.Proofs.Lays.n221 Tryz.prog Tryz.lays221_ren := {
  mixed := by kernel_rfl
  f138 := Tryz.func224.trans (congrArg some (by kernel_rfl))
  f143 := Tryz.func225.trans (congrArg some (by kernel_rfl))
  f195 := Tryz.func264.trans (congrArg some (by kernel_rfl))
  f197 := Tryz.func260.trans (congrArg some (by kernel_rfl))
  f217 := Tryz.func288.trans (congrArg some (by kernel_rfl))
  f218 := Tryz.func265.trans (congrArg some (by kernel_rfl))
  f219 := Tryz.func266.trans (congrArg some (by kernel_rfl))
  f221 := Tryz.func151.trans (congrArg some (by kernel_rfl))
  f224 := Tryz.func290.trans (congrArg some (by kernel_rfl))
  f225 := Tryz.func289.trans (congrArg some (by kernel_rfl))
  f260 := Tryz.func285.trans (congrArg some (by kernel_rfl))
  f266 := Tryz.func304.trans (congrArg some (by kernel_rfl))
  f267 := Tryz.func291.trans (congrArg some (by kernel_rfl))
  f268 := Tryz.func223.trans (congrArg some (by kernel_rfl))
  f314 := Tryz.func305.trans (congrArg some (by kernel_rfl))
  t0 := Tryz.underlying0
  a0 := Tryz.isAgg0
  z0 := Tryz.sizeOf0
  v0 := Tryz.zeroValue0
  t3 := Tryz.underlying3
  a3 := Tryz.isAgg3
  z3 := Tryz.sizeOf3
  v3 := Tryz.zeroValue3
  t4 := Tryz.underlying4
  a4 := Tryz.isAgg4
  z4 := Tryz.sizeOf4
  v4 := Tryz.zeroValue4
  t5 := Tryz.underlying5
  a5 := Tryz.isAgg5
  z5 := Tryz.sizeOf5
  v5 := Tryz.zeroValue5
  t9 := Tryz.underlying9
  a9 := Tryz.isAgg9
  z9 := Tryz.sizeOf9
  v9 := Tryz.zeroValue9
  t21 := Tryz.underlying21
  a21 := Tryz.isAgg21
  z21 := Tryz.sizeOf21
  v21 := Tryz.zeroValue21
  t31 := Tryz.underlying133
  a31 := Tryz.isAgg133
  z31 := Tryz.sizeOf133
  v31 := Tryz.zeroValue133
  t46 := Tryz.underlying257
  a46 := Tryz.isAgg257
  z46 := Tryz.sizeOf257
  v46 := Tryz.zeroValue257
  t51 := Tryz.underlying282
  a51 := Tryz.isAgg282
  z51 := Tryz.sizeOf282
  v51 := Tryz.zeroValue282
  t105 := Tryz.underlying252
  a105 := Tryz.isAgg252
  z105 := Tryz.sizeOf252
  v105 := Tryz.zeroValue252
  t119 := Tryz.underlying277
  a119 := Tryz.isAgg277
  z119 := Tryz.sizeOf277
  t138 := Tryz.underlying279
  a138 := Tryz.isAgg279
  z138 := Tryz.sizeOf279
  v138 := Tryz.zeroValue279
  t139 := Tryz.underlying280
  a139 := Tryz.isAgg280
  z139 := Tryz.sizeOf280
  v139 := Tryz.zeroValue280
  t146 := Tryz.underlying283
  a146 := Tryz.isAgg283
  z146 := Tryz.sizeOf283
  v146 := Tryz.zeroValue283
  g1 := by kernel_rfl
  g3 := by kernel_rfl
  g4 := by kernel_rfl }
end Go.Proofs
