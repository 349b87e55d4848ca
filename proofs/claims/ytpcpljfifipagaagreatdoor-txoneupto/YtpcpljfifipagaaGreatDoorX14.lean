/- A part of the proof: the engine that walks Go code, the walks of the broker, or their laws (Ty). -/
import Derived.Test.YtpcpljfifipagaaGreatDoorProg
import Derived.Test.YtpcpljfifipagaaGreatDoorX05
import Derived.KernelRfl
import Derived.Test.YtpcpljfifipagaaGreatDoorX00
import Derived.Test.YtpcpljfifipagaaGreatDoorX01
import Derived.Test.YtpcpljfifipagaaGreatDoorX02
import Derived.Test.YtpcpljfifipagaaGreatDoorX03
import Derived.Test.YtpcpljfifipagaaGreatDoorX04
import Derived.Test.YtpcpljfifipagaaGreatDoorX06
import Derived.Test.YtpcpljfifipagaaGreatDoorX07
import Derived.Test.YtpcpljfifipagaaGreatDoorX08
import Derived.Test.YtpcpljfifipagaaGreatDoorX09
import Derived.Test.YtpcpljfifipagaaGreatDoorX10
import Derived.Test.YtpcpljfifipagaaGreatDoorX11
import Derived.Test.YtpcpljfifipagaaGreatDoorX12
import Derived.Test.YtpcpljfifipagaaGreatDoorX13
set_option linter.unusedSimpArgs false
set_option linter.unusedVariables false
namespace Go.Proofs.YtpcpljfifipagaaGreatDoor
open Go.Eng
set_option maxRecDepth 100000
theorem td3 : TDok Tryz.prog 3 ⟨.int .i64, 1, 8, [.int .i64 0]⟩ := TDok.mk (by kernel_rfl) rfl Tryz.underlying3
theorem td4 : TDok Tryz.prog 4 ⟨.bool, 1, 1, [.bool false]⟩ := TDok.mk (by kernel_rfl) rfl Tryz.underlying4
theorem td5 : TDok Tryz.prog 5 ⟨.int .u8, 1, 1, [.int .u8 0]⟩ := TDok.mk (by kernel_rfl) rfl Tryz.underlying5
theorem td9 : TDok Tryz.prog 9 ⟨.str, 1, 16, [.string ⟨#[]⟩]⟩ := TDok.mk (by kernel_rfl) rfl Tryz.underlying9
theorem td21 : TDok Tryz.prog 21 ⟨.int .i32, 1, 4, [.int .i32 0]⟩ := TDok.mk (by kernel_rfl) rfl Tryz.underlying21
theorem td22 : TDok Tryz.prog 22 ⟨.slice 35, 1, 24, [.slice none 0 0]⟩ := TDok.mk (by kernel_rfl) rfl Tryz.underlying22
theorem td24 : TDok Tryz.prog 24 ⟨.slice 44, 1, 24, [.slice none 0 0]⟩ := TDok.mk (by kernel_rfl) rfl Tryz.underlying24
theorem td25 : TDok Tryz.prog 25 ⟨.slice 54, 1, 24, [.slice none 0 0]⟩ := TDok.mk (by kernel_rfl) rfl Tryz.underlying25
theorem td26 : TDok Tryz.prog 26 ⟨.slice 46, 1, 24, [.slice none 0 0]⟩ := TDok.mk (by kernel_rfl) rfl Tryz.underlying26
theorem td27 : TDok Tryz.prog 27 ⟨.slice 33, 1, 24, [.slice none 0 0]⟩ := TDok.mk (by kernel_rfl) rfl Tryz.underlying27
theorem td28 : TDok Tryz.prog 28 ⟨.slice 89, 1, 24, [.slice none 0 0]⟩ := TDok.mk (by kernel_rfl) rfl Tryz.underlying28
theorem td30 : TDok Tryz.prog 30 ⟨.struct [(0, 3), (1, 24), (2, 25), (3, 26), (4, 27), (5, 28)] false, 6, 128, [.int .i64 0, .slice none 0 0, .slice none 0 0, .slice none 0 0, .slice none 0 0, .slice none 0 0]⟩ := TDok.mk (by kernel_rfl) rfl ⟨_, Tryz.underlying30, rfl, ⟨[(0, 1), (1, 1), (2, 1), (3, 1), (4, 1), (5, 1)], by kernel_rfl⟩, fun h => by cases h⟩
theorem td31 : TDok Tryz.prog 31 ⟨.slice 85, 1, 24, [.slice none 0 0]⟩ := TDok.mk (by kernel_rfl) rfl Tryz.underlying31
theorem td33 : TDok Tryz.prog 33 ⟨.struct [(0, 9), (1, 9), (2, 31), (3, 4), (4, 3)] false, 5, 72, [.string ⟨#[]⟩, .string ⟨#[]⟩, .slice none 0 0, .bool false, .int .i64 0]⟩ := TDok.mk (by kernel_rfl) rfl ⟨_, Tryz.underlying33, rfl, ⟨[(0, 1), (1, 1), (2, 1), (3, 1), (4, 1)], by kernel_rfl⟩, fun h => by cases h⟩
theorem td35 : TDok Tryz.prog 35 ⟨.struct [(0, 3), (1, 3), (2, 3), (3, 3), (4, 9), (5, 9), (6, 4), (7, 4), (8, 4), (9, 33)] false, 14, 144, [.int .i64 0, .int .i64 0, .int .i64 0, .int .i64 0, .string ⟨#[]⟩, .string ⟨#[]⟩, .bool false, .bool false, .bool false, .string ⟨#[]⟩, .string ⟨#[]⟩, .slice none 0 0, .bool false, .int .i64 0]⟩ := TDok.mk (by kernel_rfl) rfl ⟨_, Tryz.underlying35, rfl, ⟨[(0, 1), (1, 1), (2, 1), (3, 1), (4, 1), (5, 1), (6, 1), (7, 1), (8, 1), (9, 5)], by kernel_rfl⟩, fun h => by cases h⟩
theorem td36 : TDok Tryz.prog 36 ⟨.slice 80, 1, 24, [.slice none 0 0]⟩ := TDok.mk (by kernel_rfl) rfl Tryz.underlying36
theorem td37 : TDok Tryz.prog 37 ⟨.int .i64, 1, 8, [.int .i64 0]⟩ := TDok.mk (by kernel_rfl) rfl Tryz.underlying37
theorem td41 : TDok Tryz.prog 41 ⟨.slice 50, 1, 24, [.slice none 0 0]⟩ := TDok.mk (by kernel_rfl) rfl Tryz.underlying41
theorem td42 : TDok Tryz.prog 42 ⟨.slice 77, 1, 24, [.slice none 0 0]⟩ := TDok.mk (by kernel_rfl) rfl Tryz.underlying42
theorem td44 : TDok Tryz.prog 44 ⟨.struct [(0, 9), (1, 4), (2, 3), (3, 3), (4, 3), (5, 41), (6, 42)] false, 7, 96, [.string ⟨#[]⟩, .bool false, .int .i64 0, .int .i64 0, .int .i64 0, .slice none 0 0, .slice none 0 0]⟩ := TDok.mk (by kernel_rfl) rfl ⟨_, Tryz.underlying44, rfl, ⟨[(0, 1), (1, 1), (2, 1), (3, 1), (4, 1), (5, 1), (6, 1)], by kernel_rfl⟩, fun h => by cases h⟩
theorem td46 : TDok Tryz.prog 46 ⟨.struct [(0, 3), (1, 3), (2, 9), (3, 3), (4, 4)] true, 5, 48, [.int .i64 0, .int .i64 0, .string ⟨#[]⟩, .int .i64 0, .bool false]⟩ := TDok.mk (by kernel_rfl) rfl ⟨_, Tryz.underlying46, rfl, ⟨[(0, 1), (1, 1), (2, 1), (3, 1), (4, 1)], by kernel_rfl⟩, fun h => ⟨by kernel_rfl, by kernel_rfl, rfl⟩⟩
theorem td50 : TDok Tryz.prog 50 ⟨.struct [(0, 3), (1, 4), (2, 33)] false, 7, 88, [.int .i64 0, .bool false, .string ⟨#[]⟩, .string ⟨#[]⟩, .slice none 0 0, .bool false, .int .i64 0]⟩ := TDok.mk (by kernel_rfl) rfl ⟨_, Tryz.underlying50, rfl, ⟨[(0, 1), (1, 1), (2, 5)], by kernel_rfl⟩, fun h => by cases h⟩
theorem td52 : TDok Tryz.prog 52 ⟨.func, 1, 8, [.nilFunc]⟩ := TDok.mk (by kernel_rfl) rfl ⟨_, _, _, Tryz.underlying52⟩
theorem td54 : TDok Tryz.prog 54 ⟨.struct [(0, 9), (1, 9)] true, 2, 32, [.string ⟨#[]⟩, .string ⟨#[]⟩]⟩ := TDok.mk (by kernel_rfl) rfl ⟨_, Tryz.underlying54, rfl, ⟨[(0, 1), (1, 1)], by kernel_rfl⟩, fun h => ⟨by kernel_rfl, by kernel_rfl, rfl⟩⟩
theorem td62 : TDok Tryz.prog 62 ⟨.func, 1, 8, [.nilFunc]⟩ := TDok.mk (by kernel_rfl) rfl ⟨_, _, _, Tryz.underlying62⟩
theorem td77 : TDok Tryz.prog 77 ⟨.struct [(0, 3), (1, 3), (2, 3), (3, 50)] false, 10, 112, [.int .i64 0, .int .i64 0, .int .i64 0, .int .i64 0, .bool false, .string ⟨#[]⟩, .string ⟨#[]⟩, .slice none 0 0, .bool false, .int .i64 0]⟩ := TDok.mk (by kernel_rfl) rfl ⟨_, Tryz.underlying77, rfl, ⟨[(0, 1), (1, 1), (2, 1), (3, 7)], by kernel_rfl⟩, fun h => by cases h⟩
theorem td80 : TDok Tryz.prog 80 ⟨.struct [(0, 3), (1, 3), (2, 3), (3, 9), (4, 4), (5, 4), (6, 33)] false, 11, 120, [.int .i64 0, .int .i64 0, .int .i64 0, .string ⟨#[]⟩, .bool false, .bool false, .string ⟨#[]⟩, .string ⟨#[]⟩, .slice none 0 0, .bool false, .int .i64 0]⟩ := TDok.mk (by kernel_rfl) rfl ⟨_, Tryz.underlying80, rfl, ⟨[(0, 1), (1, 1), (2, 1), (3, 1), (4, 1), (5, 1), (6, 5)], by kernel_rfl⟩, fun h => by cases h⟩
theorem td81 : TDok Tryz.prog 81 ⟨.flt, 1, 8, [.float .f64 0]⟩ := TDok.mk (by kernel_rfl) rfl Tryz.underlying81
theorem td83 : TDok Tryz.prog 83 ⟨.struct [(0, 3), (1, 3), (2, 9), (3, 81)] false, 4, 40, [.int .i64 0, .int .i64 0, .string ⟨#[]⟩, .float .f64 0]⟩ := TDok.mk (by kernel_rfl) rfl ⟨_, Tryz.underlying83, rfl, ⟨[(0, 1), (1, 1), (2, 1), (3, 1)], by kernel_rfl⟩, fun h => by cases h⟩
theorem td85 : TDok Tryz.prog 85 ⟨.struct [(0, 9), (1, 83)] false, 5, 56, [.string ⟨#[]⟩, .int .i64 0, .int .i64 0, .string ⟨#[]⟩, .float .f64 0]⟩ := TDok.mk (by kernel_rfl) rfl ⟨_, Tryz.underlying85, rfl, ⟨[(0, 1), (1, 4)], by kernel_rfl⟩, fun h => by cases h⟩
theorem td86 : TDok Tryz.prog 86 ⟨.slice 30, 1, 24, [.slice none 0 0]⟩ := TDok.mk (by kernel_rfl) rfl Tryz.underlying86
theorem td87 : TDok Tryz.prog 87 ⟨.slice 3, 1, 24, [.slice none 0 0]⟩ := TDok.mk (by kernel_rfl) rfl Tryz.underlying87
theorem td89 : TDok Tryz.prog 89 ⟨.struct [(0, 9), (1, 87)] false, 2, 40, [.string ⟨#[]⟩, .slice none 0 0]⟩ := TDok.mk (by kernel_rfl) rfl ⟨_, Tryz.underlying89, rfl, ⟨[(0, 1), (1, 1)], by kernel_rfl⟩, fun h => by cases h⟩
theorem td98 : TDok Tryz.prog 98 ⟨.func, 1, 8, [.nilFunc]⟩ := TDok.mk (by kernel_rfl) rfl ⟨_, _, _, Tryz.underlying98⟩
theorem td101 : TDok Tryz.prog 101 ⟨.struct [(0, 37)] true, 1, 8, [.int .i64 0]⟩ := TDok.mk (by kernel_rfl) rfl ⟨_, Tryz.underlying101, rfl, ⟨[(0, 1)], by kernel_rfl⟩, fun h => ⟨by kernel_rfl, by kernel_rfl, rfl⟩⟩
theorem td102 : TDok Tryz.prog 102 ⟨.ptr, 1, 8, [.pointer none]⟩ := TDok.mk (by kernel_rfl) rfl ⟨_, Tryz.underlying102⟩
theorem td103 : TDok Tryz.prog 103 ⟨.ptr, 1, 8, [.pointer none]⟩ := TDok.mk (by kernel_rfl) rfl ⟨_, Tryz.underlying103⟩
theorem td105 : TDok Tryz.prog 105 ⟨.struct [(0, 103), (1, 36)] false, 2, 32, [.pointer none, .slice none 0 0]⟩ := TDok.mk (by kernel_rfl) rfl ⟨_, Tryz.underlying105, rfl, ⟨[(0, 1), (1, 1)], by kernel_rfl⟩, fun h => by cases h⟩
theorem td108 : TDok Tryz.prog 108 ⟨.func, 1, 8, [.nilFunc]⟩ := TDok.mk (by kernel_rfl) rfl ⟨_, _, _, Tryz.underlying108⟩
theorem td110 : TDok Tryz.prog 110 ⟨.func, 1, 8, [.nilFunc]⟩ := TDok.mk (by kernel_rfl) rfl ⟨_, _, _, Tryz.underlying110⟩
theorem td112 : TDok Tryz.prog 112 ⟨.func, 1, 8, [.nilFunc]⟩ := TDok.mk (by kernel_rfl) rfl ⟨_, _, _, Tryz.underlying112⟩
theorem td114 : TDok Tryz.prog 114 ⟨.func, 1, 8, [.nilFunc]⟩ := TDok.mk (by kernel_rfl) rfl ⟨_, _, _, Tryz.underlying114⟩
theorem td116 : TDok Tryz.prog 116 ⟨.func, 1, 8, [.nilFunc]⟩ := TDok.mk (by kernel_rfl) rfl ⟨_, _, _, Tryz.underlying116⟩
theorem td118 : TDok Tryz.prog 118 ⟨.func, 1, 8, [.nilFunc]⟩ := TDok.mk (by kernel_rfl) rfl ⟨_, _, _, Tryz.underlying118⟩
theorem td121 : TDok Tryz.prog 121 ⟨.func, 1, 8, [.nilFunc]⟩ := TDok.mk (by kernel_rfl) rfl ⟨_, _, _, Tryz.underlying121⟩
theorem td124 : TDok Tryz.prog 124 ⟨.func, 1, 8, [.nilFunc]⟩ := TDok.mk (by kernel_rfl) rfl ⟨_, _, _, Tryz.underlying124⟩
theorem td128 : TDok Tryz.prog 128 ⟨.func, 1, 8, [.nilFunc]⟩ := TDok.mk (by kernel_rfl) rfl ⟨_, _, _, Tryz.underlying128⟩
theorem td130 : TDok Tryz.prog 130 ⟨.func, 1, 8, [.nilFunc]⟩ := TDok.mk (by kernel_rfl) rfl ⟨_, _, _, Tryz.underlying130⟩
theorem td131 : TDok Tryz.prog 131 ⟨.func, 1, 8, [.nilFunc]⟩ := TDok.mk (by kernel_rfl) rfl ⟨_, _, _, Tryz.underlying131⟩
theorem td133 : TDok Tryz.prog 133 ⟨.slice 9, 1, 24, [.slice none 0 0]⟩ := TDok.mk (by kernel_rfl) rfl Tryz.underlying133
theorem td138 : TDok Tryz.prog 138 ⟨.ptr, 1, 8, [.pointer none]⟩ := TDok.mk (by kernel_rfl) rfl ⟨_, Tryz.underlying138⟩
theorem td140 : TDok Tryz.prog 140 ⟨.struct [(0, 30), (6, 36)] false, 7, 152, [.int .i64 0, .slice none 0 0, .slice none 0 0, .slice none 0 0, .slice none 0 0, .slice none 0 0, .slice none 0 0]⟩ := TDok.mk (by kernel_rfl) rfl ⟨_, Tryz.underlying140, rfl, ⟨[(0, 6), (6, 1)], by kernel_rfl⟩, fun h => by cases h⟩
theorem td146 : TDok Tryz.prog 146 ⟨.func, 1, 8, [.nilFunc]⟩ := TDok.mk (by kernel_rfl) rfl ⟨_, _, _, Tryz.underlying146⟩
theorem td185 : TDok Tryz.prog 185 ⟨.ptr, 1, 8, [.pointer none]⟩ := TDok.mk (by kernel_rfl) rfl ⟨_, Tryz.underlying185⟩
theorem td216 : TDok Tryz.prog 216 ⟨.arr 256 4, 256, 256, List.replicate 256 (.bool false)⟩ := TDok.mk (by kernel_rfl) rfl Tryz.underlying216
theorem td220 : TDok Tryz.prog 220 ⟨.ptr, 1, 8, [.pointer none]⟩ := TDok.mk (by kernel_rfl) rfl ⟨_, Tryz.underlying220⟩
theorem td222 : TDok Tryz.prog 222 ⟨.int .u64, 1, 8, [.int .u64 0]⟩ := TDok.mk (by kernel_rfl) rfl Tryz.underlying222
theorem td232 : TDok Tryz.prog 232 ⟨.func, 1, 8, [.nilFunc]⟩ := TDok.mk (by kernel_rfl) rfl ⟨_, _, _, Tryz.underlying232⟩
theorem td244 : TDok Tryz.prog 244 ⟨.func, 1, 8, [.nilFunc]⟩ := TDok.mk (by kernel_rfl) rfl ⟨_, _, _, Tryz.underlying244⟩
theorem td248 : TDok Tryz.prog 248 ⟨.func, 1, 8, [.nilFunc]⟩ := TDok.mk (by kernel_rfl) rfl ⟨_, _, _, Tryz.underlying248⟩
theorem td257 : TDok Tryz.prog 257 ⟨.int .u64, 1, 8, [.int .u64 0]⟩ := TDok.mk (by kernel_rfl) rfl Tryz.underlying257
theorem td277 : TDok Tryz.prog 277 ⟨.arr 256 5, 256, 256, List.replicate 256 (.int .u8 0)⟩ := TDok.mk (by kernel_rfl) rfl Tryz.underlying277
theorem td279 : TDok Tryz.prog 279 ⟨.struct [(0, 5), (1, 5)] false, 2, 2, [.int .u8 0, .int .u8 0]⟩ := TDok.mk (by kernel_rfl) rfl ⟨_, Tryz.underlying279, rfl, ⟨[(0, 1), (1, 1)], by kernel_rfl⟩, fun h => by cases h⟩
theorem td280 : TDok Tryz.prog 280 ⟨.arr 16 279, 32, 32, List.replicate 32 (.int .u8 0)⟩ := TDok.mk (by kernel_rfl) rfl Tryz.underlying280
theorem td282 : TDok Tryz.prog 282 ⟨.int .u32, 1, 4, [.int .u32 0]⟩ := TDok.mk (by kernel_rfl) rfl Tryz.underlying282
def tbl : List (Nat × TD) := [(3, ⟨.int .i64, 1, 8, [.int .i64 0]⟩),
  (4, ⟨.bool, 1, 1, [.bool false]⟩),
  (5, ⟨.int .u8, 1, 1, [.int .u8 0]⟩),
  (9, ⟨.str, 1, 16, [.string ⟨#[]⟩]⟩),
  (21, ⟨.int .i32, 1, 4, [.int .i32 0]⟩),
  (22, ⟨.slice 35, 1, 24, [.slice none 0 0]⟩),
  (24, ⟨.slice 44, 1, 24, [.slice none 0 0]⟩),
  (25, ⟨.slice 54, 1, 24, [.slice none 0 0]⟩),
  (26, ⟨.slice 46, 1, 24, [.slice none 0 0]⟩),
  (27, ⟨.slice 33, 1, 24, [.slice none 0 0]⟩),
  (28, ⟨.slice 89, 1, 24, [.slice none 0 0]⟩),
  (30, ⟨.struct [(0, 3), (1, 24), (2, 25), (3, 26), (4, 27), (5, 28)] false, 6, 128, [.int .i64 0, .slice none 0 0, .slice none 0 0, .slice none 0 0, .slice none 0 0, .slice none 0 0]⟩),
  (31, ⟨.slice 85, 1, 24, [.slice none 0 0]⟩),
  (33, ⟨.struct [(0, 9), (1, 9), (2, 31), (3, 4), (4, 3)] false, 5, 72, [.string ⟨#[]⟩, .string ⟨#[]⟩, .slice none 0 0, .bool false, .int .i64 0]⟩),
  (35, ⟨.struct [(0, 3), (1, 3), (2, 3), (3, 3), (4, 9), (5, 9), (6, 4), (7, 4), (8, 4), (9, 33)] false, 14, 144, [.int .i64 0, .int .i64 0, .int .i64 0, .int .i64 0, .string ⟨#[]⟩, .string ⟨#[]⟩, .bool false, .bool false, .bool false, .string ⟨#[]⟩, .string ⟨#[]⟩, .slice none 0 0, .bool false, .int .i64 0]⟩),
  (36, ⟨.slice 80, 1, 24, [.slice none 0 0]⟩),
  (37, ⟨.int .i64, 1, 8, [.int .i64 0]⟩),
  (41, ⟨.slice 50, 1, 24, [.slice none 0 0]⟩),
  (42, ⟨.slice 77, 1, 24, [.slice none 0 0]⟩),
  (44, ⟨.struct [(0, 9), (1, 4), (2, 3), (3, 3), (4, 3), (5, 41), (6, 42)] false, 7, 96, [.string ⟨#[]⟩, .bool false, .int .i64 0, .int .i64 0, .int .i64 0, .slice none 0 0, .slice none 0 0]⟩),
  (46, ⟨.struct [(0, 3), (1, 3), (2, 9), (3, 3), (4, 4)] true, 5, 48, [.int .i64 0, .int .i64 0, .string ⟨#[]⟩, .int .i64 0, .bool false]⟩),
  (50, ⟨.struct [(0, 3), (1, 4), (2, 33)] false, 7, 88, [.int .i64 0, .bool false, .string ⟨#[]⟩, .string ⟨#[]⟩, .slice none 0 0, .bool false, .int .i64 0]⟩),
  (52, ⟨.func, 1, 8, [.nilFunc]⟩),
  (54, ⟨.struct [(0, 9), (1, 9)] true, 2, 32, [.string ⟨#[]⟩, .string ⟨#[]⟩]⟩),
  (62, ⟨.func, 1, 8, [.nilFunc]⟩),
  (77, ⟨.struct [(0, 3), (1, 3), (2, 3), (3, 50)] false, 10, 112, [.int .i64 0, .int .i64 0, .int .i64 0, .int .i64 0, .bool false, .string ⟨#[]⟩, .string ⟨#[]⟩, .slice none 0 0, .bool false, .int .i64 0]⟩),
  (80, ⟨.struct [(0, 3), (1, 3), (2, 3), (3, 9), (4, 4), (5, 4), (6, 33)] false, 11, 120, [.int .i64 0, .int .i64 0, .int .i64 0, .string ⟨#[]⟩, .bool false, .bool false, .string ⟨#[]⟩, .string ⟨#[]⟩, .slice none 0 0, .bool false, .int .i64 0]⟩),
  (81, ⟨.flt, 1, 8, [.float .f64 0]⟩),
  (83, ⟨.struct [(0, 3), (1, 3), (2, 9), (3, 81)] false, 4, 40, [.int .i64 0, .int .i64 0, .string ⟨#[]⟩, .float .f64 0]⟩),
  (85, ⟨.struct [(0, 9), (1, 83)] false, 5, 56, [.string ⟨#[]⟩, .int .i64 0, .int .i64 0, .string ⟨#[]⟩, .float .f64 0]⟩),
  (86, ⟨.slice 30, 1, 24, [.slice none 0 0]⟩),
  (87, ⟨.slice 3, 1, 24, [.slice none 0 0]⟩),
  (89, ⟨.struct [(0, 9), (1, 87)] false, 2, 40, [.string ⟨#[]⟩, .slice none 0 0]⟩),
  (98, ⟨.func, 1, 8, [.nilFunc]⟩),
  (101, ⟨.struct [(0, 37)] true, 1, 8, [.int .i64 0]⟩),
  (102, ⟨.ptr, 1, 8, [.pointer none]⟩),
  (103, ⟨.ptr, 1, 8, [.pointer none]⟩),
  (105, ⟨.struct [(0, 103), (1, 36)] false, 2, 32, [.pointer none, .slice none 0 0]⟩),
  (108, ⟨.func, 1, 8, [.nilFunc]⟩),
  (110, ⟨.func, 1, 8, [.nilFunc]⟩),
  (112, ⟨.func, 1, 8, [.nilFunc]⟩),
  (114, ⟨.func, 1, 8, [.nilFunc]⟩),
  (116, ⟨.func, 1, 8, [.nilFunc]⟩),
  (118, ⟨.func, 1, 8, [.nilFunc]⟩),
  (121, ⟨.func, 1, 8, [.nilFunc]⟩),
  (124, ⟨.func, 1, 8, [.nilFunc]⟩),
  (128, ⟨.func, 1, 8, [.nilFunc]⟩),
  (130, ⟨.func, 1, 8, [.nilFunc]⟩),
  (131, ⟨.func, 1, 8, [.nilFunc]⟩),
  (133, ⟨.slice 9, 1, 24, [.slice none 0 0]⟩),
  (138, ⟨.ptr, 1, 8, [.pointer none]⟩),
  (140, ⟨.struct [(0, 30), (6, 36)] false, 7, 152, [.int .i64 0, .slice none 0 0, .slice none 0 0, .slice none 0 0, .slice none 0 0, .slice none 0 0, .slice none 0 0]⟩),
  (146, ⟨.func, 1, 8, [.nilFunc]⟩),
  (185, ⟨.ptr, 1, 8, [.pointer none]⟩),
  (216, ⟨.arr 256 4, 256, 256, List.replicate 256 (.bool false)⟩),
  (220, ⟨.ptr, 1, 8, [.pointer none]⟩),
  (222, ⟨.int .u64, 1, 8, [.int .u64 0]⟩),
  (232, ⟨.func, 1, 8, [.nilFunc]⟩),
  (244, ⟨.func, 1, 8, [.nilFunc]⟩),
  (248, ⟨.func, 1, 8, [.nilFunc]⟩),
  (257, ⟨.int .u64, 1, 8, [.int .u64 0]⟩),
  (277, ⟨.arr 256 5, 256, 256, List.replicate 256 (.int .u8 0)⟩),
  (279, ⟨.struct [(0, 5), (1, 5)] false, 2, 2, [.int .u8 0, .int .u8 0]⟩),
  (280, ⟨.arr 16 279, 32, 32, List.replicate 32 (.int .u8 0)⟩),
  (282, ⟨.int .u32, 1, 4, [.int .u32 0]⟩)]
def D : Types := fun t => (tbl.find? fun e => e.1 == t).map (·.2)
theorem D_ok : Types.ok Tryz.prog D := by
  intro t d h
  simp only [D, Option.map_eq_some_iff] at h
  obtain ⟨⟨t', d'⟩, h1, rfl⟩ := h
  have h2 := List.mem_of_find?_eq_some h1
  have h3 : t' = t := by have := List.find?_some h1; simpa using this
  subst h3
  simp only [tbl, List.mem_cons, List.not_mem_nil, or_false] at h2
  revert h2
  simp only [or_imp, Prod.mk.injEq, and_imp]
  exact by
    refine ⟨fun e1 e2 => by subst e1; subst e2; exact td3, fun e1 e2 => by subst e1; subst e2; exact td4, fun e1 e2 => by subst e1; subst e2; exact td5, fun e1 e2 => by subst e1; subst e2; exact td9, fun e1 e2 => by subst e1; subst e2; exact td21, fun e1 e2 => by subst e1; subst e2; exact td22, fun e1 e2 => by subst e1; subst e2; exact td24, fun e1 e2 => by subst e1; subst e2; exact td25, fun e1 e2 => by subst e1; subst e2; exact td26, fun e1 e2 => by subst e1; subst e2; exact td27, fun e1 e2 => by subst e1; subst e2; exact td28, fun e1 e2 => by subst e1; subst e2; exact td30, fun e1 e2 => by subst e1; subst e2; exact td31, fun e1 e2 => by subst e1; subst e2; exact td33, fun e1 e2 => by subst e1; subst e2; exact td35, fun e1 e2 => by subst e1; subst e2; exact td36, fun e1 e2 => by subst e1; subst e2; exact td37, fun e1 e2 => by subst e1; subst e2; exact td41, fun e1 e2 => by subst e1; subst e2; exact td42, fun e1 e2 => by subst e1; subst e2; exact td44, fun e1 e2 => by subst e1; subst e2; exact td46, fun e1 e2 => by subst e1; subst e2; exact td50, fun e1 e2 => by subst e1; subst e2; exact td52, fun e1 e2 => by subst e1; subst e2; exact td54, fun e1 e2 => by subst e1; subst e2; exact td62, fun e1 e2 => by subst e1; subst e2; exact td77, fun e1 e2 => by subst e1; subst e2; exact td80, fun e1 e2 => by subst e1; subst e2; exact td81, fun e1 e2 => by subst e1; subst e2; exact td83, fun e1 e2 => by subst e1; subst e2; exact td85, fun e1 e2 => by subst e1; subst e2; exact td86, fun e1 e2 => by subst e1; subst e2; exact td87, fun e1 e2 => by subst e1; subst e2; exact td89, fun e1 e2 => by subst e1; subst e2; exact td98, fun e1 e2 => by subst e1; subst e2; exact td101, fun e1 e2 => by subst e1; subst e2; exact td102, fun e1 e2 => by subst e1; subst e2; exact td103, fun e1 e2 => by subst e1; subst e2; exact td105, fun e1 e2 => by subst e1; subst e2; exact td108, fun e1 e2 => by subst e1; subst e2; exact td110, fun e1 e2 => by subst e1; subst e2; exact td112, fun e1 e2 => by subst e1; subst e2; exact td114, fun e1 e2 => by subst e1; subst e2; exact td116, fun e1 e2 => by subst e1; subst e2; exact td118, fun e1 e2 => by subst e1; subst e2; exact td121, fun e1 e2 => by subst e1; subst e2; exact td124, fun e1 e2 => by subst e1; subst e2; exact td128, fun e1 e2 => by subst e1; subst e2; exact td130, fun e1 e2 => by subst e1; subst e2; exact td131, fun e1 e2 => by subst e1; subst e2; exact td133, fun e1 e2 => by subst e1; subst e2; exact td138, fun e1 e2 => by subst e1; subst e2; exact td140, fun e1 e2 => by subst e1; subst e2; exact td146, fun e1 e2 => by subst e1; subst e2; exact td185, fun e1 e2 => by subst e1; subst e2; exact td216, fun e1 e2 => by subst e1; subst e2; exact td220, fun e1 e2 => by subst e1; subst e2; exact td222, fun e1 e2 => by subst e1; subst e2; exact td232, fun e1 e2 => by subst e1; subst e2; exact td244, fun e1 e2 => by subst e1; subst e2; exact td248, fun e1 e2 => by subst e1; subst e2; exact td257, fun e1 e2 => by subst e1; subst e2; exact td277, fun e1 e2 => by subst e1; subst e2; exact td279, fun e1 e2 => by subst e1; subst e2; exact td280, fun e1 e2 => by subst e1; subst e2; exact td282⟩
theorem D_3 : D 3 = some ⟨.int .i64, 1, 8, [.int .i64 0]⟩ := rfl
theorem D_4 : D 4 = some ⟨.bool, 1, 1, [.bool false]⟩ := rfl
theorem D_5 : D 5 = some ⟨.int .u8, 1, 1, [.int .u8 0]⟩ := rfl
theorem D_9 : D 9 = some ⟨.str, 1, 16, [.string ⟨#[]⟩]⟩ := rfl
theorem D_22 : D 22 = some ⟨.slice 35, 1, 24, [.slice none 0 0]⟩ := rfl
theorem D_24 : D 24 = some ⟨.slice 44, 1, 24, [.slice none 0 0]⟩ := rfl
theorem D_25 : D 25 = some ⟨.slice 54, 1, 24, [.slice none 0 0]⟩ := rfl
theorem D_26 : D 26 = some ⟨.slice 46, 1, 24, [.slice none 0 0]⟩ := rfl
theorem D_27 : D 27 = some ⟨.slice 33, 1, 24, [.slice none 0 0]⟩ := rfl
theorem D_28 : D 28 = some ⟨.slice 89, 1, 24, [.slice none 0 0]⟩ := rfl
theorem D_30 : D 30 = some ⟨.struct [(0, 3), (1, 24), (2, 25), (3, 26), (4, 27), (5, 28)] false, 6, 128, [.int .i64 0, .slice none 0 0, .slice none 0 0, .slice none 0 0, .slice none 0 0, .slice none 0 0]⟩ := rfl
theorem D_31 : D 31 = some ⟨.slice 85, 1, 24, [.slice none 0 0]⟩ := rfl
theorem D_33 : D 33 = some ⟨.struct [(0, 9), (1, 9), (2, 31), (3, 4), (4, 3)] false, 5, 72, [.string ⟨#[]⟩, .string ⟨#[]⟩, .slice none 0 0, .bool false, .int .i64 0]⟩ := rfl
theorem D_35 : D 35 = some ⟨.struct [(0, 3), (1, 3), (2, 3), (3, 3), (4, 9), (5, 9), (6, 4), (7, 4), (8, 4), (9, 33)] false, 14, 144, [.int .i64 0, .int .i64 0, .int .i64 0, .int .i64 0, .string ⟨#[]⟩, .string ⟨#[]⟩, .bool false, .bool false, .bool false, .string ⟨#[]⟩, .string ⟨#[]⟩, .slice none 0 0, .bool false, .int .i64 0]⟩ := rfl
theorem D_36 : D 36 = some ⟨.slice 80, 1, 24, [.slice none 0 0]⟩ := rfl
theorem D_37 : D 37 = some ⟨.int .i64, 1, 8, [.int .i64 0]⟩ := rfl
theorem D_41 : D 41 = some ⟨.slice 50, 1, 24, [.slice none 0 0]⟩ := rfl
theorem D_42 : D 42 = some ⟨.slice 77, 1, 24, [.slice none 0 0]⟩ := rfl
theorem D_44 : D 44 = some ⟨.struct [(0, 9), (1, 4), (2, 3), (3, 3), (4, 3), (5, 41), (6, 42)] false, 7, 96, [.string ⟨#[]⟩, .bool false, .int .i64 0, .int .i64 0, .int .i64 0, .slice none 0 0, .slice none 0 0]⟩ := rfl
theorem D_46 : D 46 = some ⟨.struct [(0, 3), (1, 3), (2, 9), (3, 3), (4, 4)] true, 5, 48, [.int .i64 0, .int .i64 0, .string ⟨#[]⟩, .int .i64 0, .bool false]⟩ := rfl
theorem D_50 : D 50 = some ⟨.struct [(0, 3), (1, 4), (2, 33)] false, 7, 88, [.int .i64 0, .bool false, .string ⟨#[]⟩, .string ⟨#[]⟩, .slice none 0 0, .bool false, .int .i64 0]⟩ := rfl
theorem D_52 : D 52 = some ⟨.func, 1, 8, [.nilFunc]⟩ := rfl
theorem D_54 : D 54 = some ⟨.struct [(0, 9), (1, 9)] true, 2, 32, [.string ⟨#[]⟩, .string ⟨#[]⟩]⟩ := rfl
theorem D_77 : D 77 = some ⟨.struct [(0, 3), (1, 3), (2, 3), (3, 50)] false, 10, 112, [.int .i64 0, .int .i64 0, .int .i64 0, .int .i64 0, .bool false, .string ⟨#[]⟩, .string ⟨#[]⟩, .slice none 0 0, .bool false, .int .i64 0]⟩ := rfl
theorem D_80 : D 80 = some ⟨.struct [(0, 3), (1, 3), (2, 3), (3, 9), (4, 4), (5, 4), (6, 33)] false, 11, 120, [.int .i64 0, .int .i64 0, .int .i64 0, .string ⟨#[]⟩, .bool false, .bool false, .string ⟨#[]⟩, .string ⟨#[]⟩, .slice none 0 0, .bool false, .int .i64 0]⟩ := rfl
theorem D_81 : D 81 = some ⟨.flt, 1, 8, [.float .f64 0]⟩ := rfl
theorem D_83 : D 83 = some ⟨.struct [(0, 3), (1, 3), (2, 9), (3, 81)] false, 4, 40, [.int .i64 0, .int .i64 0, .string ⟨#[]⟩, .float .f64 0]⟩ := rfl
theorem D_85 : D 85 = some ⟨.struct [(0, 9), (1, 83)] false, 5, 56, [.string ⟨#[]⟩, .int .i64 0, .int .i64 0, .string ⟨#[]⟩, .float .f64 0]⟩ := rfl
theorem D_87 : D 87 = some ⟨.slice 3, 1, 24, [.slice none 0 0]⟩ := rfl
theorem D_89 : D 89 = some ⟨.struct [(0, 9), (1, 87)] false, 2, 40, [.string ⟨#[]⟩, .slice none 0 0]⟩ := rfl
theorem D_98 : D 98 = some ⟨.func, 1, 8, [.nilFunc]⟩ := rfl
theorem D_101 : D 101 = some ⟨.struct [(0, 37)] true, 1, 8, [.int .i64 0]⟩ := rfl
theorem D_102 : D 102 = some ⟨.ptr, 1, 8, [.pointer none]⟩ := rfl
theorem D_103 : D 103 = some ⟨.ptr, 1, 8, [.pointer none]⟩ := rfl
theorem D_105 : D 105 = some ⟨.struct [(0, 103), (1, 36)] false, 2, 32, [.pointer none, .slice none 0 0]⟩ := rfl
theorem D_108 : D 108 = some ⟨.func, 1, 8, [.nilFunc]⟩ := rfl
theorem D_110 : D 110 = some ⟨.func, 1, 8, [.nilFunc]⟩ := rfl
theorem D_112 : D 112 = some ⟨.func, 1, 8, [.nilFunc]⟩ := rfl
theorem D_114 : D 114 = some ⟨.func, 1, 8, [.nilFunc]⟩ := rfl
theorem D_116 : D 116 = some ⟨.func, 1, 8, [.nilFunc]⟩ := rfl
theorem D_118 : D 118 = some ⟨.func, 1, 8, [.nilFunc]⟩ := rfl
theorem D_121 : D 121 = some ⟨.func, 1, 8, [.nilFunc]⟩ := rfl
theorem D_124 : D 124 = some ⟨.func, 1, 8, [.nilFunc]⟩ := rfl
theorem D_128 : D 128 = some ⟨.func, 1, 8, [.nilFunc]⟩ := rfl
theorem D_130 : D 130 = some ⟨.func, 1, 8, [.nilFunc]⟩ := rfl
theorem D_131 : D 131 = some ⟨.func, 1, 8, [.nilFunc]⟩ := rfl
theorem D_133 : D 133 = some ⟨.slice 9, 1, 24, [.slice none 0 0]⟩ := rfl
theorem D_146 : D 146 = some ⟨.func, 1, 8, [.nilFunc]⟩ := rfl
theorem D_185 : D 185 = some ⟨.ptr, 1, 8, [.pointer none]⟩ := rfl
theorem D_216 : D 216 = some ⟨.arr 256 4, 256, 256, List.replicate 256 (.bool false)⟩ := rfl
theorem D_220 : D 220 = some ⟨.ptr, 1, 8, [.pointer none]⟩ := rfl
theorem D_222 : D 222 = some ⟨.int .u64, 1, 8, [.int .u64 0]⟩ := rfl
theorem D_232 : D 232 = some ⟨.func, 1, 8, [.nilFunc]⟩ := rfl
theorem D_244 : D 244 = some ⟨.func, 1, 8, [.nilFunc]⟩ := rfl
theorem D_248 : D 248 = some ⟨.func, 1, 8, [.nilFunc]⟩ := rfl
theorem D_257 : D 257 = some ⟨.int .u64, 1, 8, [.int .u64 0]⟩ := rfl
theorem le' {a b : Nat} (h : Nat.ble a b = true) : a ≤ b := Nat.le_of_ble_eq_true h
theorem D0 {E : Ent} {n : Nat} {Q : AX → AS → Prop} {s : AS} {id : Nat} {ops : Array Oper} (qs ts : List Nat) (lt : Nat → List Nat) (hm : Tryz.prog.follows .mixedOrders = true) (h1 : drawOkR ops.toList qs ts lt = true) (h2 : drawOk2R ⟨n, fun _ => false⟩ ops.toList qs ts lt = true) (h : evQs' Tryz.prog D ⟨n, fun _ => false⟩ ops.toList qs (s.pre (newKs ⟨n, fun _ => false⟩ ops.toList qs)) fun s0 => evTsR Tryz.prog D ⟨n, fun _ => false⟩ ops.toList lt (fun x s => Q (.panic x) s) (Q .normal) ts s0) : J Tryz.prog E n (.region id ops true) Q s := J_drawR' D_ok (cfg := ⟨n, fun _ => false⟩) qs ts lt hm h1 h2 h
theorem D1 (a : Nat) {E : Ent} {n : Nat} {Q : AX → AS → Prop} {s : AS} {id : Nat} {ops : Array Oper} (qs ts : List Nat) (lt : Nat → List Nat) (hm : Tryz.prog.follows .mixedOrders = true) (h1 : drawOkR ops.toList qs ts lt = true) (h2 : drawOk2R ⟨n, fun k => k == a⟩ ops.toList qs ts lt = true) (h : evQs' Tryz.prog D ⟨n, fun k => k == a⟩ ops.toList qs (s.pre (newKs ⟨n, fun k => k == a⟩ ops.toList qs)) fun s0 => evTsR Tryz.prog D ⟨n, fun k => k == a⟩ ops.toList lt (fun x s => Q (.panic x) s) (Q .normal) ts s0) : J Tryz.prog E n (.region id ops true) Q s := J_drawR' D_ok (cfg := ⟨n, fun k => k == a⟩) qs ts lt hm h1 h2 h
theorem J0 {E : Ent} {n : Nat} {id : Nat} {ops : Array Oper} {Q : AX → AS → Prop} {s : AS} (h : evOps Tryz.prog D ⟨n, fun _ => false⟩ ops.toList ops.toList s (fun x s => Q (.panic x) s) (Q .normal)) : J Tryz.prog E n (.region id ops false) Q s := J_region D_ok (cfg := ⟨n, fun _ => false⟩) h
theorem J1 (a : Nat) {E : Ent} {n : Nat} {id : Nat} {ops : Array Oper} {Q : AX → AS → Prop} {s : AS} (h : evOps Tryz.prog D ⟨n, fun k => k == a⟩ ops.toList ops.toList s (fun x s => Q (.panic x) s) (Q .normal)) : J Tryz.prog E n (.region id ops false) Q s := J_region D_ok (cfg := ⟨n, fun k => k == a⟩) h
theorem J2 (a b : Nat) {E : Ent} {n : Nat} {id : Nat} {ops : Array Oper} {Q : AX → AS → Prop} {s : AS} (h : evOps Tryz.prog D ⟨n, fun k => k == a || k == b⟩ ops.toList ops.toList s (fun x s => Q (.panic x) s) (Q .normal)) : J Tryz.prog E n (.region id ops false) Q s := J_region D_ok (cfg := ⟨n, fun k => k == a || k == b⟩) h
open Go.Tv
attribute [simp] AS.add AS.g AS.new AS.obj AS.pre AS.set AV.cells AV.int AV.isUnd AV.kill AV.killL AV.noL AV.noLL AV.norm AV.normL AV.ofV AV.ofVs AV.one D_3 D_4 D_41 D_44 D_5 D_9 Has LateOk TD.agg TD.known Value.oneCell' blockQ delS enumS evA evBin evBounds evLoad evNil evP evQN evRes evResL evResult evSlice evSrc evUn fillA flen_Bind flen_Client flen_Core flen_Hold flen_Itm flen_Msg flen_Num flen_Oper flen_Out flen_Pro flen_Queue flen_Str flen_Sub guardB guardSlot keepS killf_Bind killf_Client killf_Core killf_Hold killf_Itm killf_Msg killf_Num killf_Oper killf_Out killf_Pro killf_Queue killf_Str killf_Sub lookL lookS mkG newCells newKs newSl noLFor noLLf_Bind noLLf_Client noLLf_Core noLLf_Hold noLLf_Itm noLLf_Msg noLLf_Num noLLf_Oper noLLf_Out noLLf_Pro noLLf_Queue noLLf_Str noLLf_Sub noL_asl okDst pickAV renL renS retQ setL setS subS thenQ undef
attribute [simp ↓] evOp evOps evQ evQs' evTs guardB_ff guardB_ft guardB_tf guardB_tt
end Go.Proofs.YtpcpljfifipagaaGreatDoor
