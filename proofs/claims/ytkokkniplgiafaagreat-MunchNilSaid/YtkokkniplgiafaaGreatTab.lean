/- A table of the types and the functions of this seat, and that it is the program's. Conditions: none. Printed by program. -/
import Derived.Test.YtkokkniplgiafaaGreatProg
import Derived.Test.YtkokkniplgiafaaGreatEvJ
import Derived.KernelRfl
namespace Go.Ev
open Go Go.Proofs

def tabT : List (Option TI) := [
  none,
  some (TI.mk TD.func 1 8 ([Value.nilFunc])),
  some (TI.mk (TD.int IntKind.i64) 1 8 ([Value.int IntKind.i64 (0)])),
  some (TI.mk (TD.int IntKind.i64) 1 8 ([Value.int IntKind.i64 (0)])),
  some (TI.mk TD.bool 1 1 ([Value.bool false])),
  some (TI.mk (TD.int IntKind.u8) 1 1 ([Value.int IntKind.u8 (0)])),
  some (TI.mk (TD.int IntKind.u8) 1 1 ([Value.int IntKind.u8 (0)])),
  some (TI.mk (TD.struct [(0, 2), (1, 3), (2, 4), (3, 6)]) 4 24 ([Value.int IntKind.i64 (0), Value.int IntKind.i64 (0), Value.bool false, Value.int IntKind.u8 (0)])),
  some (TI.mk (TD.struct [(0, 2), (1, 3), (2, 4), (3, 6)]) 4 24 ([Value.int IntKind.i64 (0), Value.int IntKind.i64 (0), Value.bool false, Value.int IntKind.u8 (0)])),
  some (TI.mk TD.str 1 16 ([Value.string (ByteArray.mk (Array.mk []))])),
  some (TI.mk TD.str 1 16 ([Value.string (ByteArray.mk (Array.mk []))])),
  some (TI.mk TD.str 1 16 ([Value.string (ByteArray.mk (Array.mk []))])),
  some (TI.mk (TD.int IntKind.u64) 1 8 ([Value.int IntKind.u64 (0)])),
  none,
  none,
  some (TI.mk (TD.ptr 61) 1 8 ([Value.pointer none])),
  some (TI.mk (TD.ptr 64) 1 8 ([Value.pointer none])),
  some (TI.mk (TD.ptr 74) 1 8 ([Value.pointer none])),
  none,
  none,
  some (TI.mk TD.iface 1 16 ([Value.nilIface])),
  some (TI.mk (TD.int IntKind.i32) 1 4 ([Value.int IntKind.i32 (0)])),
  some (TI.mk (TD.slice 5) 1 24 ([Value.slice none 0 0])),
  some (TI.mk TD.func 1 8 ([Value.nilFunc])),
  some (TI.mk (TD.int IntKind.i64) 1 8 ([Value.int IntKind.i64 (0)])),
  none,
  some (TI.mk TD.func 1 8 ([Value.nilFunc])),
  some (TI.mk TD.func 1 8 ([Value.nilFunc])),
  some (TI.mk TD.func 1 8 ([Value.nilFunc])),
  some (TI.mk (TD.array 256 5) 256 256 (List.replicate 256 (Value.int IntKind.u8 (0)))),
  some (TI.mk (TD.struct [(0, 29), (256, 3)]) 257 264 (List.replicate 256 (Value.int IntKind.u8 (0)) ++ [Value.int IntKind.i64 (0)])),
  some (TI.mk (TD.struct [(0, 29), (256, 3)]) 257 264 (List.replicate 256 (Value.int IntKind.u8 (0)) ++ [Value.int IntKind.i64 (0)])),
  some (TI.mk (TD.slice 53) 1 24 ([Value.slice none 0 0])),
  some (TI.mk (TD.slice 3) 1 24 ([Value.slice none 0 0])),
  some (TI.mk (TD.struct [(0, 31), (257, 3), (258, 32), (259, 33)]) 260 320 (List.replicate 256 (Value.int IntKind.u8 (0)) ++ [Value.int IntKind.i64 (0), Value.int IntKind.i64 (0), Value.slice none 0 0, Value.slice none 0 0])),
  some (TI.mk (TD.struct [(0, 31), (257, 3), (258, 32), (259, 33)]) 260 320 (List.replicate 256 (Value.int IntKind.u8 (0)) ++ [Value.int IntKind.i64 (0), Value.int IntKind.i64 (0), Value.slice none 0 0, Value.slice none 0 0])),
  some (TI.mk (TD.ptr 96) 1 8 ([Value.pointer none])),
  some (TI.mk TD.func 1 8 ([Value.nilFunc])),
  some (TI.mk (TD.struct [(0, 36)]) 1 8 ([Value.pointer none])),
  some (TI.mk (TD.struct [(0, 36)]) 1 8 ([Value.pointer none])),
  some (TI.mk TD.func 1 8 ([Value.nilFunc])),
  some (TI.mk (TD.struct [(0, 35)]) 260 320 (List.replicate 256 (Value.int IntKind.u8 (0)) ++ [Value.int IntKind.i64 (0), Value.int IntKind.i64 (0), Value.slice none 0 0, Value.slice none 0 0])),
  some (TI.mk (TD.struct [(0, 35)]) 260 320 (List.replicate 256 (Value.int IntKind.u8 (0)) ++ [Value.int IntKind.i64 (0), Value.int IntKind.i64 (0), Value.slice none 0 0, Value.slice none 0 0])),
  some (TI.mk TD.iface 1 16 ([Value.nilIface])),
  some (TI.mk TD.iface 1 16 ([Value.nilIface])),
  some (TI.mk TD.func 1 8 ([Value.nilFunc])),
  some (TI.mk TD.func 1 8 ([Value.nilFunc])),
  none,
  some (TI.mk TD.func 1 8 ([Value.nilFunc])),
  some (TI.mk TD.func 1 8 ([Value.nilFunc])),
  some (TI.mk TD.func 1 8 ([Value.nilFunc])),
  some (TI.mk TD.func 1 8 ([Value.nilFunc])),
  some (TI.mk (TD.struct [(0, 33), (1, 33)]) 2 48 ([Value.slice none 0 0, Value.slice none 0 0])),
  some (TI.mk (TD.struct [(0, 33), (1, 33)]) 2 48 ([Value.slice none 0 0, Value.slice none 0 0])),
  some (TI.mk TD.func 1 8 ([Value.nilFunc])),
  some (TI.mk TD.func 1 8 ([Value.nilFunc])),
  some (TI.mk TD.func 1 8 ([Value.nilFunc])),
  some (TI.mk TD.func 1 8 ([Value.nilFunc])),
  some (TI.mk TD.func 1 8 ([Value.nilFunc])),
  some (TI.mk TD.func 1 8 ([Value.nilFunc])),
  none,
  none,
  some (TI.mk (TD.array 0 16) 0 0 ([])),
  none,
  none,
  some (TI.mk TD.func 1 8 ([Value.nilFunc])),
  some (TI.mk (TD.int IntKind.u32) 1 4 ([Value.int IntKind.u32 (0)])),
  some (TI.mk (TD.int IntKind.u8) 1 1 ([Value.int IntKind.u8 (0)])),
  some (TI.mk (TD.int IntKind.u8) 1 1 ([Value.int IntKind.u8 (0)])),
  some (TI.mk TD.func 1 8 ([Value.nilFunc])),
  some (TI.mk (TD.ptr 5) 1 8 ([Value.pointer none])),
  some (TI.mk (TD.int IntKind.i32) 1 4 ([Value.int IntKind.i32 (0)])),
  some (TI.mk (TD.int IntKind.i32) 1 4 ([Value.int IntKind.i32 (0)])),
  none,
  none,
  some (TI.mk (TD.ptr 118) 1 8 ([Value.pointer none])),
  some (TI.mk (TD.map 9 3) 1 8 ([Value.map none])),
  some (TI.mk (TD.slice 99) 1 24 ([Value.slice none 0 0])),
  some (TI.mk (TD.map 3 33) 1 8 ([Value.map none])),
  some (TI.mk (TD.struct []) 0 0 ([])),
  some (TI.mk (TD.struct []) 0 0 ([])),
  some (TI.mk (TD.struct []) 0 0 ([])),
  none,
  none,
  some (TI.mk (TD.struct [(0, 21), (1, 66)]) 2 8 ([Value.int IntKind.i32 (0), Value.int IntKind.u32 (0)])),
  some (TI.mk (TD.struct [(0, 21), (1, 66)]) 2 8 ([Value.int IntKind.i32 (0), Value.int IntKind.u32 (0)])),
  none,
  none,
  none,
  none,
  some (TI.mk (TD.struct [(0, 89), (3, 22)]) 4 40 ([Value.int IntKind.u32 (0), Value.int IntKind.i32 (0), Value.int IntKind.u32 (0), Value.slice none 0 0])),
  some (TI.mk (TD.struct [(0, 89), (3, 22)]) 4 40 ([Value.int IntKind.u32 (0), Value.int IntKind.i32 (0), Value.int IntKind.u32 (0), Value.slice none 0 0])),
  some (TI.mk (TD.struct []) 0 0 ([])),
  none,
  none,
  some (TI.mk (TD.struct [(0, 75), (1, 3), (2, 76), (3, 77), (4, 33), (5, 78), (6, 91), (10, 94), (11, 94)]) 12 136 ([Value.pointer none, Value.int IntKind.i64 (0), Value.map none, Value.slice none 0 0, Value.slice none 0 0, Value.map none, Value.int IntKind.u32 (0), Value.int IntKind.i32 (0), Value.int IntKind.u32 (0), Value.slice none 0 0, Value.int IntKind.i64 (0), Value.int IntKind.i64 (0)])),
  some (TI.mk (TD.struct [(0, 75), (1, 3), (2, 76), (3, 77), (4, 33), (5, 78), (6, 91), (10, 94), (11, 94)]) 12 136 ([Value.pointer none, Value.int IntKind.i64 (0), Value.map none, Value.slice none 0 0, Value.slice none 0 0, Value.map none, Value.int IntKind.u32 (0), Value.int IntKind.i32 (0), Value.int IntKind.u32 (0), Value.slice none 0 0, Value.int IntKind.i64 (0), Value.int IntKind.i64 (0)])),
  some (TI.mk TD.func 1 8 ([Value.nilFunc])),
  some (TI.mk (TD.slice 101) 1 24 ([Value.slice none 0 0])),
  some (TI.mk (TD.slice 101) 1 24 ([Value.slice none 0 0])),
  some (TI.mk (TD.slice 33) 1 24 ([Value.slice none 0 0])),
  some (TI.mk (TD.slice 33) 1 24 ([Value.slice none 0 0])),
  some (TI.mk TD.func 1 8 ([Value.nilFunc])),
  some (TI.mk TD.func 1 8 ([Value.nilFunc])),
  some (TI.mk TD.func 1 8 ([Value.nilFunc])),
  some (TI.mk TD.func 1 8 ([Value.nilFunc])),
  none,
  some (TI.mk TD.func 1 8 ([Value.nilFunc])),
  some (TI.mk TD.func 1 8 ([Value.nilFunc])),
  some (TI.mk (TD.ptr 197) 1 8 ([Value.pointer none])),
  some (TI.mk (TD.slice 289) 1 24 ([Value.slice none 0 0])),
  some (TI.mk (TD.struct [(0, 110)]) 1 24 ([Value.slice none 0 0])),
  some (TI.mk (TD.struct [(0, 110)]) 1 24 ([Value.slice none 0 0])),
  some (TI.mk (TD.slice 9) 1 24 ([Value.slice none 0 0])),
  some (TI.mk (TD.slice 291) 1 24 ([Value.slice none 0 0])),
  some (TI.mk (TD.struct [(0, 113), (1, 114)]) 2 48 ([Value.slice none 0 0, Value.slice none 0 0])),
  some (TI.mk (TD.struct [(0, 113), (1, 114)]) 2 48 ([Value.slice none 0 0, Value.slice none 0 0])),
  some (TI.mk (TD.struct [(0, 109), (1, 112), (2, 31), (259, 99), (260, 116)]) 262 368 ([Value.pointer none, Value.slice none 0 0] ++ List.replicate 256 (Value.int IntKind.u8 (0)) ++ [Value.int IntKind.i64 (0), Value.slice none 0 0, Value.slice none 0 0, Value.slice none 0 0])),
  some (TI.mk (TD.struct [(0, 109), (1, 112), (2, 31), (259, 99), (260, 116)]) 262 368 ([Value.pointer none, Value.slice none 0 0] ++ List.replicate 256 (Value.int IntKind.u8 (0)) ++ [Value.int IntKind.i64 (0), Value.slice none 0 0, Value.slice none 0 0, Value.slice none 0 0])),
  some (TI.mk TD.func 1 8 ([Value.nilFunc])),
  some (TI.mk TD.func 1 8 ([Value.nilFunc])),
  some (TI.mk TD.func 1 8 ([Value.nilFunc])),
  some (TI.mk TD.func 1 8 ([Value.nilFunc])),
  none,
  some (TI.mk TD.func 1 8 ([Value.nilFunc])),
  none,
  some (TI.mk TD.func 1 8 ([Value.nilFunc])),
  some (TI.mk (TD.ptr 91) 1 8 ([Value.pointer none])),
  some (TI.mk TD.func 1 8 ([Value.nilFunc])),
  none,
  some (TI.mk (TD.ptr 94) 1 8 ([Value.pointer none])),
  some (TI.mk TD.func 1 8 ([Value.nilFunc])),
  some (TI.mk (TD.ptr 2) 1 8 ([Value.pointer none])),
  some (TI.mk TD.func 1 8 ([Value.nilFunc])),
  some (TI.mk TD.func 1 8 ([Value.nilFunc])),
  some (TI.mk TD.func 1 8 ([Value.nilFunc])),
  some (TI.mk TD.func 1 8 ([Value.nilFunc])),
  some (TI.mk TD.func 1 8 ([Value.nilFunc])),
  some (TI.mk (TD.int IntKind.u64) 1 8 ([Value.int IntKind.u64 (0)])),
  none,
  some (TI.mk TD.func 1 8 ([Value.nilFunc])),
  some (TI.mk (TD.ptr 171) 1 8 ([Value.pointer none])),
  some (TI.mk TD.func 1 8 ([Value.nilFunc])),
  some (TI.mk TD.func 1 8 ([Value.nilFunc])),
  some (TI.mk TD.func 1 8 ([Value.nilFunc])),
  some (TI.mk TD.func 1 8 ([Value.nilFunc])),
  some (TI.mk (TD.ptr 89) 1 8 ([Value.pointer none])),
  none,
  some (TI.mk TD.func 1 8 ([Value.nilFunc])),
  some (TI.mk (TD.int IntKind.u64) 1 8 ([Value.int IntKind.u64 (0)])),
  some (TI.mk (TD.array 4 149) 4 32 ([Value.int IntKind.u64 (0), Value.int IntKind.u64 (0), Value.int IntKind.u64 (0), Value.int IntKind.u64 (0)])),
  some (TI.mk (TD.array 4 149) 4 32 ([Value.int IntKind.u64 (0), Value.int IntKind.u64 (0), Value.int IntKind.u64 (0), Value.int IntKind.u64 (0)])),
  some (TI.mk TD.func 1 8 ([Value.nilFunc])),
  some (TI.mk TD.func 1 8 ([Value.nilFunc])),
  some (TI.mk TD.func 1 8 ([Value.nilFunc])),
  some (TI.mk TD.func 1 8 ([Value.nilFunc])),
  some (TI.mk TD.func 1 8 ([Value.nilFunc])),
  some (TI.mk TD.func 1 8 ([Value.nilFunc])),
  some (TI.mk TD.func 1 8 ([Value.nilFunc])),
  some (TI.mk (TD.map 3 4) 1 8 ([Value.map none])),
  some (TI.mk (TD.struct [(0, 109), (1, 5), (2, 159)]) 3 24 ([Value.pointer none, Value.int IntKind.u8 (0), Value.map none])),
  some (TI.mk (TD.struct [(0, 109), (1, 5), (2, 159)]) 3 24 ([Value.pointer none, Value.int IntKind.u8 (0), Value.map none])),
  some (TI.mk TD.func 1 8 ([Value.nilFunc])),
  some (TI.mk TD.func 1 8 ([Value.nilFunc])),
  some (TI.mk TD.func 1 8 ([Value.nilFunc])),
  none,
  some (TI.mk TD.func 1 8 ([Value.nilFunc])),
  none,
  some (TI.mk TD.func 1 8 ([Value.nilFunc])),
  some (TI.mk (TD.map 3 101) 1 8 ([Value.map none])),
  some (TI.mk (TD.struct [(0, 109), (1, 5), (2, 5), (3, 24), (4, 169), (5, 169)]) 6 40 ([Value.pointer none, Value.int IntKind.u8 (0), Value.int IntKind.u8 (0), Value.int IntKind.i64 (0), Value.map none, Value.map none])),
  some (TI.mk (TD.struct [(0, 109), (1, 5), (2, 5), (3, 24), (4, 169), (5, 169)]) 6 40 ([Value.pointer none, Value.int IntKind.u8 (0), Value.int IntKind.u8 (0), Value.int IntKind.i64 (0), Value.map none, Value.map none])),
  some (TI.mk TD.func 1 8 ([Value.nilFunc])),
  some (TI.mk TD.func 1 8 ([Value.nilFunc])),
  none,
  some (TI.mk (TD.ptr 83) 1 8 ([Value.pointer none])),
  some (TI.mk TD.func 1 8 ([Value.nilFunc])),
  some (TI.mk (TD.ptr 66) 1 8 ([Value.pointer none])),
  some (TI.mk TD.func 1 8 ([Value.nilFunc])),
  some (TI.mk TD.func 1 8 ([Value.nilFunc])),
  some (TI.mk TD.func 1 8 ([Value.nilFunc])),
  some (TI.mk TD.func 1 8 ([Value.nilFunc])),
  some (TI.mk (TD.ptr 184) 1 8 ([Value.pointer none])),
  some (TI.mk (TD.struct [(0, 182), (1, 22)]) 2 32 ([Value.pointer none, Value.slice none 0 0])),
  some (TI.mk (TD.struct [(0, 182), (1, 22)]) 2 32 ([Value.pointer none, Value.slice none 0 0])),
  some (TI.mk TD.iface 1 16 ([Value.nilIface])),
  some (TI.mk TD.iface 1 16 ([Value.nilIface])),
  none,
  some (TI.mk TD.func 1 8 ([Value.nilFunc])),
  some (TI.mk TD.func 1 8 ([Value.nilFunc])),
  some (TI.mk TD.func 1 8 ([Value.nilFunc])),
  some (TI.mk TD.func 1 8 ([Value.nilFunc])),
  some (TI.mk TD.func 1 8 ([Value.nilFunc])),
  some (TI.mk TD.func 1 8 ([Value.nilFunc])),
  some (TI.mk (TD.slice 201) 1 24 ([Value.slice none 0 0])),
  some (TI.mk (TD.map 201 3) 1 8 ([Value.map none])),
  some (TI.mk (TD.struct [(0, 194), (1, 195)]) 2 32 ([Value.slice none 0 0, Value.map none])),
  some (TI.mk (TD.struct [(0, 194), (1, 195)]) 2 32 ([Value.slice none 0 0, Value.map none])),
  some (TI.mk TD.func 1 8 ([Value.nilFunc])),
  some (TI.mk TD.func 1 8 ([Value.nilFunc])),
  some (TI.mk (TD.struct [(0, 3), (1, 151), (5, 3), (6, 3), (7, 4)]) 8 64 ([Value.int IntKind.i64 (0), Value.int IntKind.u64 (0), Value.int IntKind.u64 (0), Value.int IntKind.u64 (0), Value.int IntKind.u64 (0), Value.int IntKind.i64 (0), Value.int IntKind.i64 (0), Value.bool false])),
  some (TI.mk (TD.struct [(0, 3), (1, 151), (5, 3), (6, 3), (7, 4)]) 8 64 ([Value.int IntKind.i64 (0), Value.int IntKind.u64 (0), Value.int IntKind.u64 (0), Value.int IntKind.u64 (0), Value.int IntKind.u64 (0), Value.int IntKind.i64 (0), Value.int IntKind.i64 (0), Value.bool false])),
  none,
  some (TI.mk TD.func 1 8 ([Value.nilFunc])),
  none,
  some (TI.mk TD.func 1 8 ([Value.nilFunc])),
  some (TI.mk TD.func 1 8 ([Value.nilFunc])),
  some (TI.mk TD.func 1 8 ([Value.nilFunc])),
  some (TI.mk TD.func 1 8 ([Value.nilFunc])),
  some (TI.mk TD.func 1 8 ([Value.nilFunc])),
  some (TI.mk TD.func 1 8 ([Value.nilFunc])),
  some (TI.mk TD.func 1 8 ([Value.nilFunc])),
  some (TI.mk TD.func 1 8 ([Value.nilFunc])),
  some (TI.mk TD.func 1 8 ([Value.nilFunc])),
  some (TI.mk (TD.ptr 87) 1 8 ([Value.pointer none])),
  some (TI.mk TD.func 1 8 ([Value.nilFunc])),
  some (TI.mk TD.func 1 8 ([Value.nilFunc])),
  some (TI.mk (TD.array 64 5) 64 64 (List.replicate 64 (Value.int IntKind.u8 (0)))),
  some (TI.mk TD.func 1 8 ([Value.nilFunc])),
  some (TI.mk TD.func 1 8 ([Value.nilFunc])),
  some (TI.mk TD.func 1 8 ([Value.nilFunc])),
  some (TI.mk (TD.int IntKind.i64) 1 8 ([Value.int IntKind.i64 (0)])),
  none,
  some (TI.mk TD.func 1 8 ([Value.nilFunc])),
  some (TI.mk TD.func 1 8 ([Value.nilFunc])),
  some (TI.mk TD.func 1 8 ([Value.nilFunc])),
  some (TI.mk TD.func 1 8 ([Value.nilFunc])),
  some (TI.mk TD.func 1 8 ([Value.nilFunc])),
  some (TI.mk TD.func 1 8 ([Value.nilFunc])),
  some (TI.mk TD.func 1 8 ([Value.nilFunc])),
  some (TI.mk TD.func 1 8 ([Value.nilFunc])),
  some (TI.mk TD.func 1 8 ([Value.nilFunc])),
  some (TI.mk TD.func 1 8 ([Value.nilFunc])),
  some (TI.mk TD.func 1 8 ([Value.nilFunc])),
  some (TI.mk TD.func 1 8 ([Value.nilFunc])),
  some (TI.mk (TD.ptr 85) 1 8 ([Value.pointer none])),
  some (TI.mk TD.func 1 8 ([Value.nilFunc])),
  some (TI.mk (TD.ptr 21) 1 8 ([Value.pointer none])),
  some (TI.mk TD.func 1 8 ([Value.nilFunc])),
  some (TI.mk TD.other 1 8 ([Value.pointer none])),
  some (TI.mk TD.func 1 8 ([Value.nilFunc])),
  some (TI.mk TD.func 1 8 ([Value.nilFunc])),
  some (TI.mk TD.func 1 8 ([Value.nilFunc])),
  some (TI.mk TD.func 1 8 ([Value.nilFunc])),
  some (TI.mk TD.func 1 8 ([Value.nilFunc])),
  some (TI.mk (TD.int IntKind.u64) 1 8 ([Value.int IntKind.u64 (0)])),
  some (TI.mk TD.func 1 8 ([Value.nilFunc])),
  some (TI.mk TD.func 1 8 ([Value.nilFunc])),
  some (TI.mk TD.func 1 8 ([Value.nilFunc])),
  some (TI.mk (TD.ptr 3) 1 8 ([Value.pointer none])),
  some (TI.mk TD.func 1 8 ([Value.nilFunc])),
  some (TI.mk TD.func 1 8 ([Value.nilFunc])),
  some (TI.mk TD.func 1 8 ([Value.nilFunc])),
  some (TI.mk TD.func 1 8 ([Value.nilFunc])),
  some (TI.mk TD.func 1 8 ([Value.nilFunc])),
  some (TI.mk TD.func 1 8 ([Value.nilFunc])),
  some (TI.mk TD.func 1 8 ([Value.nilFunc])),
  some (TI.mk TD.func 1 8 ([Value.nilFunc])),
  some (TI.mk TD.func 1 8 ([Value.nilFunc])),
  some (TI.mk (TD.array 24 5) 24 24 (List.replicate 24 (Value.int IntKind.u8 (0)))),
  some (TI.mk TD.func 1 8 ([Value.nilFunc])),
  none,
  some (TI.mk TD.func 1 8 ([Value.nilFunc])),
  some (TI.mk (TD.ptr 245) 1 8 ([Value.pointer none])),
  none,
  some (TI.mk TD.func 1 8 ([Value.nilFunc])),
  some (TI.mk TD.func 1 8 ([Value.nilFunc])),
  some (TI.mk TD.func 1 8 ([Value.nilFunc])),
  some (TI.mk (TD.struct [(0, 3), (1, 210), (2, 210), (3, 180)]) 4 32 ([Value.int IntKind.i64 (0), Value.nilFunc, Value.nilFunc, Value.nilFunc])),
  some (TI.mk (TD.struct [(0, 3), (1, 210), (2, 210), (3, 180)]) 4 32 ([Value.int IntKind.i64 (0), Value.nilFunc, Value.nilFunc, Value.nilFunc])),
  some (TI.mk TD.func 1 8 ([Value.nilFunc])),
  some (TI.mk TD.func 1 8 ([Value.nilFunc])),
  some (TI.mk (TD.array 20 149) 20 160 (List.replicate 20 (Value.int IntKind.u64 (0)))),
  some (TI.mk (TD.array 65 5) 65 65 (List.replicate 65 (Value.int IntKind.u8 (0)))),
  some (TI.mk TD.func 1 8 ([Value.nilFunc])),
  some (TI.mk TD.func 1 8 ([Value.nilFunc])),
  some (TI.mk TD.func 1 8 ([Value.nilFunc])),
  some (TI.mk TD.func 1 8 ([Value.nilFunc])),
  some (TI.mk TD.func 1 8 ([Value.nilFunc])),
  some (TI.mk TD.func 1 8 ([Value.nilFunc])),
  some (TI.mk TD.func 1 8 ([Value.nilFunc])),
  some (TI.mk TD.func 1 8 ([Value.nilFunc])),
  some (TI.mk TD.func 1 8 ([Value.nilFunc])),
  some (TI.mk TD.func 1 8 ([Value.nilFunc])),
  some (TI.mk (TD.array 32 5) 32 32 (List.replicate 32 (Value.int IntKind.u8 (0)))),
  some (TI.mk TD.func 1 8 ([Value.nilFunc])),
  some (TI.mk TD.func 1 8 ([Value.nilFunc])),
  some (TI.mk TD.func 1 8 ([Value.nilFunc])),
  some (TI.mk (TD.struct [(0, 3), (1, 151), (5, 110), (6, 3), (7, 3), (8, 4)]) 9 88 ([Value.int IntKind.i64 (0), Value.int IntKind.u64 (0), Value.int IntKind.u64 (0), Value.int IntKind.u64 (0), Value.int IntKind.u64 (0), Value.slice none 0 0, Value.int IntKind.i64 (0), Value.int IntKind.i64 (0), Value.bool false])),
  some (TI.mk (TD.struct [(0, 3), (1, 151), (5, 110), (6, 3), (7, 3), (8, 4)]) 9 88 ([Value.int IntKind.i64 (0), Value.int IntKind.u64 (0), Value.int IntKind.u64 (0), Value.int IntKind.u64 (0), Value.int IntKind.u64 (0), Value.slice none 0 0, Value.int IntKind.i64 (0), Value.int IntKind.i64 (0), Value.bool false])),
  some (TI.mk (TD.struct [(0, 33), (1, 289), (10, 3), (11, 3)]) 12 128 ([Value.slice none 0 0, Value.int IntKind.i64 (0), Value.int IntKind.u64 (0), Value.int IntKind.u64 (0), Value.int IntKind.u64 (0), Value.int IntKind.u64 (0), Value.slice none 0 0, Value.int IntKind.i64 (0), Value.int IntKind.i64 (0), Value.bool false, Value.int IntKind.i64 (0), Value.int IntKind.i64 (0)])),
  some (TI.mk (TD.struct [(0, 33), (1, 289), (10, 3), (11, 3)]) 12 128 ([Value.slice none 0 0, Value.int IntKind.i64 (0), Value.int IntKind.u64 (0), Value.int IntKind.u64 (0), Value.int IntKind.u64 (0), Value.int IntKind.u64 (0), Value.slice none 0 0, Value.int IntKind.i64 (0), Value.int IntKind.i64 (0), Value.bool false, Value.int IntKind.i64 (0), Value.int IntKind.i64 (0)]))]

def tabG : List Bool := [false, false, true, true, true, true, true, true, true, true, true, true, true, true, true, true, true, true, true, false, false, false, false, false, false, false, false, false, false, false, false, false, false, false, false, true, true, true, true, true, true, true, true, true, true, true, true, true, true, true, true, true, true, true, true, true, true, true, true, true, true, true, true, false, true, true, true, true, true, true, true, true, true, true, true, true, true, true, true, true, true, true, true, true, true, true, true, true, true, true, true, true, true, true, true, true, true, true, true, true, false, true, true, true, true, true, true, true, true, true, true, true, true, true, true, true, true, true, true, true, true, true, true, true, true, true, true, true, true, true, true, true, true, true, false, true, true, true, true, true, true, true, true, true, true, true, true, true, true, true, true, true, true, true, true, true, true, true, true, true, true, true, true, true, false, false, false, false, true, false, false, true, false, true, false, true, true, true, true, true, true, true, true, true, true, true, true, true, true, true, true, true, true, false, false, false, false, false, false, false, true, true, true, true, true, true, true, true, true, true, true, true, true, true, true, true, true, true, true, true, true, true, true, true, true, true, true, true, true, true, true, true, true, true, true, true, true, false, false, false, false, false, true]

def X : Tab := ⟨tabT, tabG⟩

theorem tab_t1 : tiOf Tryz.prog 1 = some (TI.mk TD.func 1 8 ([Value.nilFunc])) := by kernel_rfl
theorem tab_t2 : tiOf Tryz.prog 2 = some (TI.mk (TD.int IntKind.i64) 1 8 ([Value.int IntKind.i64 (0)])) := by kernel_rfl
theorem tab_t3 : tiOf Tryz.prog 3 = some (TI.mk (TD.int IntKind.i64) 1 8 ([Value.int IntKind.i64 (0)])) := by kernel_rfl
theorem tab_t4 : tiOf Tryz.prog 4 = some (TI.mk TD.bool 1 1 ([Value.bool false])) := by kernel_rfl
theorem tab_t5 : tiOf Tryz.prog 5 = some (TI.mk (TD.int IntKind.u8) 1 1 ([Value.int IntKind.u8 (0)])) := by kernel_rfl
theorem tab_t6 : tiOf Tryz.prog 6 = some (TI.mk (TD.int IntKind.u8) 1 1 ([Value.int IntKind.u8 (0)])) := by kernel_rfl
theorem tab_t7 : tiOf Tryz.prog 7 = some (TI.mk (TD.struct [(0, 2), (1, 3), (2, 4), (3, 6)]) 4 24 ([Value.int IntKind.i64 (0), Value.int IntKind.i64 (0), Value.bool false, Value.int IntKind.u8 (0)])) := by kernel_rfl
theorem tab_t8 : tiOf Tryz.prog 8 = some (TI.mk (TD.struct [(0, 2), (1, 3), (2, 4), (3, 6)]) 4 24 ([Value.int IntKind.i64 (0), Value.int IntKind.i64 (0), Value.bool false, Value.int IntKind.u8 (0)])) := by kernel_rfl
theorem tab_t9 : tiOf Tryz.prog 9 = some (TI.mk TD.str 1 16 ([Value.string (ByteArray.mk (Array.mk []))])) := by kernel_rfl
theorem tab_t10 : tiOf Tryz.prog 10 = some (TI.mk TD.str 1 16 ([Value.string (ByteArray.mk (Array.mk []))])) := by kernel_rfl
theorem tab_t11 : tiOf Tryz.prog 11 = some (TI.mk TD.str 1 16 ([Value.string (ByteArray.mk (Array.mk []))])) := by kernel_rfl
theorem tab_t12 : tiOf Tryz.prog 12 = some (TI.mk (TD.int IntKind.u64) 1 8 ([Value.int IntKind.u64 (0)])) := by kernel_rfl
theorem tab_t15 : tiOf Tryz.prog 15 = some (TI.mk (TD.ptr 61) 1 8 ([Value.pointer none])) := by kernel_rfl
theorem tab_t16 : tiOf Tryz.prog 16 = some (TI.mk (TD.ptr 64) 1 8 ([Value.pointer none])) := by kernel_rfl
theorem tab_t17 : tiOf Tryz.prog 17 = some (TI.mk (TD.ptr 74) 1 8 ([Value.pointer none])) := by kernel_rfl
theorem tab_t20 : tiOf Tryz.prog 20 = some (TI.mk TD.iface 1 16 ([Value.nilIface])) := by kernel_rfl
theorem tab_t21 : tiOf Tryz.prog 21 = some (TI.mk (TD.int IntKind.i32) 1 4 ([Value.int IntKind.i32 (0)])) := by kernel_rfl
theorem tab_t22 : tiOf Tryz.prog 22 = some (TI.mk (TD.slice 5) 1 24 ([Value.slice none 0 0])) := by kernel_rfl
theorem tab_t23 : tiOf Tryz.prog 23 = some (TI.mk TD.func 1 8 ([Value.nilFunc])) := by kernel_rfl
theorem tab_t24 : tiOf Tryz.prog 24 = some (TI.mk (TD.int IntKind.i64) 1 8 ([Value.int IntKind.i64 (0)])) := by kernel_rfl
theorem tab_t26 : tiOf Tryz.prog 26 = some (TI.mk TD.func 1 8 ([Value.nilFunc])) := by kernel_rfl
theorem tab_t27 : tiOf Tryz.prog 27 = some (TI.mk TD.func 1 8 ([Value.nilFunc])) := by kernel_rfl
theorem tab_t28 : tiOf Tryz.prog 28 = some (TI.mk TD.func 1 8 ([Value.nilFunc])) := by kernel_rfl
theorem tab_t29 : tiOf Tryz.prog 29 = some (TI.mk (TD.array 256 5) 256 256 (List.replicate 256 (Value.int IntKind.u8 (0)))) := by kernel_rfl
theorem tab_t30 : tiOf Tryz.prog 30 = some (TI.mk (TD.struct [(0, 29), (256, 3)]) 257 264 (List.replicate 256 (Value.int IntKind.u8 (0)) ++ [Value.int IntKind.i64 (0)])) := by kernel_rfl
theorem tab_t31 : tiOf Tryz.prog 31 = some (TI.mk (TD.struct [(0, 29), (256, 3)]) 257 264 (List.replicate 256 (Value.int IntKind.u8 (0)) ++ [Value.int IntKind.i64 (0)])) := by kernel_rfl
theorem tab_t32 : tiOf Tryz.prog 32 = some (TI.mk (TD.slice 53) 1 24 ([Value.slice none 0 0])) := by kernel_rfl
theorem tab_t33 : tiOf Tryz.prog 33 = some (TI.mk (TD.slice 3) 1 24 ([Value.slice none 0 0])) := by kernel_rfl
theorem tab_t34 : tiOf Tryz.prog 34 = some (TI.mk (TD.struct [(0, 31), (257, 3), (258, 32), (259, 33)]) 260 320 (List.replicate 256 (Value.int IntKind.u8 (0)) ++ [Value.int IntKind.i64 (0), Value.int IntKind.i64 (0), Value.slice none 0 0, Value.slice none 0 0])) := by kernel_rfl
theorem tab_t35 : tiOf Tryz.prog 35 = some (TI.mk (TD.struct [(0, 31), (257, 3), (258, 32), (259, 33)]) 260 320 (List.replicate 256 (Value.int IntKind.u8 (0)) ++ [Value.int IntKind.i64 (0), Value.int IntKind.i64 (0), Value.slice none 0 0, Value.slice none 0 0])) := by kernel_rfl
theorem tab_t36 : tiOf Tryz.prog 36 = some (TI.mk (TD.ptr 96) 1 8 ([Value.pointer none])) := by kernel_rfl
theorem tab_t37 : tiOf Tryz.prog 37 = some (TI.mk TD.func 1 8 ([Value.nilFunc])) := by kernel_rfl
theorem tab_t38 : tiOf Tryz.prog 38 = some (TI.mk (TD.struct [(0, 36)]) 1 8 ([Value.pointer none])) := by kernel_rfl
theorem tab_t39 : tiOf Tryz.prog 39 = some (TI.mk (TD.struct [(0, 36)]) 1 8 ([Value.pointer none])) := by kernel_rfl
theorem tab_t40 : tiOf Tryz.prog 40 = some (TI.mk TD.func 1 8 ([Value.nilFunc])) := by kernel_rfl
theorem tab_t41 : tiOf Tryz.prog 41 = some (TI.mk (TD.struct [(0, 35)]) 260 320 (List.replicate 256 (Value.int IntKind.u8 (0)) ++ [Value.int IntKind.i64 (0), Value.int IntKind.i64 (0), Value.slice none 0 0, Value.slice none 0 0])) := by kernel_rfl
theorem tab_t42 : tiOf Tryz.prog 42 = some (TI.mk (TD.struct [(0, 35)]) 260 320 (List.replicate 256 (Value.int IntKind.u8 (0)) ++ [Value.int IntKind.i64 (0), Value.int IntKind.i64 (0), Value.slice none 0 0, Value.slice none 0 0])) := by kernel_rfl
theorem tab_t43 : tiOf Tryz.prog 43 = some (TI.mk TD.iface 1 16 ([Value.nilIface])) := by kernel_rfl
theorem tab_t44 : tiOf Tryz.prog 44 = some (TI.mk TD.iface 1 16 ([Value.nilIface])) := by kernel_rfl
theorem tab_t45 : tiOf Tryz.prog 45 = some (TI.mk TD.func 1 8 ([Value.nilFunc])) := by kernel_rfl
theorem tab_t46 : tiOf Tryz.prog 46 = some (TI.mk TD.func 1 8 ([Value.nilFunc])) := by kernel_rfl
theorem tab_t48 : tiOf Tryz.prog 48 = some (TI.mk TD.func 1 8 ([Value.nilFunc])) := by kernel_rfl
theorem tab_t49 : tiOf Tryz.prog 49 = some (TI.mk TD.func 1 8 ([Value.nilFunc])) := by kernel_rfl
theorem tab_t50 : tiOf Tryz.prog 50 = some (TI.mk TD.func 1 8 ([Value.nilFunc])) := by kernel_rfl
theorem tab_t51 : tiOf Tryz.prog 51 = some (TI.mk TD.func 1 8 ([Value.nilFunc])) := by kernel_rfl
theorem tab_t52 : tiOf Tryz.prog 52 = some (TI.mk (TD.struct [(0, 33), (1, 33)]) 2 48 ([Value.slice none 0 0, Value.slice none 0 0])) := by kernel_rfl
theorem tab_t53 : tiOf Tryz.prog 53 = some (TI.mk (TD.struct [(0, 33), (1, 33)]) 2 48 ([Value.slice none 0 0, Value.slice none 0 0])) := by kernel_rfl
theorem tab_t54 : tiOf Tryz.prog 54 = some (TI.mk TD.func 1 8 ([Value.nilFunc])) := by kernel_rfl
theorem tab_t55 : tiOf Tryz.prog 55 = some (TI.mk TD.func 1 8 ([Value.nilFunc])) := by kernel_rfl
theorem tab_t56 : tiOf Tryz.prog 56 = some (TI.mk TD.func 1 8 ([Value.nilFunc])) := by kernel_rfl
theorem tab_t57 : tiOf Tryz.prog 57 = some (TI.mk TD.func 1 8 ([Value.nilFunc])) := by kernel_rfl
theorem tab_t58 : tiOf Tryz.prog 58 = some (TI.mk TD.func 1 8 ([Value.nilFunc])) := by kernel_rfl
theorem tab_t59 : tiOf Tryz.prog 59 = some (TI.mk TD.func 1 8 ([Value.nilFunc])) := by kernel_rfl
theorem tab_t62 : tiOf Tryz.prog 62 = some (TI.mk (TD.array 0 16) 0 0 ([])) := by kernel_rfl
theorem tab_t65 : tiOf Tryz.prog 65 = some (TI.mk TD.func 1 8 ([Value.nilFunc])) := by kernel_rfl
theorem tab_t66 : tiOf Tryz.prog 66 = some (TI.mk (TD.int IntKind.u32) 1 4 ([Value.int IntKind.u32 (0)])) := by kernel_rfl
theorem tab_t67 : tiOf Tryz.prog 67 = some (TI.mk (TD.int IntKind.u8) 1 1 ([Value.int IntKind.u8 (0)])) := by kernel_rfl
theorem tab_t68 : tiOf Tryz.prog 68 = some (TI.mk (TD.int IntKind.u8) 1 1 ([Value.int IntKind.u8 (0)])) := by kernel_rfl
theorem tab_t69 : tiOf Tryz.prog 69 = some (TI.mk TD.func 1 8 ([Value.nilFunc])) := by kernel_rfl
theorem tab_t70 : tiOf Tryz.prog 70 = some (TI.mk (TD.ptr 5) 1 8 ([Value.pointer none])) := by kernel_rfl
theorem tab_t71 : tiOf Tryz.prog 71 = some (TI.mk (TD.int IntKind.i32) 1 4 ([Value.int IntKind.i32 (0)])) := by kernel_rfl
theorem tab_t72 : tiOf Tryz.prog 72 = some (TI.mk (TD.int IntKind.i32) 1 4 ([Value.int IntKind.i32 (0)])) := by kernel_rfl
theorem tab_t75 : tiOf Tryz.prog 75 = some (TI.mk (TD.ptr 118) 1 8 ([Value.pointer none])) := by kernel_rfl
theorem tab_t76 : tiOf Tryz.prog 76 = some (TI.mk (TD.map 9 3) 1 8 ([Value.map none])) := by kernel_rfl
theorem tab_t77 : tiOf Tryz.prog 77 = some (TI.mk (TD.slice 99) 1 24 ([Value.slice none 0 0])) := by kernel_rfl
theorem tab_t78 : tiOf Tryz.prog 78 = some (TI.mk (TD.map 3 33) 1 8 ([Value.map none])) := by kernel_rfl
theorem tab_t79 : tiOf Tryz.prog 79 = some (TI.mk (TD.struct []) 0 0 ([])) := by kernel_rfl
theorem tab_t80 : tiOf Tryz.prog 80 = some (TI.mk (TD.struct []) 0 0 ([])) := by kernel_rfl
theorem tab_t81 : tiOf Tryz.prog 81 = some (TI.mk (TD.struct []) 0 0 ([])) := by kernel_rfl
theorem tab_t84 : tiOf Tryz.prog 84 = some (TI.mk (TD.struct [(0, 21), (1, 66)]) 2 8 ([Value.int IntKind.i32 (0), Value.int IntKind.u32 (0)])) := by kernel_rfl
theorem tab_t85 : tiOf Tryz.prog 85 = some (TI.mk (TD.struct [(0, 21), (1, 66)]) 2 8 ([Value.int IntKind.i32 (0), Value.int IntKind.u32 (0)])) := by kernel_rfl
theorem tab_t90 : tiOf Tryz.prog 90 = some (TI.mk (TD.struct [(0, 89), (3, 22)]) 4 40 ([Value.int IntKind.u32 (0), Value.int IntKind.i32 (0), Value.int IntKind.u32 (0), Value.slice none 0 0])) := by kernel_rfl
theorem tab_t91 : tiOf Tryz.prog 91 = some (TI.mk (TD.struct [(0, 89), (3, 22)]) 4 40 ([Value.int IntKind.u32 (0), Value.int IntKind.i32 (0), Value.int IntKind.u32 (0), Value.slice none 0 0])) := by kernel_rfl
theorem tab_t92 : tiOf Tryz.prog 92 = some (TI.mk (TD.struct []) 0 0 ([])) := by kernel_rfl
theorem tab_t95 : tiOf Tryz.prog 95 = some (TI.mk (TD.struct [(0, 75), (1, 3), (2, 76), (3, 77), (4, 33), (5, 78), (6, 91), (10, 94), (11, 94)]) 12 136 ([Value.pointer none, Value.int IntKind.i64 (0), Value.map none, Value.slice none 0 0, Value.slice none 0 0, Value.map none, Value.int IntKind.u32 (0), Value.int IntKind.i32 (0), Value.int IntKind.u32 (0), Value.slice none 0 0, Value.int IntKind.i64 (0), Value.int IntKind.i64 (0)])) := by kernel_rfl
theorem tab_t96 : tiOf Tryz.prog 96 = some (TI.mk (TD.struct [(0, 75), (1, 3), (2, 76), (3, 77), (4, 33), (5, 78), (6, 91), (10, 94), (11, 94)]) 12 136 ([Value.pointer none, Value.int IntKind.i64 (0), Value.map none, Value.slice none 0 0, Value.slice none 0 0, Value.map none, Value.int IntKind.u32 (0), Value.int IntKind.i32 (0), Value.int IntKind.u32 (0), Value.slice none 0 0, Value.int IntKind.i64 (0), Value.int IntKind.i64 (0)])) := by kernel_rfl
theorem tab_t97 : tiOf Tryz.prog 97 = some (TI.mk TD.func 1 8 ([Value.nilFunc])) := by kernel_rfl
theorem tab_t98 : tiOf Tryz.prog 98 = some (TI.mk (TD.slice 101) 1 24 ([Value.slice none 0 0])) := by kernel_rfl
theorem tab_t99 : tiOf Tryz.prog 99 = some (TI.mk (TD.slice 101) 1 24 ([Value.slice none 0 0])) := by kernel_rfl
theorem tab_t100 : tiOf Tryz.prog 100 = some (TI.mk (TD.slice 33) 1 24 ([Value.slice none 0 0])) := by kernel_rfl
theorem tab_t101 : tiOf Tryz.prog 101 = some (TI.mk (TD.slice 33) 1 24 ([Value.slice none 0 0])) := by kernel_rfl
theorem tab_t102 : tiOf Tryz.prog 102 = some (TI.mk TD.func 1 8 ([Value.nilFunc])) := by kernel_rfl
theorem tab_t103 : tiOf Tryz.prog 103 = some (TI.mk TD.func 1 8 ([Value.nilFunc])) := by kernel_rfl
theorem tab_t104 : tiOf Tryz.prog 104 = some (TI.mk TD.func 1 8 ([Value.nilFunc])) := by kernel_rfl
theorem tab_t105 : tiOf Tryz.prog 105 = some (TI.mk TD.func 1 8 ([Value.nilFunc])) := by kernel_rfl
theorem tab_t107 : tiOf Tryz.prog 107 = some (TI.mk TD.func 1 8 ([Value.nilFunc])) := by kernel_rfl
theorem tab_t108 : tiOf Tryz.prog 108 = some (TI.mk TD.func 1 8 ([Value.nilFunc])) := by kernel_rfl
theorem tab_t109 : tiOf Tryz.prog 109 = some (TI.mk (TD.ptr 197) 1 8 ([Value.pointer none])) := by kernel_rfl
theorem tab_t110 : tiOf Tryz.prog 110 = some (TI.mk (TD.slice 289) 1 24 ([Value.slice none 0 0])) := by kernel_rfl
theorem tab_t111 : tiOf Tryz.prog 111 = some (TI.mk (TD.struct [(0, 110)]) 1 24 ([Value.slice none 0 0])) := by kernel_rfl
theorem tab_t112 : tiOf Tryz.prog 112 = some (TI.mk (TD.struct [(0, 110)]) 1 24 ([Value.slice none 0 0])) := by kernel_rfl
theorem tab_t113 : tiOf Tryz.prog 113 = some (TI.mk (TD.slice 9) 1 24 ([Value.slice none 0 0])) := by kernel_rfl
theorem tab_t114 : tiOf Tryz.prog 114 = some (TI.mk (TD.slice 291) 1 24 ([Value.slice none 0 0])) := by kernel_rfl
theorem tab_t115 : tiOf Tryz.prog 115 = some (TI.mk (TD.struct [(0, 113), (1, 114)]) 2 48 ([Value.slice none 0 0, Value.slice none 0 0])) := by kernel_rfl
theorem tab_t116 : tiOf Tryz.prog 116 = some (TI.mk (TD.struct [(0, 113), (1, 114)]) 2 48 ([Value.slice none 0 0, Value.slice none 0 0])) := by kernel_rfl
theorem tab_t117 : tiOf Tryz.prog 117 = some (TI.mk (TD.struct [(0, 109), (1, 112), (2, 31), (259, 99), (260, 116)]) 262 368 ([Value.pointer none, Value.slice none 0 0] ++ List.replicate 256 (Value.int IntKind.u8 (0)) ++ [Value.int IntKind.i64 (0), Value.slice none 0 0, Value.slice none 0 0, Value.slice none 0 0])) := by kernel_rfl
theorem tab_t118 : tiOf Tryz.prog 118 = some (TI.mk (TD.struct [(0, 109), (1, 112), (2, 31), (259, 99), (260, 116)]) 262 368 ([Value.pointer none, Value.slice none 0 0] ++ List.replicate 256 (Value.int IntKind.u8 (0)) ++ [Value.int IntKind.i64 (0), Value.slice none 0 0, Value.slice none 0 0, Value.slice none 0 0])) := by kernel_rfl
theorem tab_t119 : tiOf Tryz.prog 119 = some (TI.mk TD.func 1 8 ([Value.nilFunc])) := by kernel_rfl
theorem tab_t120 : tiOf Tryz.prog 120 = some (TI.mk TD.func 1 8 ([Value.nilFunc])) := by kernel_rfl
theorem tab_t121 : tiOf Tryz.prog 121 = some (TI.mk TD.func 1 8 ([Value.nilFunc])) := by kernel_rfl
theorem tab_t122 : tiOf Tryz.prog 122 = some (TI.mk TD.func 1 8 ([Value.nilFunc])) := by kernel_rfl
theorem tab_t124 : tiOf Tryz.prog 124 = some (TI.mk TD.func 1 8 ([Value.nilFunc])) := by kernel_rfl
theorem tab_t126 : tiOf Tryz.prog 126 = some (TI.mk TD.func 1 8 ([Value.nilFunc])) := by kernel_rfl
theorem tab_t127 : tiOf Tryz.prog 127 = some (TI.mk (TD.ptr 91) 1 8 ([Value.pointer none])) := by kernel_rfl
theorem tab_t128 : tiOf Tryz.prog 128 = some (TI.mk TD.func 1 8 ([Value.nilFunc])) := by kernel_rfl
theorem tab_t130 : tiOf Tryz.prog 130 = some (TI.mk (TD.ptr 94) 1 8 ([Value.pointer none])) := by kernel_rfl
theorem tab_t131 : tiOf Tryz.prog 131 = some (TI.mk TD.func 1 8 ([Value.nilFunc])) := by kernel_rfl
theorem tab_t132 : tiOf Tryz.prog 132 = some (TI.mk (TD.ptr 2) 1 8 ([Value.pointer none])) := by kernel_rfl
theorem tab_t133 : tiOf Tryz.prog 133 = some (TI.mk TD.func 1 8 ([Value.nilFunc])) := by kernel_rfl
theorem tab_t134 : tiOf Tryz.prog 134 = some (TI.mk TD.func 1 8 ([Value.nilFunc])) := by kernel_rfl
theorem tab_t135 : tiOf Tryz.prog 135 = some (TI.mk TD.func 1 8 ([Value.nilFunc])) := by kernel_rfl
theorem tab_t136 : tiOf Tryz.prog 136 = some (TI.mk TD.func 1 8 ([Value.nilFunc])) := by kernel_rfl
theorem tab_t137 : tiOf Tryz.prog 137 = some (TI.mk TD.func 1 8 ([Value.nilFunc])) := by kernel_rfl
theorem tab_t138 : tiOf Tryz.prog 138 = some (TI.mk (TD.int IntKind.u64) 1 8 ([Value.int IntKind.u64 (0)])) := by kernel_rfl
theorem tab_t140 : tiOf Tryz.prog 140 = some (TI.mk TD.func 1 8 ([Value.nilFunc])) := by kernel_rfl
theorem tab_t141 : tiOf Tryz.prog 141 = some (TI.mk (TD.ptr 171) 1 8 ([Value.pointer none])) := by kernel_rfl
theorem tab_t142 : tiOf Tryz.prog 142 = some (TI.mk TD.func 1 8 ([Value.nilFunc])) := by kernel_rfl
theorem tab_t143 : tiOf Tryz.prog 143 = some (TI.mk TD.func 1 8 ([Value.nilFunc])) := by kernel_rfl
theorem tab_t144 : tiOf Tryz.prog 144 = some (TI.mk TD.func 1 8 ([Value.nilFunc])) := by kernel_rfl
theorem tab_t145 : tiOf Tryz.prog 145 = some (TI.mk TD.func 1 8 ([Value.nilFunc])) := by kernel_rfl
theorem tab_t146 : tiOf Tryz.prog 146 = some (TI.mk (TD.ptr 89) 1 8 ([Value.pointer none])) := by kernel_rfl
theorem tab_t148 : tiOf Tryz.prog 148 = some (TI.mk TD.func 1 8 ([Value.nilFunc])) := by kernel_rfl
theorem tab_t149 : tiOf Tryz.prog 149 = some (TI.mk (TD.int IntKind.u64) 1 8 ([Value.int IntKind.u64 (0)])) := by kernel_rfl
theorem tab_t150 : tiOf Tryz.prog 150 = some (TI.mk (TD.array 4 149) 4 32 ([Value.int IntKind.u64 (0), Value.int IntKind.u64 (0), Value.int IntKind.u64 (0), Value.int IntKind.u64 (0)])) := by kernel_rfl
theorem tab_t151 : tiOf Tryz.prog 151 = some (TI.mk (TD.array 4 149) 4 32 ([Value.int IntKind.u64 (0), Value.int IntKind.u64 (0), Value.int IntKind.u64 (0), Value.int IntKind.u64 (0)])) := by kernel_rfl
theorem tab_t152 : tiOf Tryz.prog 152 = some (TI.mk TD.func 1 8 ([Value.nilFunc])) := by kernel_rfl
theorem tab_t153 : tiOf Tryz.prog 153 = some (TI.mk TD.func 1 8 ([Value.nilFunc])) := by kernel_rfl
theorem tab_t154 : tiOf Tryz.prog 154 = some (TI.mk TD.func 1 8 ([Value.nilFunc])) := by kernel_rfl
theorem tab_t155 : tiOf Tryz.prog 155 = some (TI.mk TD.func 1 8 ([Value.nilFunc])) := by kernel_rfl
theorem tab_t156 : tiOf Tryz.prog 156 = some (TI.mk TD.func 1 8 ([Value.nilFunc])) := by kernel_rfl
theorem tab_t157 : tiOf Tryz.prog 157 = some (TI.mk TD.func 1 8 ([Value.nilFunc])) := by kernel_rfl
theorem tab_t158 : tiOf Tryz.prog 158 = some (TI.mk TD.func 1 8 ([Value.nilFunc])) := by kernel_rfl
theorem tab_t159 : tiOf Tryz.prog 159 = some (TI.mk (TD.map 3 4) 1 8 ([Value.map none])) := by kernel_rfl
theorem tab_t160 : tiOf Tryz.prog 160 = some (TI.mk (TD.struct [(0, 109), (1, 5), (2, 159)]) 3 24 ([Value.pointer none, Value.int IntKind.u8 (0), Value.map none])) := by kernel_rfl
theorem tab_t161 : tiOf Tryz.prog 161 = some (TI.mk (TD.struct [(0, 109), (1, 5), (2, 159)]) 3 24 ([Value.pointer none, Value.int IntKind.u8 (0), Value.map none])) := by kernel_rfl
theorem tab_t162 : tiOf Tryz.prog 162 = some (TI.mk TD.func 1 8 ([Value.nilFunc])) := by kernel_rfl
theorem tab_t163 : tiOf Tryz.prog 163 = some (TI.mk TD.func 1 8 ([Value.nilFunc])) := by kernel_rfl
theorem tab_t164 : tiOf Tryz.prog 164 = some (TI.mk TD.func 1 8 ([Value.nilFunc])) := by kernel_rfl
theorem tab_t166 : tiOf Tryz.prog 166 = some (TI.mk TD.func 1 8 ([Value.nilFunc])) := by kernel_rfl
theorem tab_t168 : tiOf Tryz.prog 168 = some (TI.mk TD.func 1 8 ([Value.nilFunc])) := by kernel_rfl
theorem tab_t169 : tiOf Tryz.prog 169 = some (TI.mk (TD.map 3 101) 1 8 ([Value.map none])) := by kernel_rfl
theorem tab_t170 : tiOf Tryz.prog 170 = some (TI.mk (TD.struct [(0, 109), (1, 5), (2, 5), (3, 24), (4, 169), (5, 169)]) 6 40 ([Value.pointer none, Value.int IntKind.u8 (0), Value.int IntKind.u8 (0), Value.int IntKind.i64 (0), Value.map none, Value.map none])) := by kernel_rfl
theorem tab_t171 : tiOf Tryz.prog 171 = some (TI.mk (TD.struct [(0, 109), (1, 5), (2, 5), (3, 24), (4, 169), (5, 169)]) 6 40 ([Value.pointer none, Value.int IntKind.u8 (0), Value.int IntKind.u8 (0), Value.int IntKind.i64 (0), Value.map none, Value.map none])) := by kernel_rfl
theorem tab_t172 : tiOf Tryz.prog 172 = some (TI.mk TD.func 1 8 ([Value.nilFunc])) := by kernel_rfl
theorem tab_t173 : tiOf Tryz.prog 173 = some (TI.mk TD.func 1 8 ([Value.nilFunc])) := by kernel_rfl
theorem tab_t175 : tiOf Tryz.prog 175 = some (TI.mk (TD.ptr 83) 1 8 ([Value.pointer none])) := by kernel_rfl
theorem tab_t176 : tiOf Tryz.prog 176 = some (TI.mk TD.func 1 8 ([Value.nilFunc])) := by kernel_rfl
theorem tab_t177 : tiOf Tryz.prog 177 = some (TI.mk (TD.ptr 66) 1 8 ([Value.pointer none])) := by kernel_rfl
theorem tab_t178 : tiOf Tryz.prog 178 = some (TI.mk TD.func 1 8 ([Value.nilFunc])) := by kernel_rfl
theorem tab_t179 : tiOf Tryz.prog 179 = some (TI.mk TD.func 1 8 ([Value.nilFunc])) := by kernel_rfl
theorem tab_t180 : tiOf Tryz.prog 180 = some (TI.mk TD.func 1 8 ([Value.nilFunc])) := by kernel_rfl
theorem tab_t181 : tiOf Tryz.prog 181 = some (TI.mk TD.func 1 8 ([Value.nilFunc])) := by kernel_rfl
theorem tab_t182 : tiOf Tryz.prog 182 = some (TI.mk (TD.ptr 184) 1 8 ([Value.pointer none])) := by kernel_rfl
theorem tab_t183 : tiOf Tryz.prog 183 = some (TI.mk (TD.struct [(0, 182), (1, 22)]) 2 32 ([Value.pointer none, Value.slice none 0 0])) := by kernel_rfl
theorem tab_t184 : tiOf Tryz.prog 184 = some (TI.mk (TD.struct [(0, 182), (1, 22)]) 2 32 ([Value.pointer none, Value.slice none 0 0])) := by kernel_rfl
theorem tab_t185 : tiOf Tryz.prog 185 = some (TI.mk TD.iface 1 16 ([Value.nilIface])) := by kernel_rfl
theorem tab_t186 : tiOf Tryz.prog 186 = some (TI.mk TD.iface 1 16 ([Value.nilIface])) := by kernel_rfl
theorem tab_t188 : tiOf Tryz.prog 188 = some (TI.mk TD.func 1 8 ([Value.nilFunc])) := by kernel_rfl
theorem tab_t189 : tiOf Tryz.prog 189 = some (TI.mk TD.func 1 8 ([Value.nilFunc])) := by kernel_rfl
theorem tab_t190 : tiOf Tryz.prog 190 = some (TI.mk TD.func 1 8 ([Value.nilFunc])) := by kernel_rfl
theorem tab_t191 : tiOf Tryz.prog 191 = some (TI.mk TD.func 1 8 ([Value.nilFunc])) := by kernel_rfl
theorem tab_t192 : tiOf Tryz.prog 192 = some (TI.mk TD.func 1 8 ([Value.nilFunc])) := by kernel_rfl
theorem tab_t193 : tiOf Tryz.prog 193 = some (TI.mk TD.func 1 8 ([Value.nilFunc])) := by kernel_rfl
theorem tab_t194 : tiOf Tryz.prog 194 = some (TI.mk (TD.slice 201) 1 24 ([Value.slice none 0 0])) := by kernel_rfl
theorem tab_t195 : tiOf Tryz.prog 195 = some (TI.mk (TD.map 201 3) 1 8 ([Value.map none])) := by kernel_rfl
theorem tab_t196 : tiOf Tryz.prog 196 = some (TI.mk (TD.struct [(0, 194), (1, 195)]) 2 32 ([Value.slice none 0 0, Value.map none])) := by kernel_rfl
theorem tab_t197 : tiOf Tryz.prog 197 = some (TI.mk (TD.struct [(0, 194), (1, 195)]) 2 32 ([Value.slice none 0 0, Value.map none])) := by kernel_rfl
theorem tab_t198 : tiOf Tryz.prog 198 = some (TI.mk TD.func 1 8 ([Value.nilFunc])) := by kernel_rfl
theorem tab_t199 : tiOf Tryz.prog 199 = some (TI.mk TD.func 1 8 ([Value.nilFunc])) := by kernel_rfl
theorem tab_t200 : tiOf Tryz.prog 200 = some (TI.mk (TD.struct [(0, 3), (1, 151), (5, 3), (6, 3), (7, 4)]) 8 64 ([Value.int IntKind.i64 (0), Value.int IntKind.u64 (0), Value.int IntKind.u64 (0), Value.int IntKind.u64 (0), Value.int IntKind.u64 (0), Value.int IntKind.i64 (0), Value.int IntKind.i64 (0), Value.bool false])) := by kernel_rfl
theorem tab_t201 : tiOf Tryz.prog 201 = some (TI.mk (TD.struct [(0, 3), (1, 151), (5, 3), (6, 3), (7, 4)]) 8 64 ([Value.int IntKind.i64 (0), Value.int IntKind.u64 (0), Value.int IntKind.u64 (0), Value.int IntKind.u64 (0), Value.int IntKind.u64 (0), Value.int IntKind.i64 (0), Value.int IntKind.i64 (0), Value.bool false])) := by kernel_rfl
theorem tab_t203 : tiOf Tryz.prog 203 = some (TI.mk TD.func 1 8 ([Value.nilFunc])) := by kernel_rfl
theorem tab_t205 : tiOf Tryz.prog 205 = some (TI.mk TD.func 1 8 ([Value.nilFunc])) := by kernel_rfl
theorem tab_t206 : tiOf Tryz.prog 206 = some (TI.mk TD.func 1 8 ([Value.nilFunc])) := by kernel_rfl
theorem tab_t207 : tiOf Tryz.prog 207 = some (TI.mk TD.func 1 8 ([Value.nilFunc])) := by kernel_rfl
theorem tab_t208 : tiOf Tryz.prog 208 = some (TI.mk TD.func 1 8 ([Value.nilFunc])) := by kernel_rfl
theorem tab_t209 : tiOf Tryz.prog 209 = some (TI.mk TD.func 1 8 ([Value.nilFunc])) := by kernel_rfl
theorem tab_t210 : tiOf Tryz.prog 210 = some (TI.mk TD.func 1 8 ([Value.nilFunc])) := by kernel_rfl
theorem tab_t211 : tiOf Tryz.prog 211 = some (TI.mk TD.func 1 8 ([Value.nilFunc])) := by kernel_rfl
theorem tab_t212 : tiOf Tryz.prog 212 = some (TI.mk TD.func 1 8 ([Value.nilFunc])) := by kernel_rfl
theorem tab_t213 : tiOf Tryz.prog 213 = some (TI.mk TD.func 1 8 ([Value.nilFunc])) := by kernel_rfl
theorem tab_t214 : tiOf Tryz.prog 214 = some (TI.mk (TD.ptr 87) 1 8 ([Value.pointer none])) := by kernel_rfl
theorem tab_t215 : tiOf Tryz.prog 215 = some (TI.mk TD.func 1 8 ([Value.nilFunc])) := by kernel_rfl
theorem tab_t216 : tiOf Tryz.prog 216 = some (TI.mk TD.func 1 8 ([Value.nilFunc])) := by kernel_rfl
theorem tab_t217 : tiOf Tryz.prog 217 = some (TI.mk (TD.array 64 5) 64 64 (List.replicate 64 (Value.int IntKind.u8 (0)))) := by kernel_rfl
theorem tab_t218 : tiOf Tryz.prog 218 = some (TI.mk TD.func 1 8 ([Value.nilFunc])) := by kernel_rfl
theorem tab_t219 : tiOf Tryz.prog 219 = some (TI.mk TD.func 1 8 ([Value.nilFunc])) := by kernel_rfl
theorem tab_t220 : tiOf Tryz.prog 220 = some (TI.mk TD.func 1 8 ([Value.nilFunc])) := by kernel_rfl
theorem tab_t221 : tiOf Tryz.prog 221 = some (TI.mk (TD.int IntKind.i64) 1 8 ([Value.int IntKind.i64 (0)])) := by kernel_rfl
theorem tab_t223 : tiOf Tryz.prog 223 = some (TI.mk TD.func 1 8 ([Value.nilFunc])) := by kernel_rfl
theorem tab_t224 : tiOf Tryz.prog 224 = some (TI.mk TD.func 1 8 ([Value.nilFunc])) := by kernel_rfl
theorem tab_t225 : tiOf Tryz.prog 225 = some (TI.mk TD.func 1 8 ([Value.nilFunc])) := by kernel_rfl
theorem tab_t226 : tiOf Tryz.prog 226 = some (TI.mk TD.func 1 8 ([Value.nilFunc])) := by kernel_rfl
theorem tab_t227 : tiOf Tryz.prog 227 = some (TI.mk TD.func 1 8 ([Value.nilFunc])) := by kernel_rfl
theorem tab_t228 : tiOf Tryz.prog 228 = some (TI.mk TD.func 1 8 ([Value.nilFunc])) := by kernel_rfl
theorem tab_t229 : tiOf Tryz.prog 229 = some (TI.mk TD.func 1 8 ([Value.nilFunc])) := by kernel_rfl
theorem tab_t230 : tiOf Tryz.prog 230 = some (TI.mk TD.func 1 8 ([Value.nilFunc])) := by kernel_rfl
theorem tab_t231 : tiOf Tryz.prog 231 = some (TI.mk TD.func 1 8 ([Value.nilFunc])) := by kernel_rfl
theorem tab_t232 : tiOf Tryz.prog 232 = some (TI.mk TD.func 1 8 ([Value.nilFunc])) := by kernel_rfl
theorem tab_t233 : tiOf Tryz.prog 233 = some (TI.mk TD.func 1 8 ([Value.nilFunc])) := by kernel_rfl
theorem tab_t234 : tiOf Tryz.prog 234 = some (TI.mk TD.func 1 8 ([Value.nilFunc])) := by kernel_rfl
theorem tab_t235 : tiOf Tryz.prog 235 = some (TI.mk (TD.ptr 85) 1 8 ([Value.pointer none])) := by kernel_rfl
theorem tab_t236 : tiOf Tryz.prog 236 = some (TI.mk TD.func 1 8 ([Value.nilFunc])) := by kernel_rfl
theorem tab_t237 : tiOf Tryz.prog 237 = some (TI.mk (TD.ptr 21) 1 8 ([Value.pointer none])) := by kernel_rfl
theorem tab_t238 : tiOf Tryz.prog 238 = some (TI.mk TD.func 1 8 ([Value.nilFunc])) := by kernel_rfl
theorem tab_t239 : tiOf Tryz.prog 239 = some (TI.mk TD.other 1 8 ([Value.pointer none])) := by kernel_rfl
theorem tab_t240 : tiOf Tryz.prog 240 = some (TI.mk TD.func 1 8 ([Value.nilFunc])) := by kernel_rfl
theorem tab_t241 : tiOf Tryz.prog 241 = some (TI.mk TD.func 1 8 ([Value.nilFunc])) := by kernel_rfl
theorem tab_t242 : tiOf Tryz.prog 242 = some (TI.mk TD.func 1 8 ([Value.nilFunc])) := by kernel_rfl
theorem tab_t243 : tiOf Tryz.prog 243 = some (TI.mk TD.func 1 8 ([Value.nilFunc])) := by kernel_rfl
theorem tab_t244 : tiOf Tryz.prog 244 = some (TI.mk TD.func 1 8 ([Value.nilFunc])) := by kernel_rfl
theorem tab_t245 : tiOf Tryz.prog 245 = some (TI.mk (TD.int IntKind.u64) 1 8 ([Value.int IntKind.u64 (0)])) := by kernel_rfl
theorem tab_t246 : tiOf Tryz.prog 246 = some (TI.mk TD.func 1 8 ([Value.nilFunc])) := by kernel_rfl
theorem tab_t247 : tiOf Tryz.prog 247 = some (TI.mk TD.func 1 8 ([Value.nilFunc])) := by kernel_rfl
theorem tab_t248 : tiOf Tryz.prog 248 = some (TI.mk TD.func 1 8 ([Value.nilFunc])) := by kernel_rfl
theorem tab_t249 : tiOf Tryz.prog 249 = some (TI.mk (TD.ptr 3) 1 8 ([Value.pointer none])) := by kernel_rfl
theorem tab_t250 : tiOf Tryz.prog 250 = some (TI.mk TD.func 1 8 ([Value.nilFunc])) := by kernel_rfl
theorem tab_t251 : tiOf Tryz.prog 251 = some (TI.mk TD.func 1 8 ([Value.nilFunc])) := by kernel_rfl
theorem tab_t252 : tiOf Tryz.prog 252 = some (TI.mk TD.func 1 8 ([Value.nilFunc])) := by kernel_rfl
theorem tab_t253 : tiOf Tryz.prog 253 = some (TI.mk TD.func 1 8 ([Value.nilFunc])) := by kernel_rfl
theorem tab_t254 : tiOf Tryz.prog 254 = some (TI.mk TD.func 1 8 ([Value.nilFunc])) := by kernel_rfl
theorem tab_t255 : tiOf Tryz.prog 255 = some (TI.mk TD.func 1 8 ([Value.nilFunc])) := by kernel_rfl
theorem tab_t256 : tiOf Tryz.prog 256 = some (TI.mk TD.func 1 8 ([Value.nilFunc])) := by kernel_rfl
theorem tab_t257 : tiOf Tryz.prog 257 = some (TI.mk TD.func 1 8 ([Value.nilFunc])) := by kernel_rfl
theorem tab_t258 : tiOf Tryz.prog 258 = some (TI.mk TD.func 1 8 ([Value.nilFunc])) := by kernel_rfl
theorem tab_t259 : tiOf Tryz.prog 259 = some (TI.mk (TD.array 24 5) 24 24 (List.replicate 24 (Value.int IntKind.u8 (0)))) := by kernel_rfl
theorem tab_t260 : tiOf Tryz.prog 260 = some (TI.mk TD.func 1 8 ([Value.nilFunc])) := by kernel_rfl
theorem tab_t262 : tiOf Tryz.prog 262 = some (TI.mk TD.func 1 8 ([Value.nilFunc])) := by kernel_rfl
theorem tab_t263 : tiOf Tryz.prog 263 = some (TI.mk (TD.ptr 245) 1 8 ([Value.pointer none])) := by kernel_rfl
theorem tab_t265 : tiOf Tryz.prog 265 = some (TI.mk TD.func 1 8 ([Value.nilFunc])) := by kernel_rfl
theorem tab_t266 : tiOf Tryz.prog 266 = some (TI.mk TD.func 1 8 ([Value.nilFunc])) := by kernel_rfl
theorem tab_t267 : tiOf Tryz.prog 267 = some (TI.mk TD.func 1 8 ([Value.nilFunc])) := by kernel_rfl
theorem tab_t268 : tiOf Tryz.prog 268 = some (TI.mk (TD.struct [(0, 3), (1, 210), (2, 210), (3, 180)]) 4 32 ([Value.int IntKind.i64 (0), Value.nilFunc, Value.nilFunc, Value.nilFunc])) := by kernel_rfl
theorem tab_t269 : tiOf Tryz.prog 269 = some (TI.mk (TD.struct [(0, 3), (1, 210), (2, 210), (3, 180)]) 4 32 ([Value.int IntKind.i64 (0), Value.nilFunc, Value.nilFunc, Value.nilFunc])) := by kernel_rfl
theorem tab_t270 : tiOf Tryz.prog 270 = some (TI.mk TD.func 1 8 ([Value.nilFunc])) := by kernel_rfl
theorem tab_t271 : tiOf Tryz.prog 271 = some (TI.mk TD.func 1 8 ([Value.nilFunc])) := by kernel_rfl
theorem tab_t272 : tiOf Tryz.prog 272 = some (TI.mk (TD.array 20 149) 20 160 (List.replicate 20 (Value.int IntKind.u64 (0)))) := by kernel_rfl
theorem tab_t273 : tiOf Tryz.prog 273 = some (TI.mk (TD.array 65 5) 65 65 (List.replicate 65 (Value.int IntKind.u8 (0)))) := by kernel_rfl
theorem tab_t274 : tiOf Tryz.prog 274 = some (TI.mk TD.func 1 8 ([Value.nilFunc])) := by kernel_rfl
theorem tab_t275 : tiOf Tryz.prog 275 = some (TI.mk TD.func 1 8 ([Value.nilFunc])) := by kernel_rfl
theorem tab_t276 : tiOf Tryz.prog 276 = some (TI.mk TD.func 1 8 ([Value.nilFunc])) := by kernel_rfl
theorem tab_t277 : tiOf Tryz.prog 277 = some (TI.mk TD.func 1 8 ([Value.nilFunc])) := by kernel_rfl
theorem tab_t278 : tiOf Tryz.prog 278 = some (TI.mk TD.func 1 8 ([Value.nilFunc])) := by kernel_rfl
theorem tab_t279 : tiOf Tryz.prog 279 = some (TI.mk TD.func 1 8 ([Value.nilFunc])) := by kernel_rfl
theorem tab_t280 : tiOf Tryz.prog 280 = some (TI.mk TD.func 1 8 ([Value.nilFunc])) := by kernel_rfl
theorem tab_t281 : tiOf Tryz.prog 281 = some (TI.mk TD.func 1 8 ([Value.nilFunc])) := by kernel_rfl
theorem tab_t282 : tiOf Tryz.prog 282 = some (TI.mk TD.func 1 8 ([Value.nilFunc])) := by kernel_rfl
theorem tab_t283 : tiOf Tryz.prog 283 = some (TI.mk TD.func 1 8 ([Value.nilFunc])) := by kernel_rfl
theorem tab_t284 : tiOf Tryz.prog 284 = some (TI.mk (TD.array 32 5) 32 32 (List.replicate 32 (Value.int IntKind.u8 (0)))) := by kernel_rfl
theorem tab_t285 : tiOf Tryz.prog 285 = some (TI.mk TD.func 1 8 ([Value.nilFunc])) := by kernel_rfl
theorem tab_t286 : tiOf Tryz.prog 286 = some (TI.mk TD.func 1 8 ([Value.nilFunc])) := by kernel_rfl
theorem tab_t287 : tiOf Tryz.prog 287 = some (TI.mk TD.func 1 8 ([Value.nilFunc])) := by kernel_rfl
theorem tab_t288 : tiOf Tryz.prog 288 = some (TI.mk (TD.struct [(0, 3), (1, 151), (5, 110), (6, 3), (7, 3), (8, 4)]) 9 88 ([Value.int IntKind.i64 (0), Value.int IntKind.u64 (0), Value.int IntKind.u64 (0), Value.int IntKind.u64 (0), Value.int IntKind.u64 (0), Value.slice none 0 0, Value.int IntKind.i64 (0), Value.int IntKind.i64 (0), Value.bool false])) := by kernel_rfl
theorem tab_t289 : tiOf Tryz.prog 289 = some (TI.mk (TD.struct [(0, 3), (1, 151), (5, 110), (6, 3), (7, 3), (8, 4)]) 9 88 ([Value.int IntKind.i64 (0), Value.int IntKind.u64 (0), Value.int IntKind.u64 (0), Value.int IntKind.u64 (0), Value.int IntKind.u64 (0), Value.slice none 0 0, Value.int IntKind.i64 (0), Value.int IntKind.i64 (0), Value.bool false])) := by kernel_rfl
theorem tab_t290 : tiOf Tryz.prog 290 = some (TI.mk (TD.struct [(0, 33), (1, 289), (10, 3), (11, 3)]) 12 128 ([Value.slice none 0 0, Value.int IntKind.i64 (0), Value.int IntKind.u64 (0), Value.int IntKind.u64 (0), Value.int IntKind.u64 (0), Value.int IntKind.u64 (0), Value.slice none 0 0, Value.int IntKind.i64 (0), Value.int IntKind.i64 (0), Value.bool false, Value.int IntKind.i64 (0), Value.int IntKind.i64 (0)])) := by kernel_rfl
theorem tab_t291 : tiOf Tryz.prog 291 = some (TI.mk (TD.struct [(0, 33), (1, 289), (10, 3), (11, 3)]) 12 128 ([Value.slice none 0 0, Value.int IntKind.i64 (0), Value.int IntKind.u64 (0), Value.int IntKind.u64 (0), Value.int IntKind.u64 (0), Value.int IntKind.u64 (0), Value.slice none 0 0, Value.int IntKind.i64 (0), Value.int IntKind.i64 (0), Value.bool false, Value.int IntKind.i64 (0), Value.int IntKind.i64 (0)])) := by kernel_rfl
theorem tab_all : tabAll Tryz.prog 0 tabT := by
  refine And.intro tab_t1 ?_
  refine And.intro tab_t2 ?_
  refine And.intro tab_t3 ?_
  refine And.intro tab_t4 ?_
  refine And.intro tab_t5 ?_
  refine And.intro tab_t6 ?_
  refine And.intro tab_t7 ?_
  refine And.intro tab_t8 ?_
  refine And.intro tab_t9 ?_
  refine And.intro tab_t10 ?_
  refine And.intro tab_t11 ?_
  refine And.intro tab_t12 ?_
  refine And.intro tab_t15 ?_
  refine And.intro tab_t16 ?_
  refine And.intro tab_t17 ?_
  refine And.intro tab_t20 ?_
  refine And.intro tab_t21 ?_
  refine And.intro tab_t22 ?_
  refine And.intro tab_t23 ?_
  refine And.intro tab_t24 ?_
  refine And.intro tab_t26 ?_
  refine And.intro tab_t27 ?_
  refine And.intro tab_t28 ?_
  refine And.intro tab_t29 ?_
  refine And.intro tab_t30 ?_
  refine And.intro tab_t31 ?_
  refine And.intro tab_t32 ?_
  refine And.intro tab_t33 ?_
  refine And.intro tab_t34 ?_
  refine And.intro tab_t35 ?_
  refine And.intro tab_t36 ?_
  refine And.intro tab_t37 ?_
  refine And.intro tab_t38 ?_
  refine And.intro tab_t39 ?_
  refine And.intro tab_t40 ?_
  refine And.intro tab_t41 ?_
  refine And.intro tab_t42 ?_
  refine And.intro tab_t43 ?_
  refine And.intro tab_t44 ?_
  refine And.intro tab_t45 ?_
  refine And.intro tab_t46 ?_
  refine And.intro tab_t48 ?_
  refine And.intro tab_t49 ?_
  refine And.intro tab_t50 ?_
  refine And.intro tab_t51 ?_
  refine And.intro tab_t52 ?_
  refine And.intro tab_t53 ?_
  refine And.intro tab_t54 ?_
  refine And.intro tab_t55 ?_
  refine And.intro tab_t56 ?_
  refine And.intro tab_t57 ?_
  refine And.intro tab_t58 ?_
  refine And.intro tab_t59 ?_
  refine And.intro tab_t62 ?_
  refine And.intro tab_t65 ?_
  refine And.intro tab_t66 ?_
  refine And.intro tab_t67 ?_
  refine And.intro tab_t68 ?_
  refine And.intro tab_t69 ?_
  refine And.intro tab_t70 ?_
  refine And.intro tab_t71 ?_
  refine And.intro tab_t72 ?_
  refine And.intro tab_t75 ?_
  refine And.intro tab_t76 ?_
  refine And.intro tab_t77 ?_
  refine And.intro tab_t78 ?_
  refine And.intro tab_t79 ?_
  refine And.intro tab_t80 ?_
  refine And.intro tab_t81 ?_
  refine And.intro tab_t84 ?_
  refine And.intro tab_t85 ?_
  refine And.intro tab_t90 ?_
  refine And.intro tab_t91 ?_
  refine And.intro tab_t92 ?_
  refine And.intro tab_t95 ?_
  refine And.intro tab_t96 ?_
  refine And.intro tab_t97 ?_
  refine And.intro tab_t98 ?_
  refine And.intro tab_t99 ?_
  refine And.intro tab_t100 ?_
  refine And.intro tab_t101 ?_
  refine And.intro tab_t102 ?_
  refine And.intro tab_t103 ?_
  refine And.intro tab_t104 ?_
  refine And.intro tab_t105 ?_
  refine And.intro tab_t107 ?_
  refine And.intro tab_t108 ?_
  refine And.intro tab_t109 ?_
  refine And.intro tab_t110 ?_
  refine And.intro tab_t111 ?_
  refine And.intro tab_t112 ?_
  refine And.intro tab_t113 ?_
  refine And.intro tab_t114 ?_
  refine And.intro tab_t115 ?_
  refine And.intro tab_t116 ?_
  refine And.intro tab_t117 ?_
  refine And.intro tab_t118 ?_
  refine And.intro tab_t119 ?_
  refine And.intro tab_t120 ?_
  refine And.intro tab_t121 ?_
  refine And.intro tab_t122 ?_
  refine And.intro tab_t124 ?_
  refine And.intro tab_t126 ?_
  refine And.intro tab_t127 ?_
  refine And.intro tab_t128 ?_
  refine And.intro tab_t130 ?_
  refine And.intro tab_t131 ?_
  refine And.intro tab_t132 ?_
  refine And.intro tab_t133 ?_
  refine And.intro tab_t134 ?_
  refine And.intro tab_t135 ?_
  refine And.intro tab_t136 ?_
  refine And.intro tab_t137 ?_
  refine And.intro tab_t138 ?_
  refine And.intro tab_t140 ?_
  refine And.intro tab_t141 ?_
  refine And.intro tab_t142 ?_
  refine And.intro tab_t143 ?_
  refine And.intro tab_t144 ?_
  refine And.intro tab_t145 ?_
  refine And.intro tab_t146 ?_
  refine And.intro tab_t148 ?_
  refine And.intro tab_t149 ?_
  refine And.intro tab_t150 ?_
  refine And.intro tab_t151 ?_
  refine And.intro tab_t152 ?_
  refine And.intro tab_t153 ?_
  refine And.intro tab_t154 ?_
  refine And.intro tab_t155 ?_
  refine And.intro tab_t156 ?_
  refine And.intro tab_t157 ?_
  refine And.intro tab_t158 ?_
  refine And.intro tab_t159 ?_
  refine And.intro tab_t160 ?_
  refine And.intro tab_t161 ?_
  refine And.intro tab_t162 ?_
  refine And.intro tab_t163 ?_
  refine And.intro tab_t164 ?_
  refine And.intro tab_t166 ?_
  refine And.intro tab_t168 ?_
  refine And.intro tab_t169 ?_
  refine And.intro tab_t170 ?_
  refine And.intro tab_t171 ?_
  refine And.intro tab_t172 ?_
  refine And.intro tab_t173 ?_
  refine And.intro tab_t175 ?_
  refine And.intro tab_t176 ?_
  refine And.intro tab_t177 ?_
  refine And.intro tab_t178 ?_
  refine And.intro tab_t179 ?_
  refine And.intro tab_t180 ?_
  refine And.intro tab_t181 ?_
  refine And.intro tab_t182 ?_
  refine And.intro tab_t183 ?_
  refine And.intro tab_t184 ?_
  refine And.intro tab_t185 ?_
  refine And.intro tab_t186 ?_
  refine And.intro tab_t188 ?_
  refine And.intro tab_t189 ?_
  refine And.intro tab_t190 ?_
  refine And.intro tab_t191 ?_
  refine And.intro tab_t192 ?_
  refine And.intro tab_t193 ?_
  refine And.intro tab_t194 ?_
  refine And.intro tab_t195 ?_
  refine And.intro tab_t196 ?_
  refine And.intro tab_t197 ?_
  refine And.intro tab_t198 ?_
  refine And.intro tab_t199 ?_
  refine And.intro tab_t200 ?_
  refine And.intro tab_t201 ?_
  refine And.intro tab_t203 ?_
  refine And.intro tab_t205 ?_
  refine And.intro tab_t206 ?_
  refine And.intro tab_t207 ?_
  refine And.intro tab_t208 ?_
  refine And.intro tab_t209 ?_
  refine And.intro tab_t210 ?_
  refine And.intro tab_t211 ?_
  refine And.intro tab_t212 ?_
  refine And.intro tab_t213 ?_
  refine And.intro tab_t214 ?_
  refine And.intro tab_t215 ?_
  refine And.intro tab_t216 ?_
  refine And.intro tab_t217 ?_
  refine And.intro tab_t218 ?_
  refine And.intro tab_t219 ?_
  refine And.intro tab_t220 ?_
  refine And.intro tab_t221 ?_
  refine And.intro tab_t223 ?_
  refine And.intro tab_t224 ?_
  refine And.intro tab_t225 ?_
  refine And.intro tab_t226 ?_
  refine And.intro tab_t227 ?_
  refine And.intro tab_t228 ?_
  refine And.intro tab_t229 ?_
  refine And.intro tab_t230 ?_
  refine And.intro tab_t231 ?_
  refine And.intro tab_t232 ?_
  refine And.intro tab_t233 ?_
  refine And.intro tab_t234 ?_
  refine And.intro tab_t235 ?_
  refine And.intro tab_t236 ?_
  refine And.intro tab_t237 ?_
  refine And.intro tab_t238 ?_
  refine And.intro tab_t239 ?_
  refine And.intro tab_t240 ?_
  refine And.intro tab_t241 ?_
  refine And.intro tab_t242 ?_
  refine And.intro tab_t243 ?_
  refine And.intro tab_t244 ?_
  refine And.intro tab_t245 ?_
  refine And.intro tab_t246 ?_
  refine And.intro tab_t247 ?_
  refine And.intro tab_t248 ?_
  refine And.intro tab_t249 ?_
  refine And.intro tab_t250 ?_
  refine And.intro tab_t251 ?_
  refine And.intro tab_t252 ?_
  refine And.intro tab_t253 ?_
  refine And.intro tab_t254 ?_
  refine And.intro tab_t255 ?_
  refine And.intro tab_t256 ?_
  refine And.intro tab_t257 ?_
  refine And.intro tab_t258 ?_
  refine And.intro tab_t259 ?_
  refine And.intro tab_t260 ?_
  refine And.intro tab_t262 ?_
  refine And.intro tab_t263 ?_
  refine And.intro tab_t265 ?_
  refine And.intro tab_t266 ?_
  refine And.intro tab_t267 ?_
  refine And.intro tab_t268 ?_
  refine And.intro tab_t269 ?_
  refine And.intro tab_t270 ?_
  refine And.intro tab_t271 ?_
  refine And.intro tab_t272 ?_
  refine And.intro tab_t273 ?_
  refine And.intro tab_t274 ?_
  refine And.intro tab_t275 ?_
  refine And.intro tab_t276 ?_
  refine And.intro tab_t277 ?_
  refine And.intro tab_t278 ?_
  refine And.intro tab_t279 ?_
  refine And.intro tab_t280 ?_
  refine And.intro tab_t281 ?_
  refine And.intro tab_t282 ?_
  refine And.intro tab_t283 ?_
  refine And.intro tab_t284 ?_
  refine And.intro tab_t285 ?_
  refine And.intro tab_t286 ?_
  refine And.intro tab_t287 ?_
  refine And.intro tab_t288 ?_
  refine And.intro tab_t289 ?_
  refine And.intro tab_t290 ?_
  refine And.intro tab_t291 ?_
  exact trivial
theorem tab_ok : TabOk Tryz.prog tabT := fun t ti h => by have := tabAll_ok tabT 0 tab_all t ti h; rwa [Nat.zero_add] at this
theorem fns_all : fnAll Tryz.prog 0 tabG := by
  refine And.intro ⟨Tryz.f2, Tryz.func2, rfl, by kernel_rfl⟩ ?_
  refine And.intro ⟨Tryz.f3, Tryz.func3, rfl, by kernel_rfl⟩ ?_
  refine And.intro ⟨Tryz.f4, Tryz.func4, rfl, by kernel_rfl⟩ ?_
  refine And.intro ⟨Tryz.f5, Tryz.func5, rfl, by kernel_rfl⟩ ?_
  refine And.intro ⟨Tryz.f6, Tryz.func6, rfl, by kernel_rfl⟩ ?_
  refine And.intro ⟨Tryz.f7, Tryz.func7, rfl, by kernel_rfl⟩ ?_
  refine And.intro ⟨Tryz.f8, Tryz.func8, rfl, by kernel_rfl⟩ ?_
  refine And.intro ⟨Tryz.f9, Tryz.func9, rfl, by kernel_rfl⟩ ?_
  refine And.intro ⟨Tryz.f10, Tryz.func10, rfl, by kernel_rfl⟩ ?_
  refine And.intro ⟨Tryz.f11, Tryz.func11, rfl, by kernel_rfl⟩ ?_
  refine And.intro ⟨Tryz.f12, Tryz.func12, rfl, by kernel_rfl⟩ ?_
  refine And.intro ⟨Tryz.f13, Tryz.func13, rfl, by kernel_rfl⟩ ?_
  refine And.intro ⟨Tryz.f14, Tryz.func14, rfl, by kernel_rfl⟩ ?_
  refine And.intro ⟨Tryz.f15, Tryz.func15, rfl, by kernel_rfl⟩ ?_
  refine And.intro ⟨Tryz.f16, Tryz.func16, rfl, by kernel_rfl⟩ ?_
  refine And.intro ⟨Tryz.f17, Tryz.func17, rfl, by kernel_rfl⟩ ?_
  refine And.intro ⟨Tryz.f18, Tryz.func18, rfl, by kernel_rfl⟩ ?_
  refine And.intro ⟨Tryz.f35, Tryz.func35, rfl, by kernel_rfl⟩ ?_
  refine And.intro ⟨Tryz.f36, Tryz.func36, rfl, by kernel_rfl⟩ ?_
  refine And.intro ⟨Tryz.f37, Tryz.func37, rfl, by kernel_rfl⟩ ?_
  refine And.intro ⟨Tryz.f38, Tryz.func38, rfl, by kernel_rfl⟩ ?_
  refine And.intro ⟨Tryz.f39, Tryz.func39, rfl, by kernel_rfl⟩ ?_
  refine And.intro ⟨Tryz.f40, Tryz.func40, rfl, by kernel_rfl⟩ ?_
  refine And.intro ⟨Tryz.f41, Tryz.func41, rfl, by kernel_rfl⟩ ?_
  refine And.intro ⟨Tryz.f42, Tryz.func42, rfl, by kernel_rfl⟩ ?_
  refine And.intro ⟨Tryz.f43, Tryz.func43, rfl, by kernel_rfl⟩ ?_
  refine And.intro ⟨Tryz.f44, Tryz.func44, rfl, by kernel_rfl⟩ ?_
  refine And.intro ⟨Tryz.f45, Tryz.func45, rfl, by kernel_rfl⟩ ?_
  refine And.intro ⟨Tryz.f46, Tryz.func46, rfl, by kernel_rfl⟩ ?_
  refine And.intro ⟨Tryz.f47, Tryz.func47, rfl, by kernel_rfl⟩ ?_
  refine And.intro ⟨Tryz.f48, Tryz.func48, rfl, by kernel_rfl⟩ ?_
  refine And.intro ⟨Tryz.f49, Tryz.func49, rfl, by kernel_rfl⟩ ?_
  refine And.intro ⟨Tryz.f50, Tryz.func50, rfl, by kernel_rfl⟩ ?_
  refine And.intro ⟨Tryz.f51, Tryz.func51, rfl, by kernel_rfl⟩ ?_
  refine And.intro ⟨Tryz.f52, Tryz.func52, rfl, by kernel_rfl⟩ ?_
  refine And.intro ⟨Tryz.f53, Tryz.func53, rfl, by kernel_rfl⟩ ?_
  refine And.intro ⟨Tryz.f54, Tryz.func54, rfl, by kernel_rfl⟩ ?_
  refine And.intro ⟨Tryz.f55, Tryz.func55, rfl, by kernel_rfl⟩ ?_
  refine And.intro ⟨Tryz.f56, Tryz.func56, rfl, by kernel_rfl⟩ ?_
  refine And.intro ⟨Tryz.f57, Tryz.func57, rfl, by kernel_rfl⟩ ?_
  refine And.intro ⟨Tryz.f58, Tryz.func58, rfl, by kernel_rfl⟩ ?_
  refine And.intro ⟨Tryz.f59, Tryz.func59, rfl, by kernel_rfl⟩ ?_
  refine And.intro ⟨Tryz.f60, Tryz.func60, rfl, by kernel_rfl⟩ ?_
  refine And.intro ⟨Tryz.f61, Tryz.func61, rfl, by kernel_rfl⟩ ?_
  refine And.intro ⟨Tryz.f62, Tryz.func62, rfl, by kernel_rfl⟩ ?_
  refine And.intro ⟨Tryz.f64, Tryz.func64, rfl, by kernel_rfl⟩ ?_
  refine And.intro ⟨Tryz.f65, Tryz.func65, rfl, by kernel_rfl⟩ ?_
  refine And.intro ⟨Tryz.f66, Tryz.func66, rfl, by kernel_rfl⟩ ?_
  refine And.intro ⟨Tryz.f67, Tryz.func67, rfl, by kernel_rfl⟩ ?_
  refine And.intro ⟨Tryz.f68, Tryz.func68, rfl, by kernel_rfl⟩ ?_
  refine And.intro ⟨Tryz.f69, Tryz.func69, rfl, by kernel_rfl⟩ ?_
  refine And.intro ⟨Tryz.f70, Tryz.func70, rfl, by kernel_rfl⟩ ?_
  refine And.intro ⟨Tryz.f71, Tryz.func71, rfl, by kernel_rfl⟩ ?_
  refine And.intro ⟨Tryz.f72, Tryz.func72, rfl, by kernel_rfl⟩ ?_
  refine And.intro ⟨Tryz.f73, Tryz.func73, rfl, by kernel_rfl⟩ ?_
  refine And.intro ⟨Tryz.f74, Tryz.func74, rfl, by kernel_rfl⟩ ?_
  refine And.intro ⟨Tryz.f75, Tryz.func75, rfl, by kernel_rfl⟩ ?_
  refine And.intro ⟨Tryz.f76, Tryz.func76, rfl, by kernel_rfl⟩ ?_
  refine And.intro ⟨Tryz.f77, Tryz.func77, rfl, by kernel_rfl⟩ ?_
  refine And.intro ⟨Tryz.f78, Tryz.func78, rfl, by kernel_rfl⟩ ?_
  refine And.intro ⟨Tryz.f79, Tryz.func79, rfl, by kernel_rfl⟩ ?_
  refine And.intro ⟨Tryz.f80, Tryz.func80, rfl, by kernel_rfl⟩ ?_
  refine And.intro ⟨Tryz.f81, Tryz.func81, rfl, by kernel_rfl⟩ ?_
  refine And.intro ⟨Tryz.f82, Tryz.func82, rfl, by kernel_rfl⟩ ?_
  refine And.intro ⟨Tryz.f83, Tryz.func83, rfl, by kernel_rfl⟩ ?_
  refine And.intro ⟨Tryz.f84, Tryz.func84, rfl, by kernel_rfl⟩ ?_
  refine And.intro ⟨Tryz.f85, Tryz.func85, rfl, by kernel_rfl⟩ ?_
  refine And.intro ⟨Tryz.f86, Tryz.func86, rfl, by kernel_rfl⟩ ?_
  refine And.intro ⟨Tryz.f87, Tryz.func87, rfl, by kernel_rfl⟩ ?_
  refine And.intro ⟨Tryz.f88, Tryz.func88, rfl, by kernel_rfl⟩ ?_
  refine And.intro ⟨Tryz.f89, Tryz.func89, rfl, by kernel_rfl⟩ ?_
  refine And.intro ⟨Tryz.f90, Tryz.func90, rfl, by kernel_rfl⟩ ?_
  refine And.intro ⟨Tryz.f91, Tryz.func91, rfl, by kernel_rfl⟩ ?_
  refine And.intro ⟨Tryz.f92, Tryz.func92, rfl, by kernel_rfl⟩ ?_
  refine And.intro ⟨Tryz.f93, Tryz.func93, rfl, by kernel_rfl⟩ ?_
  refine And.intro ⟨Tryz.f94, Tryz.func94, rfl, by kernel_rfl⟩ ?_
  refine And.intro ⟨Tryz.f95, Tryz.func95, rfl, by kernel_rfl⟩ ?_
  refine And.intro ⟨Tryz.f96, Tryz.func96, rfl, by kernel_rfl⟩ ?_
  refine And.intro ⟨Tryz.f97, Tryz.func97, rfl, by kernel_rfl⟩ ?_
  refine And.intro ⟨Tryz.f98, Tryz.func98, rfl, by kernel_rfl⟩ ?_
  refine And.intro ⟨Tryz.f99, Tryz.func99, rfl, by kernel_rfl⟩ ?_
  refine And.intro ⟨Tryz.f101, Tryz.func101, rfl, by kernel_rfl⟩ ?_
  refine And.intro ⟨Tryz.f102, Tryz.func102, rfl, by kernel_rfl⟩ ?_
  refine And.intro ⟨Tryz.f103, Tryz.func103, rfl, by kernel_rfl⟩ ?_
  refine And.intro ⟨Tryz.f104, Tryz.func104, rfl, by kernel_rfl⟩ ?_
  refine And.intro ⟨Tryz.f105, Tryz.func105, rfl, by kernel_rfl⟩ ?_
  refine And.intro ⟨Tryz.f106, Tryz.func106, rfl, by kernel_rfl⟩ ?_
  refine And.intro ⟨Tryz.f107, Tryz.func107, rfl, by kernel_rfl⟩ ?_
  refine And.intro ⟨Tryz.f108, Tryz.func108, rfl, by kernel_rfl⟩ ?_
  refine And.intro ⟨Tryz.f109, Tryz.func109, rfl, by kernel_rfl⟩ ?_
  refine And.intro ⟨Tryz.f110, Tryz.func110, rfl, by kernel_rfl⟩ ?_
  refine And.intro ⟨Tryz.f111, Tryz.func111, rfl, by kernel_rfl⟩ ?_
  refine And.intro ⟨Tryz.f112, Tryz.func112, rfl, by kernel_rfl⟩ ?_
  refine And.intro ⟨Tryz.f113, Tryz.func113, rfl, by kernel_rfl⟩ ?_
  refine And.intro ⟨Tryz.f114, Tryz.func114, rfl, by kernel_rfl⟩ ?_
  refine And.intro ⟨Tryz.f115, Tryz.func115, rfl, by kernel_rfl⟩ ?_
  refine And.intro ⟨Tryz.f116, Tryz.func116, rfl, by kernel_rfl⟩ ?_
  refine And.intro ⟨Tryz.f117, Tryz.func117, rfl, by kernel_rfl⟩ ?_
  refine And.intro ⟨Tryz.f118, Tryz.func118, rfl, by kernel_rfl⟩ ?_
  refine And.intro ⟨Tryz.f119, Tryz.func119, rfl, by kernel_rfl⟩ ?_
  refine And.intro ⟨Tryz.f120, Tryz.func120, rfl, by kernel_rfl⟩ ?_
  refine And.intro ⟨Tryz.f121, Tryz.func121, rfl, by kernel_rfl⟩ ?_
  refine And.intro ⟨Tryz.f122, Tryz.func122, rfl, by kernel_rfl⟩ ?_
  refine And.intro ⟨Tryz.f123, Tryz.func123, rfl, by kernel_rfl⟩ ?_
  refine And.intro ⟨Tryz.f124, Tryz.func124, rfl, by kernel_rfl⟩ ?_
  refine And.intro ⟨Tryz.f125, Tryz.func125, rfl, by kernel_rfl⟩ ?_
  refine And.intro ⟨Tryz.f126, Tryz.func126, rfl, by kernel_rfl⟩ ?_
  refine And.intro ⟨Tryz.f127, Tryz.func127, rfl, by kernel_rfl⟩ ?_
  refine And.intro ⟨Tryz.f128, Tryz.func128, rfl, by kernel_rfl⟩ ?_
  refine And.intro ⟨Tryz.f129, Tryz.func129, rfl, by kernel_rfl⟩ ?_
  refine And.intro ⟨Tryz.f130, Tryz.func130, rfl, by kernel_rfl⟩ ?_
  refine And.intro ⟨Tryz.f131, Tryz.func131, rfl, by kernel_rfl⟩ ?_
  refine And.intro ⟨Tryz.f132, Tryz.func132, rfl, by kernel_rfl⟩ ?_
  refine And.intro ⟨Tryz.f133, Tryz.func133, rfl, by kernel_rfl⟩ ?_
  refine And.intro ⟨Tryz.f135, Tryz.func135, rfl, by kernel_rfl⟩ ?_
  refine And.intro ⟨Tryz.f136, Tryz.func136, rfl, by kernel_rfl⟩ ?_
  refine And.intro ⟨Tryz.f137, Tryz.func137, rfl, by kernel_rfl⟩ ?_
  refine And.intro ⟨Tryz.f138, Tryz.func138, rfl, by kernel_rfl⟩ ?_
  refine And.intro ⟨Tryz.f139, Tryz.func139, rfl, by kernel_rfl⟩ ?_
  refine And.intro ⟨Tryz.f140, Tryz.func140, rfl, by kernel_rfl⟩ ?_
  refine And.intro ⟨Tryz.f141, Tryz.func141, rfl, by kernel_rfl⟩ ?_
  refine And.intro ⟨Tryz.f142, Tryz.func142, rfl, by kernel_rfl⟩ ?_
  refine And.intro ⟨Tryz.f143, Tryz.func143, rfl, by kernel_rfl⟩ ?_
  refine And.intro ⟨Tryz.f144, Tryz.func144, rfl, by kernel_rfl⟩ ?_
  refine And.intro ⟨Tryz.f145, Tryz.func145, rfl, by kernel_rfl⟩ ?_
  refine And.intro ⟨Tryz.f146, Tryz.func146, rfl, by kernel_rfl⟩ ?_
  refine And.intro ⟨Tryz.f147, Tryz.func147, rfl, by kernel_rfl⟩ ?_
  refine And.intro ⟨Tryz.f148, Tryz.func148, rfl, by kernel_rfl⟩ ?_
  refine And.intro ⟨Tryz.f149, Tryz.func149, rfl, by kernel_rfl⟩ ?_
  refine And.intro ⟨Tryz.f150, Tryz.func150, rfl, by kernel_rfl⟩ ?_
  refine And.intro ⟨Tryz.f151, Tryz.func151, rfl, by kernel_rfl⟩ ?_
  refine And.intro ⟨Tryz.f152, Tryz.func152, rfl, by kernel_rfl⟩ ?_
  refine And.intro ⟨Tryz.f153, Tryz.func153, rfl, by kernel_rfl⟩ ?_
  refine And.intro ⟨Tryz.f154, Tryz.func154, rfl, by kernel_rfl⟩ ?_
  refine And.intro ⟨Tryz.f155, Tryz.func155, rfl, by kernel_rfl⟩ ?_
  refine And.intro ⟨Tryz.f156, Tryz.func156, rfl, by kernel_rfl⟩ ?_
  refine And.intro ⟨Tryz.f157, Tryz.func157, rfl, by kernel_rfl⟩ ?_
  refine And.intro ⟨Tryz.f158, Tryz.func158, rfl, by kernel_rfl⟩ ?_
  refine And.intro ⟨Tryz.f159, Tryz.func159, rfl, by kernel_rfl⟩ ?_
  refine And.intro ⟨Tryz.f160, Tryz.func160, rfl, by kernel_rfl⟩ ?_
  refine And.intro ⟨Tryz.f161, Tryz.func161, rfl, by kernel_rfl⟩ ?_
  refine And.intro ⟨Tryz.f162, Tryz.func162, rfl, by kernel_rfl⟩ ?_
  refine And.intro ⟨Tryz.f163, Tryz.func163, rfl, by kernel_rfl⟩ ?_
  refine And.intro ⟨Tryz.f168, Tryz.func168, rfl, by kernel_rfl⟩ ?_
  refine And.intro ⟨Tryz.f171, Tryz.func171, rfl, by kernel_rfl⟩ ?_
  refine And.intro ⟨Tryz.f173, Tryz.func173, rfl, by kernel_rfl⟩ ?_
  refine And.intro ⟨Tryz.f175, Tryz.func175, rfl, by kernel_rfl⟩ ?_
  refine And.intro ⟨Tryz.f176, Tryz.func176, rfl, by kernel_rfl⟩ ?_
  refine And.intro ⟨Tryz.f177, Tryz.func177, rfl, by kernel_rfl⟩ ?_
  refine And.intro ⟨Tryz.f178, Tryz.func178, rfl, by kernel_rfl⟩ ?_
  refine And.intro ⟨Tryz.f179, Tryz.func179, rfl, by kernel_rfl⟩ ?_
  refine And.intro ⟨Tryz.f180, Tryz.func180, rfl, by kernel_rfl⟩ ?_
  refine And.intro ⟨Tryz.f181, Tryz.func181, rfl, by kernel_rfl⟩ ?_
  refine And.intro ⟨Tryz.f182, Tryz.func182, rfl, by kernel_rfl⟩ ?_
  refine And.intro ⟨Tryz.f183, Tryz.func183, rfl, by kernel_rfl⟩ ?_
  refine And.intro ⟨Tryz.f184, Tryz.func184, rfl, by kernel_rfl⟩ ?_
  refine And.intro ⟨Tryz.f185, Tryz.func185, rfl, by kernel_rfl⟩ ?_
  refine And.intro ⟨Tryz.f186, Tryz.func186, rfl, by kernel_rfl⟩ ?_
  refine And.intro ⟨Tryz.f187, Tryz.func187, rfl, by kernel_rfl⟩ ?_
  refine And.intro ⟨Tryz.f188, Tryz.func188, rfl, by kernel_rfl⟩ ?_
  refine And.intro ⟨Tryz.f189, Tryz.func189, rfl, by kernel_rfl⟩ ?_
  refine And.intro ⟨Tryz.f190, Tryz.func190, rfl, by kernel_rfl⟩ ?_
  refine And.intro ⟨Tryz.f191, Tryz.func191, rfl, by kernel_rfl⟩ ?_
  refine And.intro ⟨Tryz.f192, Tryz.func192, rfl, by kernel_rfl⟩ ?_
  refine And.intro ⟨Tryz.f200, Tryz.func200, rfl, by kernel_rfl⟩ ?_
  refine And.intro ⟨Tryz.f201, Tryz.func201, rfl, by kernel_rfl⟩ ?_
  refine And.intro ⟨Tryz.f202, Tryz.func202, rfl, by kernel_rfl⟩ ?_
  refine And.intro ⟨Tryz.f203, Tryz.func203, rfl, by kernel_rfl⟩ ?_
  refine And.intro ⟨Tryz.f204, Tryz.func204, rfl, by kernel_rfl⟩ ?_
  refine And.intro ⟨Tryz.f205, Tryz.func205, rfl, by kernel_rfl⟩ ?_
  refine And.intro ⟨Tryz.f206, Tryz.func206, rfl, by kernel_rfl⟩ ?_
  refine And.intro ⟨Tryz.f207, Tryz.func207, rfl, by kernel_rfl⟩ ?_
  refine And.intro ⟨Tryz.f208, Tryz.func208, rfl, by kernel_rfl⟩ ?_
  refine And.intro ⟨Tryz.f209, Tryz.func209, rfl, by kernel_rfl⟩ ?_
  refine And.intro ⟨Tryz.f210, Tryz.func210, rfl, by kernel_rfl⟩ ?_
  refine And.intro ⟨Tryz.f211, Tryz.func211, rfl, by kernel_rfl⟩ ?_
  refine And.intro ⟨Tryz.f212, Tryz.func212, rfl, by kernel_rfl⟩ ?_
  refine And.intro ⟨Tryz.f213, Tryz.func213, rfl, by kernel_rfl⟩ ?_
  refine And.intro ⟨Tryz.f214, Tryz.func214, rfl, by kernel_rfl⟩ ?_
  refine And.intro ⟨Tryz.f215, Tryz.func215, rfl, by kernel_rfl⟩ ?_
  refine And.intro ⟨Tryz.f216, Tryz.func216, rfl, by kernel_rfl⟩ ?_
  refine And.intro ⟨Tryz.f217, Tryz.func217, rfl, by kernel_rfl⟩ ?_
  refine And.intro ⟨Tryz.f218, Tryz.func218, rfl, by kernel_rfl⟩ ?_
  refine And.intro ⟨Tryz.f219, Tryz.func219, rfl, by kernel_rfl⟩ ?_
  refine And.intro ⟨Tryz.f220, Tryz.func220, rfl, by kernel_rfl⟩ ?_
  refine And.intro ⟨Tryz.f221, Tryz.func221, rfl, by kernel_rfl⟩ ?_
  refine And.intro ⟨Tryz.f222, Tryz.func222, rfl, by kernel_rfl⟩ ?_
  refine And.intro ⟨Tryz.f223, Tryz.func223, rfl, by kernel_rfl⟩ ?_
  refine And.intro ⟨Tryz.f224, Tryz.func224, rfl, by kernel_rfl⟩ ?_
  refine And.intro ⟨Tryz.f225, Tryz.func225, rfl, by kernel_rfl⟩ ?_
  refine And.intro ⟨Tryz.f226, Tryz.func226, rfl, by kernel_rfl⟩ ?_
  refine And.intro ⟨Tryz.f227, Tryz.func227, rfl, by kernel_rfl⟩ ?_
  refine And.intro ⟨Tryz.f228, Tryz.func228, rfl, by kernel_rfl⟩ ?_
  refine And.intro ⟨Tryz.f229, Tryz.func229, rfl, by kernel_rfl⟩ ?_
  refine And.intro ⟨Tryz.f230, Tryz.func230, rfl, by kernel_rfl⟩ ?_
  refine And.intro ⟨Tryz.f231, Tryz.func231, rfl, by kernel_rfl⟩ ?_
  refine And.intro ⟨Tryz.f232, Tryz.func232, rfl, by kernel_rfl⟩ ?_
  refine And.intro ⟨Tryz.f233, Tryz.func233, rfl, by kernel_rfl⟩ ?_
  refine And.intro ⟨Tryz.f234, Tryz.func234, rfl, by kernel_rfl⟩ ?_
  refine And.intro ⟨Tryz.f235, Tryz.func235, rfl, by kernel_rfl⟩ ?_
  refine And.intro ⟨Tryz.f236, Tryz.func236, rfl, by kernel_rfl⟩ ?_
  refine And.intro ⟨Tryz.f242, Tryz.func242, rfl, by kernel_rfl⟩ ?_
  exact trivial
theorem fns_ok : FnsOk Tryz.prog tabG := fun f h => by have := fnAll_ok tabG 0 fns_all f h; rwa [Nat.zero_add] at this
theorem held_all : heldAll Tryz.prog 0 tabT := by
  refine And.intro trivial ?_
  refine And.intro trivial ?_
  refine And.intro trivial ?_
  refine And.intro trivial ?_
  refine And.intro trivial ?_
  refine And.intro trivial ?_
  refine And.intro Tryz.stoodInHeld7 ?_
  refine And.intro Tryz.stoodInHeld8 ?_
  refine And.intro trivial ?_
  refine And.intro trivial ?_
  refine And.intro trivial ?_
  refine And.intro trivial ?_
  refine And.intro trivial ?_
  refine And.intro trivial ?_
  refine And.intro trivial ?_
  refine And.intro trivial ?_
  refine And.intro trivial ?_
  refine And.intro trivial ?_
  refine And.intro trivial ?_
  refine And.intro trivial ?_
  refine And.intro trivial ?_
  refine And.intro trivial ?_
  refine And.intro trivial ?_
  refine And.intro trivial ?_
  refine And.intro Tryz.stoodInHeld30 ?_
  refine And.intro Tryz.stoodInHeld31 ?_
  refine And.intro trivial ?_
  refine And.intro trivial ?_
  refine And.intro Tryz.stoodInHeld34 ?_
  refine And.intro Tryz.stoodInHeld35 ?_
  refine And.intro trivial ?_
  refine And.intro trivial ?_
  refine And.intro Tryz.stoodInHeld38 ?_
  refine And.intro Tryz.stoodInHeld39 ?_
  refine And.intro trivial ?_
  refine And.intro Tryz.stoodInHeld41 ?_
  refine And.intro Tryz.stoodInHeld42 ?_
  refine And.intro trivial ?_
  refine And.intro trivial ?_
  refine And.intro trivial ?_
  refine And.intro trivial ?_
  refine And.intro trivial ?_
  refine And.intro trivial ?_
  refine And.intro trivial ?_
  refine And.intro trivial ?_
  refine And.intro Tryz.stoodInHeld52 ?_
  refine And.intro Tryz.stoodInHeld53 ?_
  refine And.intro trivial ?_
  refine And.intro trivial ?_
  refine And.intro trivial ?_
  refine And.intro trivial ?_
  refine And.intro trivial ?_
  refine And.intro trivial ?_
  refine And.intro trivial ?_
  refine And.intro trivial ?_
  refine And.intro trivial ?_
  refine And.intro trivial ?_
  refine And.intro trivial ?_
  refine And.intro trivial ?_
  refine And.intro trivial ?_
  refine And.intro trivial ?_
  refine And.intro trivial ?_
  refine And.intro trivial ?_
  refine And.intro trivial ?_
  refine And.intro trivial ?_
  refine And.intro trivial ?_
  refine And.intro Tryz.stoodInHeld79 ?_
  refine And.intro Tryz.stoodInHeld80 ?_
  refine And.intro Tryz.stoodInHeld81 ?_
  refine And.intro Tryz.stoodInHeld84 ?_
  refine And.intro Tryz.stoodInHeld85 ?_
  refine And.intro Tryz.stoodInHeld90 ?_
  refine And.intro Tryz.stoodInHeld91 ?_
  refine And.intro Tryz.stoodInHeld92 ?_
  refine And.intro Tryz.stoodInHeld95 ?_
  refine And.intro Tryz.stoodInHeld96 ?_
  refine And.intro trivial ?_
  refine And.intro trivial ?_
  refine And.intro trivial ?_
  refine And.intro trivial ?_
  refine And.intro trivial ?_
  refine And.intro trivial ?_
  refine And.intro trivial ?_
  refine And.intro trivial ?_
  refine And.intro trivial ?_
  refine And.intro trivial ?_
  refine And.intro trivial ?_
  refine And.intro trivial ?_
  refine And.intro trivial ?_
  refine And.intro Tryz.stoodInHeld111 ?_
  refine And.intro Tryz.stoodInHeld112 ?_
  refine And.intro trivial ?_
  refine And.intro trivial ?_
  refine And.intro Tryz.stoodInHeld115 ?_
  refine And.intro Tryz.stoodInHeld116 ?_
  refine And.intro Tryz.stoodInHeld117 ?_
  refine And.intro Tryz.stoodInHeld118 ?_
  refine And.intro trivial ?_
  refine And.intro trivial ?_
  refine And.intro trivial ?_
  refine And.intro trivial ?_
  refine And.intro trivial ?_
  refine And.intro trivial ?_
  refine And.intro trivial ?_
  refine And.intro trivial ?_
  refine And.intro trivial ?_
  refine And.intro trivial ?_
  refine And.intro trivial ?_
  refine And.intro trivial ?_
  refine And.intro trivial ?_
  refine And.intro trivial ?_
  refine And.intro trivial ?_
  refine And.intro trivial ?_
  refine And.intro trivial ?_
  refine And.intro trivial ?_
  refine And.intro trivial ?_
  refine And.intro trivial ?_
  refine And.intro trivial ?_
  refine And.intro trivial ?_
  refine And.intro trivial ?_
  refine And.intro trivial ?_
  refine And.intro trivial ?_
  refine And.intro trivial ?_
  refine And.intro trivial ?_
  refine And.intro trivial ?_
  refine And.intro trivial ?_
  refine And.intro trivial ?_
  refine And.intro trivial ?_
  refine And.intro trivial ?_
  refine And.intro trivial ?_
  refine And.intro trivial ?_
  refine And.intro trivial ?_
  refine And.intro trivial ?_
  refine And.intro Tryz.stoodInHeld160 ?_
  refine And.intro Tryz.stoodInHeld161 ?_
  refine And.intro trivial ?_
  refine And.intro trivial ?_
  refine And.intro trivial ?_
  refine And.intro trivial ?_
  refine And.intro trivial ?_
  refine And.intro trivial ?_
  refine And.intro Tryz.stoodInHeld170 ?_
  refine And.intro Tryz.stoodInHeld171 ?_
  refine And.intro trivial ?_
  refine And.intro trivial ?_
  refine And.intro trivial ?_
  refine And.intro trivial ?_
  refine And.intro trivial ?_
  refine And.intro trivial ?_
  refine And.intro trivial ?_
  refine And.intro trivial ?_
  refine And.intro trivial ?_
  refine And.intro trivial ?_
  refine And.intro Tryz.stoodInHeld183 ?_
  refine And.intro Tryz.stoodInHeld184 ?_
  refine And.intro trivial ?_
  refine And.intro trivial ?_
  refine And.intro trivial ?_
  refine And.intro trivial ?_
  refine And.intro trivial ?_
  refine And.intro trivial ?_
  refine And.intro trivial ?_
  refine And.intro trivial ?_
  refine And.intro trivial ?_
  refine And.intro trivial ?_
  refine And.intro Tryz.stoodInHeld196 ?_
  refine And.intro Tryz.stoodInHeld197 ?_
  refine And.intro trivial ?_
  refine And.intro trivial ?_
  refine And.intro Tryz.stoodInHeld200 ?_
  refine And.intro Tryz.stoodInHeld201 ?_
  refine And.intro trivial ?_
  refine And.intro trivial ?_
  refine And.intro trivial ?_
  refine And.intro trivial ?_
  refine And.intro trivial ?_
  refine And.intro trivial ?_
  refine And.intro trivial ?_
  refine And.intro trivial ?_
  refine And.intro trivial ?_
  refine And.intro trivial ?_
  refine And.intro trivial ?_
  refine And.intro trivial ?_
  refine And.intro trivial ?_
  refine And.intro trivial ?_
  refine And.intro trivial ?_
  refine And.intro trivial ?_
  refine And.intro trivial ?_
  refine And.intro trivial ?_
  refine And.intro trivial ?_
  refine And.intro trivial ?_
  refine And.intro trivial ?_
  refine And.intro trivial ?_
  refine And.intro trivial ?_
  refine And.intro trivial ?_
  refine And.intro trivial ?_
  refine And.intro trivial ?_
  refine And.intro trivial ?_
  refine And.intro trivial ?_
  refine And.intro trivial ?_
  refine And.intro trivial ?_
  refine And.intro trivial ?_
  refine And.intro trivial ?_
  refine And.intro trivial ?_
  refine And.intro trivial ?_
  refine And.intro trivial ?_
  refine And.intro trivial ?_
  refine And.intro trivial ?_
  refine And.intro trivial ?_
  refine And.intro trivial ?_
  refine And.intro trivial ?_
  refine And.intro trivial ?_
  refine And.intro trivial ?_
  refine And.intro trivial ?_
  refine And.intro trivial ?_
  refine And.intro trivial ?_
  refine And.intro trivial ?_
  refine And.intro trivial ?_
  refine And.intro trivial ?_
  refine And.intro trivial ?_
  refine And.intro trivial ?_
  refine And.intro trivial ?_
  refine And.intro trivial ?_
  refine And.intro trivial ?_
  refine And.intro trivial ?_
  refine And.intro trivial ?_
  refine And.intro trivial ?_
  refine And.intro trivial ?_
  refine And.intro trivial ?_
  refine And.intro trivial ?_
  refine And.intro trivial ?_
  refine And.intro trivial ?_
  refine And.intro Tryz.stoodInHeld268 ?_
  refine And.intro Tryz.stoodInHeld269 ?_
  refine And.intro trivial ?_
  refine And.intro trivial ?_
  refine And.intro trivial ?_
  refine And.intro trivial ?_
  refine And.intro trivial ?_
  refine And.intro trivial ?_
  refine And.intro trivial ?_
  refine And.intro trivial ?_
  refine And.intro trivial ?_
  refine And.intro trivial ?_
  refine And.intro trivial ?_
  refine And.intro trivial ?_
  refine And.intro trivial ?_
  refine And.intro trivial ?_
  refine And.intro trivial ?_
  refine And.intro trivial ?_
  refine And.intro trivial ?_
  refine And.intro trivial ?_
  refine And.intro Tryz.stoodInHeld288 ?_
  refine And.intro Tryz.stoodInHeld289 ?_
  refine And.intro Tryz.stoodInHeld290 ?_
  refine And.intro Tryz.stoodInHeld291 ?_
  exact trivial

theorem hX : TabsOk Tryz.prog X := ⟨tab_ok, fns_ok, fun t ti h => (by have := heldAll_ok tabT 0 held_all t ti h; rwa [Nat.zero_add] at this), by kernel_rfl⟩
end Go.Ev
