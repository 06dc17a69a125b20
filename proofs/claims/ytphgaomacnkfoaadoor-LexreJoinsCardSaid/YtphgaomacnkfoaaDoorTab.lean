/- A table of the types and the functions of this seat, and that it is the program's. Conditions: none. Printed by program. -/
import Derived.Test.YtphgaomacnkfoaaDoorProg
import Derived.Test.YtphgaomacnkfoaaDoorEvJ
import Derived.KernelRfl
namespace Go.Ev
open Go Go.Proofs

def tabT : List (Option TI) := [
  none,
  some (TI.mk TD.func 1 8 ([Value.nilFunc])),
  some (TI.mk (TD.int IntKind.i64) 1 8 ([Value.int IntKind.i64 (0)])),
  some (TI.mk (TD.int IntKind.i64) 1 8 ([Value.int IntKind.i64 (0)])),
  some (TI.mk TD.bool 1 1 ([Value.bool false])),
  some (TI.mk (TD.int IntKind.u8) 1 1 ([Value.int IntKind.u8 (0)])),
  some (TI.mk (TD.int IntKind.u8) 1 1 ([Value.int IntKind.u8 (0)])),
  some (TI.mk (TD.struct [(0, 2), (1, 3), (2, 4), (3, 6)]) 4 24 ([Value.int IntKind.i64 (0), Value.int IntKind.i64 (0), Value.bool false, Value.int IntKind.u8 (0)])),
  some (TI.mk (TD.struct [(0, 2), (1, 3), (2, 4), (3, 6)]) 4 24 ([Value.int IntKind.i64 (0), Value.int IntKind.i64 (0), Value.bool false, Value.int IntKind.u8 (0)])),
  some (TI.mk TD.str 1 16 ([Value.string (ByteArray.mk (Array.mk []))])),
  some (TI.mk TD.str 1 16 ([Value.string (ByteArray.mk (Array.mk []))])),
  some (TI.mk TD.str 1 16 ([Value.string (ByteArray.mk (Array.mk []))])),
  some (TI.mk (TD.int IntKind.u64) 1 8 ([Value.int IntKind.u64 (0)])),
  none,
  none,
  some (TI.mk (TD.ptr 112) 1 8 ([Value.pointer none])),
  some (TI.mk (TD.ptr 115) 1 8 ([Value.pointer none])),
  some (TI.mk (TD.ptr 122) 1 8 ([Value.pointer none])),
  none,
  none,
  some (TI.mk TD.iface 1 16 ([Value.nilIface])),
  some (TI.mk (TD.int IntKind.i32) 1 4 ([Value.int IntKind.i32 (0)])),
  some (TI.mk TD.func 1 8 ([Value.nilFunc])),
  some (TI.mk (TD.slice 31) 1 24 ([Value.slice none 0 0])),
  some (TI.mk (TD.int IntKind.i64) 1 8 ([Value.int IntKind.i64 (0)])),
  none,
  some (TI.mk TD.func 1 8 ([Value.nilFunc])),
  some (TI.mk (TD.int IntKind.u64) 1 8 ([Value.int IntKind.u64 (0)])),
  some (TI.mk (TD.array 4 27) 4 32 ([Value.int IntKind.u64 (0), Value.int IntKind.u64 (0), Value.int IntKind.u64 (0), Value.int IntKind.u64 (0)])),
  some (TI.mk (TD.array 4 27) 4 32 ([Value.int IntKind.u64 (0), Value.int IntKind.u64 (0), Value.int IntKind.u64 (0), Value.int IntKind.u64 (0)])),
  some (TI.mk (TD.struct [(0, 3), (1, 3), (2, 29), (6, 9), (7, 3), (8, 3)]) 9 80 ([Value.int IntKind.i64 (0), Value.int IntKind.i64 (0), Value.int IntKind.u64 (0), Value.int IntKind.u64 (0), Value.int IntKind.u64 (0), Value.int IntKind.u64 (0), Value.string (ByteArray.mk (Array.mk [])), Value.int IntKind.i64 (0), Value.int IntKind.i64 (0)])),
  some (TI.mk (TD.struct [(0, 3), (1, 3), (2, 29), (6, 9), (7, 3), (8, 3)]) 9 80 ([Value.int IntKind.i64 (0), Value.int IntKind.i64 (0), Value.int IntKind.u64 (0), Value.int IntKind.u64 (0), Value.int IntKind.u64 (0), Value.int IntKind.u64 (0), Value.string (ByteArray.mk (Array.mk [])), Value.int IntKind.i64 (0), Value.int IntKind.i64 (0)])),
  some (TI.mk TD.func 1 8 ([Value.nilFunc])),
  some (TI.mk TD.func 1 8 ([Value.nilFunc])),
  some (TI.mk (TD.ptr 36) 1 8 ([Value.pointer none])),
  some (TI.mk (TD.struct [(0, 9), (1, 3)]) 2 24 ([Value.string (ByteArray.mk (Array.mk [])), Value.int IntKind.i64 (0)])),
  some (TI.mk (TD.struct [(0, 9), (1, 3)]) 2 24 ([Value.string (ByteArray.mk (Array.mk [])), Value.int IntKind.i64 (0)])),
  some (TI.mk TD.func 1 8 ([Value.nilFunc])),
  none,
  some (TI.mk TD.func 1 8 ([Value.nilFunc])),
  some (TI.mk TD.func 1 8 ([Value.nilFunc])),
  none,
  some (TI.mk TD.func 1 8 ([Value.nilFunc])),
  some (TI.mk TD.func 1 8 ([Value.nilFunc])),
  none,
  some (TI.mk TD.func 1 8 ([Value.nilFunc])),
  some (TI.mk TD.func 1 8 ([Value.nilFunc])),
  none,
  some (TI.mk TD.func 1 8 ([Value.nilFunc])),
  some (TI.mk TD.func 1 8 ([Value.nilFunc])),
  some (TI.mk TD.func 1 8 ([Value.nilFunc])),
  none,
  some (TI.mk TD.func 1 8 ([Value.nilFunc])),
  some (TI.mk TD.func 1 8 ([Value.nilFunc])),
  none,
  some (TI.mk TD.func 1 8 ([Value.nilFunc])),
  some (TI.mk (TD.slice 9) 1 24 ([Value.slice none 0 0])),
  some (TI.mk TD.func 1 8 ([Value.nilFunc])),
  some (TI.mk (TD.int IntKind.u64) 1 8 ([Value.int IntKind.u64 (0)])),
  some (TI.mk TD.func 1 8 ([Value.nilFunc])),
  some (TI.mk (TD.slice 5) 1 24 ([Value.slice none 0 0])),
  some (TI.mk TD.func 1 8 ([Value.nilFunc])),
  some (TI.mk TD.func 1 8 ([Value.nilFunc])),
  none,
  some (TI.mk TD.func 1 8 ([Value.nilFunc])),
  none,
  some (TI.mk TD.func 1 8 ([Value.nilFunc])),
  some (TI.mk TD.func 1 8 ([Value.nilFunc])),
  some (TI.mk TD.func 1 8 ([Value.nilFunc])),
  some (TI.mk TD.func 1 8 ([Value.nilFunc])),
  some (TI.mk TD.iface 1 16 ([Value.nilIface])),
  some (TI.mk TD.iface 1 16 ([Value.nilIface])),
  none,
  some (TI.mk TD.func 1 8 ([Value.nilFunc])),
  some (TI.mk TD.func 1 8 ([Value.nilFunc])),
  some (TI.mk TD.func 1 8 ([Value.nilFunc])),
  some (TI.mk TD.func 1 8 ([Value.nilFunc])),
  some (TI.mk (TD.int IntKind.u32) 1 4 ([Value.int IntKind.u32 (0)])),
  none,
  some (TI.mk TD.func 1 8 ([Value.nilFunc])),
  some (TI.mk (TD.int IntKind.i64) 1 8 ([Value.int IntKind.i64 (0)])),
  none,
  some (TI.mk TD.func 1 8 ([Value.nilFunc])),
  some (TI.mk (TD.ptr 91) 1 8 ([Value.pointer none])),
  some (TI.mk TD.func 1 8 ([Value.nilFunc])),
  some (TI.mk TD.func 1 8 ([Value.nilFunc])),
  some (TI.mk TD.func 1 8 ([Value.nilFunc])),
  none,
  some (TI.mk TD.func 1 8 ([Value.nilFunc])),
  some (TI.mk TD.func 1 8 ([Value.nilFunc])),
  some (TI.mk (TD.struct [(0, 9), (1, 9), (2, 71)]) 3 48 ([Value.string (ByteArray.mk (Array.mk [])), Value.string (ByteArray.mk (Array.mk [])), Value.nilIface])),
  some (TI.mk (TD.struct [(0, 9), (1, 9), (2, 71)]) 3 48 ([Value.string (ByteArray.mk (Array.mk [])), Value.string (ByteArray.mk (Array.mk [])), Value.nilIface])),
  some (TI.mk TD.func 1 8 ([Value.nilFunc])),
  some (TI.mk (TD.array 24 5) 24 24 (List.replicate 24 (Value.int IntKind.u8 (0)))),
  some (TI.mk TD.func 1 8 ([Value.nilFunc])),
  some (TI.mk TD.func 1 8 ([Value.nilFunc])),
  none,
  some (TI.mk TD.func 1 8 ([Value.nilFunc])),
  some (TI.mk TD.func 1 8 ([Value.nilFunc])),
  some (TI.mk (TD.ptr 5) 1 8 ([Value.pointer none])),
  some (TI.mk (TD.ptr 102) 1 8 ([Value.pointer none])),
  some (TI.mk (TD.struct [(0, 9)]) 1 16 ([Value.string (ByteArray.mk (Array.mk []))])),
  some (TI.mk (TD.struct [(0, 9)]) 1 16 ([Value.string (ByteArray.mk (Array.mk []))])),
  some (TI.mk TD.func 1 8 ([Value.nilFunc])),
  some (TI.mk (TD.array 20 27) 20 160 (List.replicate 20 (Value.int IntKind.u64 (0)))),
  some (TI.mk (TD.array 65 5) 65 65 (List.replicate 65 (Value.int IntKind.u8 (0)))),
  some (TI.mk TD.func 1 8 ([Value.nilFunc])),
  some (TI.mk TD.func 1 8 ([Value.nilFunc])),
  some (TI.mk TD.func 1 8 ([Value.nilFunc])),
  some (TI.mk (TD.array 32 5) 32 32 (List.replicate 32 (Value.int IntKind.u8 (0)))),
  some (TI.mk (TD.array 64 5) 64 64 (List.replicate 64 (Value.int IntKind.u8 (0)))),
  none,
  none,
  some (TI.mk (TD.array 0 16) 0 0 ([])),
  none,
  none,
  some (TI.mk (TD.int IntKind.u8) 1 1 ([Value.int IntKind.u8 (0)])),
  some (TI.mk (TD.int IntKind.u8) 1 1 ([Value.int IntKind.u8 (0)])),
  some (TI.mk TD.func 1 8 ([Value.nilFunc])),
  some (TI.mk (TD.int IntKind.i32) 1 4 ([Value.int IntKind.i32 (0)])),
  some (TI.mk (TD.int IntKind.i32) 1 4 ([Value.int IntKind.i32 (0)])),
  none,
  none,
  some (TI.mk TD.other 1 8 ([Value.pointer none]))]

def tabG : List Bool := [false, false, true, true, true, true, true, true, true, true, true, true, true, true, true, true, true, true, true, true, true, true, true, true, true, false, true, true, true, true, true, true, true, true, true, true, true, true, true, true, true, true, true, true, true, true, true, true, true, false, true, true, true, true, true, true, true, true, true, true, true, true, true, true, true, true, true, true, true, true, true, true, true, true, true, true, true, true, false, false, false, false, false, false, false, false, false, false, false, false, false, false, false, false, false, false, false, false, false, false, false, false, false, false, false, true]

def X : Tab := ⟨tabT, tabG⟩

theorem tab_t1 : tiOf Tryd.prog 1 = some (TI.mk TD.func 1 8 ([Value.nilFunc])) := by kernel_rfl
theorem tab_t2 : tiOf Tryd.prog 2 = some (TI.mk (TD.int IntKind.i64) 1 8 ([Value.int IntKind.i64 (0)])) := by kernel_rfl
theorem tab_t3 : tiOf Tryd.prog 3 = some (TI.mk (TD.int IntKind.i64) 1 8 ([Value.int IntKind.i64 (0)])) := by kernel_rfl
theorem tab_t4 : tiOf Tryd.prog 4 = some (TI.mk TD.bool 1 1 ([Value.bool false])) := by kernel_rfl
theorem tab_t5 : tiOf Tryd.prog 5 = some (TI.mk (TD.int IntKind.u8) 1 1 ([Value.int IntKind.u8 (0)])) := by kernel_rfl
theorem tab_t6 : tiOf Tryd.prog 6 = some (TI.mk (TD.int IntKind.u8) 1 1 ([Value.int IntKind.u8 (0)])) := by kernel_rfl
theorem tab_t7 : tiOf Tryd.prog 7 = some (TI.mk (TD.struct [(0, 2), (1, 3), (2, 4), (3, 6)]) 4 24 ([Value.int IntKind.i64 (0), Value.int IntKind.i64 (0), Value.bool false, Value.int IntKind.u8 (0)])) := by kernel_rfl
theorem tab_t8 : tiOf Tryd.prog 8 = some (TI.mk (TD.struct [(0, 2), (1, 3), (2, 4), (3, 6)]) 4 24 ([Value.int IntKind.i64 (0), Value.int IntKind.i64 (0), Value.bool false, Value.int IntKind.u8 (0)])) := by kernel_rfl
theorem tab_t9 : tiOf Tryd.prog 9 = some (TI.mk TD.str 1 16 ([Value.string (ByteArray.mk (Array.mk []))])) := by kernel_rfl
theorem tab_t10 : tiOf Tryd.prog 10 = some (TI.mk TD.str 1 16 ([Value.string (ByteArray.mk (Array.mk []))])) := by kernel_rfl
theorem tab_t11 : tiOf Tryd.prog 11 = some (TI.mk TD.str 1 16 ([Value.string (ByteArray.mk (Array.mk []))])) := by kernel_rfl
theorem tab_t12 : tiOf Tryd.prog 12 = some (TI.mk (TD.int IntKind.u64) 1 8 ([Value.int IntKind.u64 (0)])) := by kernel_rfl
theorem tab_t15 : tiOf Tryd.prog 15 = some (TI.mk (TD.ptr 112) 1 8 ([Value.pointer none])) := by kernel_rfl
theorem tab_t16 : tiOf Tryd.prog 16 = some (TI.mk (TD.ptr 115) 1 8 ([Value.pointer none])) := by kernel_rfl
theorem tab_t17 : tiOf Tryd.prog 17 = some (TI.mk (TD.ptr 122) 1 8 ([Value.pointer none])) := by kernel_rfl
theorem tab_t20 : tiOf Tryd.prog 20 = some (TI.mk TD.iface 1 16 ([Value.nilIface])) := by kernel_rfl
theorem tab_t21 : tiOf Tryd.prog 21 = some (TI.mk (TD.int IntKind.i32) 1 4 ([Value.int IntKind.i32 (0)])) := by kernel_rfl
theorem tab_t22 : tiOf Tryd.prog 22 = some (TI.mk TD.func 1 8 ([Value.nilFunc])) := by kernel_rfl
theorem tab_t23 : tiOf Tryd.prog 23 = some (TI.mk (TD.slice 31) 1 24 ([Value.slice none 0 0])) := by kernel_rfl
theorem tab_t24 : tiOf Tryd.prog 24 = some (TI.mk (TD.int IntKind.i64) 1 8 ([Value.int IntKind.i64 (0)])) := by kernel_rfl
theorem tab_t26 : tiOf Tryd.prog 26 = some (TI.mk TD.func 1 8 ([Value.nilFunc])) := by kernel_rfl
theorem tab_t27 : tiOf Tryd.prog 27 = some (TI.mk (TD.int IntKind.u64) 1 8 ([Value.int IntKind.u64 (0)])) := by kernel_rfl
theorem tab_t28 : tiOf Tryd.prog 28 = some (TI.mk (TD.array 4 27) 4 32 ([Value.int IntKind.u64 (0), Value.int IntKind.u64 (0), Value.int IntKind.u64 (0), Value.int IntKind.u64 (0)])) := by kernel_rfl
theorem tab_t29 : tiOf Tryd.prog 29 = some (TI.mk (TD.array 4 27) 4 32 ([Value.int IntKind.u64 (0), Value.int IntKind.u64 (0), Value.int IntKind.u64 (0), Value.int IntKind.u64 (0)])) := by kernel_rfl
theorem tab_t30 : tiOf Tryd.prog 30 = some (TI.mk (TD.struct [(0, 3), (1, 3), (2, 29), (6, 9), (7, 3), (8, 3)]) 9 80 ([Value.int IntKind.i64 (0), Value.int IntKind.i64 (0), Value.int IntKind.u64 (0), Value.int IntKind.u64 (0), Value.int IntKind.u64 (0), Value.int IntKind.u64 (0), Value.string (ByteArray.mk (Array.mk [])), Value.int IntKind.i64 (0), Value.int IntKind.i64 (0)])) := by kernel_rfl
theorem tab_t31 : tiOf Tryd.prog 31 = some (TI.mk (TD.struct [(0, 3), (1, 3), (2, 29), (6, 9), (7, 3), (8, 3)]) 9 80 ([Value.int IntKind.i64 (0), Value.int IntKind.i64 (0), Value.int IntKind.u64 (0), Value.int IntKind.u64 (0), Value.int IntKind.u64 (0), Value.int IntKind.u64 (0), Value.string (ByteArray.mk (Array.mk [])), Value.int IntKind.i64 (0), Value.int IntKind.i64 (0)])) := by kernel_rfl
theorem tab_t32 : tiOf Tryd.prog 32 = some (TI.mk TD.func 1 8 ([Value.nilFunc])) := by kernel_rfl
theorem tab_t33 : tiOf Tryd.prog 33 = some (TI.mk TD.func 1 8 ([Value.nilFunc])) := by kernel_rfl
theorem tab_t34 : tiOf Tryd.prog 34 = some (TI.mk (TD.ptr 36) 1 8 ([Value.pointer none])) := by kernel_rfl
theorem tab_t35 : tiOf Tryd.prog 35 = some (TI.mk (TD.struct [(0, 9), (1, 3)]) 2 24 ([Value.string (ByteArray.mk (Array.mk [])), Value.int IntKind.i64 (0)])) := by kernel_rfl
theorem tab_t36 : tiOf Tryd.prog 36 = some (TI.mk (TD.struct [(0, 9), (1, 3)]) 2 24 ([Value.string (ByteArray.mk (Array.mk [])), Value.int IntKind.i64 (0)])) := by kernel_rfl
theorem tab_t37 : tiOf Tryd.prog 37 = some (TI.mk TD.func 1 8 ([Value.nilFunc])) := by kernel_rfl
theorem tab_t39 : tiOf Tryd.prog 39 = some (TI.mk TD.func 1 8 ([Value.nilFunc])) := by kernel_rfl
theorem tab_t40 : tiOf Tryd.prog 40 = some (TI.mk TD.func 1 8 ([Value.nilFunc])) := by kernel_rfl
theorem tab_t42 : tiOf Tryd.prog 42 = some (TI.mk TD.func 1 8 ([Value.nilFunc])) := by kernel_rfl
theorem tab_t43 : tiOf Tryd.prog 43 = some (TI.mk TD.func 1 8 ([Value.nilFunc])) := by kernel_rfl
theorem tab_t45 : tiOf Tryd.prog 45 = some (TI.mk TD.func 1 8 ([Value.nilFunc])) := by kernel_rfl
theorem tab_t46 : tiOf Tryd.prog 46 = some (TI.mk TD.func 1 8 ([Value.nilFunc])) := by kernel_rfl
theorem tab_t48 : tiOf Tryd.prog 48 = some (TI.mk TD.func 1 8 ([Value.nilFunc])) := by kernel_rfl
theorem tab_t49 : tiOf Tryd.prog 49 = some (TI.mk TD.func 1 8 ([Value.nilFunc])) := by kernel_rfl
theorem tab_t50 : tiOf Tryd.prog 50 = some (TI.mk TD.func 1 8 ([Value.nilFunc])) := by kernel_rfl
theorem tab_t52 : tiOf Tryd.prog 52 = some (TI.mk TD.func 1 8 ([Value.nilFunc])) := by kernel_rfl
theorem tab_t53 : tiOf Tryd.prog 53 = some (TI.mk TD.func 1 8 ([Value.nilFunc])) := by kernel_rfl
theorem tab_t55 : tiOf Tryd.prog 55 = some (TI.mk TD.func 1 8 ([Value.nilFunc])) := by kernel_rfl
theorem tab_t56 : tiOf Tryd.prog 56 = some (TI.mk (TD.slice 9) 1 24 ([Value.slice none 0 0])) := by kernel_rfl
theorem tab_t57 : tiOf Tryd.prog 57 = some (TI.mk TD.func 1 8 ([Value.nilFunc])) := by kernel_rfl
theorem tab_t58 : tiOf Tryd.prog 58 = some (TI.mk (TD.int IntKind.u64) 1 8 ([Value.int IntKind.u64 (0)])) := by kernel_rfl
theorem tab_t59 : tiOf Tryd.prog 59 = some (TI.mk TD.func 1 8 ([Value.nilFunc])) := by kernel_rfl
theorem tab_t60 : tiOf Tryd.prog 60 = some (TI.mk (TD.slice 5) 1 24 ([Value.slice none 0 0])) := by kernel_rfl
theorem tab_t61 : tiOf Tryd.prog 61 = some (TI.mk TD.func 1 8 ([Value.nilFunc])) := by kernel_rfl
theorem tab_t62 : tiOf Tryd.prog 62 = some (TI.mk TD.func 1 8 ([Value.nilFunc])) := by kernel_rfl
theorem tab_t64 : tiOf Tryd.prog 64 = some (TI.mk TD.func 1 8 ([Value.nilFunc])) := by kernel_rfl
theorem tab_t66 : tiOf Tryd.prog 66 = some (TI.mk TD.func 1 8 ([Value.nilFunc])) := by kernel_rfl
theorem tab_t67 : tiOf Tryd.prog 67 = some (TI.mk TD.func 1 8 ([Value.nilFunc])) := by kernel_rfl
theorem tab_t68 : tiOf Tryd.prog 68 = some (TI.mk TD.func 1 8 ([Value.nilFunc])) := by kernel_rfl
theorem tab_t69 : tiOf Tryd.prog 69 = some (TI.mk TD.func 1 8 ([Value.nilFunc])) := by kernel_rfl
theorem tab_t70 : tiOf Tryd.prog 70 = some (TI.mk TD.iface 1 16 ([Value.nilIface])) := by kernel_rfl
theorem tab_t71 : tiOf Tryd.prog 71 = some (TI.mk TD.iface 1 16 ([Value.nilIface])) := by kernel_rfl
theorem tab_t73 : tiOf Tryd.prog 73 = some (TI.mk TD.func 1 8 ([Value.nilFunc])) := by kernel_rfl
theorem tab_t74 : tiOf Tryd.prog 74 = some (TI.mk TD.func 1 8 ([Value.nilFunc])) := by kernel_rfl
theorem tab_t75 : tiOf Tryd.prog 75 = some (TI.mk TD.func 1 8 ([Value.nilFunc])) := by kernel_rfl
theorem tab_t76 : tiOf Tryd.prog 76 = some (TI.mk TD.func 1 8 ([Value.nilFunc])) := by kernel_rfl
theorem tab_t77 : tiOf Tryd.prog 77 = some (TI.mk (TD.int IntKind.u32) 1 4 ([Value.int IntKind.u32 (0)])) := by kernel_rfl
theorem tab_t79 : tiOf Tryd.prog 79 = some (TI.mk TD.func 1 8 ([Value.nilFunc])) := by kernel_rfl
theorem tab_t80 : tiOf Tryd.prog 80 = some (TI.mk (TD.int IntKind.i64) 1 8 ([Value.int IntKind.i64 (0)])) := by kernel_rfl
theorem tab_t82 : tiOf Tryd.prog 82 = some (TI.mk TD.func 1 8 ([Value.nilFunc])) := by kernel_rfl
theorem tab_t83 : tiOf Tryd.prog 83 = some (TI.mk (TD.ptr 91) 1 8 ([Value.pointer none])) := by kernel_rfl
theorem tab_t84 : tiOf Tryd.prog 84 = some (TI.mk TD.func 1 8 ([Value.nilFunc])) := by kernel_rfl
theorem tab_t85 : tiOf Tryd.prog 85 = some (TI.mk TD.func 1 8 ([Value.nilFunc])) := by kernel_rfl
theorem tab_t86 : tiOf Tryd.prog 86 = some (TI.mk TD.func 1 8 ([Value.nilFunc])) := by kernel_rfl
theorem tab_t88 : tiOf Tryd.prog 88 = some (TI.mk TD.func 1 8 ([Value.nilFunc])) := by kernel_rfl
theorem tab_t89 : tiOf Tryd.prog 89 = some (TI.mk TD.func 1 8 ([Value.nilFunc])) := by kernel_rfl
theorem tab_t90 : tiOf Tryd.prog 90 = some (TI.mk (TD.struct [(0, 9), (1, 9), (2, 71)]) 3 48 ([Value.string (ByteArray.mk (Array.mk [])), Value.string (ByteArray.mk (Array.mk [])), Value.nilIface])) := by kernel_rfl
theorem tab_t91 : tiOf Tryd.prog 91 = some (TI.mk (TD.struct [(0, 9), (1, 9), (2, 71)]) 3 48 ([Value.string (ByteArray.mk (Array.mk [])), Value.string (ByteArray.mk (Array.mk [])), Value.nilIface])) := by kernel_rfl
theorem tab_t92 : tiOf Tryd.prog 92 = some (TI.mk TD.func 1 8 ([Value.nilFunc])) := by kernel_rfl
theorem tab_t93 : tiOf Tryd.prog 93 = some (TI.mk (TD.array 24 5) 24 24 (List.replicate 24 (Value.int IntKind.u8 (0)))) := by kernel_rfl
theorem tab_t94 : tiOf Tryd.prog 94 = some (TI.mk TD.func 1 8 ([Value.nilFunc])) := by kernel_rfl
theorem tab_t95 : tiOf Tryd.prog 95 = some (TI.mk TD.func 1 8 ([Value.nilFunc])) := by kernel_rfl
theorem tab_t97 : tiOf Tryd.prog 97 = some (TI.mk TD.func 1 8 ([Value.nilFunc])) := by kernel_rfl
theorem tab_t98 : tiOf Tryd.prog 98 = some (TI.mk TD.func 1 8 ([Value.nilFunc])) := by kernel_rfl
theorem tab_t99 : tiOf Tryd.prog 99 = some (TI.mk (TD.ptr 5) 1 8 ([Value.pointer none])) := by kernel_rfl
theorem tab_t100 : tiOf Tryd.prog 100 = some (TI.mk (TD.ptr 102) 1 8 ([Value.pointer none])) := by kernel_rfl
theorem tab_t101 : tiOf Tryd.prog 101 = some (TI.mk (TD.struct [(0, 9)]) 1 16 ([Value.string (ByteArray.mk (Array.mk []))])) := by kernel_rfl
theorem tab_t102 : tiOf Tryd.prog 102 = some (TI.mk (TD.struct [(0, 9)]) 1 16 ([Value.string (ByteArray.mk (Array.mk []))])) := by kernel_rfl
theorem tab_t103 : tiOf Tryd.prog 103 = some (TI.mk TD.func 1 8 ([Value.nilFunc])) := by kernel_rfl
theorem tab_t104 : tiOf Tryd.prog 104 = some (TI.mk (TD.array 20 27) 20 160 (List.replicate 20 (Value.int IntKind.u64 (0)))) := by kernel_rfl
theorem tab_t105 : tiOf Tryd.prog 105 = some (TI.mk (TD.array 65 5) 65 65 (List.replicate 65 (Value.int IntKind.u8 (0)))) := by kernel_rfl
theorem tab_t106 : tiOf Tryd.prog 106 = some (TI.mk TD.func 1 8 ([Value.nilFunc])) := by kernel_rfl
theorem tab_t107 : tiOf Tryd.prog 107 = some (TI.mk TD.func 1 8 ([Value.nilFunc])) := by kernel_rfl
theorem tab_t108 : tiOf Tryd.prog 108 = some (TI.mk TD.func 1 8 ([Value.nilFunc])) := by kernel_rfl
theorem tab_t109 : tiOf Tryd.prog 109 = some (TI.mk (TD.array 32 5) 32 32 (List.replicate 32 (Value.int IntKind.u8 (0)))) := by kernel_rfl
theorem tab_t110 : tiOf Tryd.prog 110 = some (TI.mk (TD.array 64 5) 64 64 (List.replicate 64 (Value.int IntKind.u8 (0)))) := by kernel_rfl
theorem tab_t113 : tiOf Tryd.prog 113 = some (TI.mk (TD.array 0 16) 0 0 ([])) := by kernel_rfl
theorem tab_t116 : tiOf Tryd.prog 116 = some (TI.mk (TD.int IntKind.u8) 1 1 ([Value.int IntKind.u8 (0)])) := by kernel_rfl
theorem tab_t117 : tiOf Tryd.prog 117 = some (TI.mk (TD.int IntKind.u8) 1 1 ([Value.int IntKind.u8 (0)])) := by kernel_rfl
theorem tab_t118 : tiOf Tryd.prog 118 = some (TI.mk TD.func 1 8 ([Value.nilFunc])) := by kernel_rfl
theorem tab_t119 : tiOf Tryd.prog 119 = some (TI.mk (TD.int IntKind.i32) 1 4 ([Value.int IntKind.i32 (0)])) := by kernel_rfl
theorem tab_t120 : tiOf Tryd.prog 120 = some (TI.mk (TD.int IntKind.i32) 1 4 ([Value.int IntKind.i32 (0)])) := by kernel_rfl
theorem tab_t123 : tiOf Tryd.prog 123 = some (TI.mk TD.other 1 8 ([Value.pointer none])) := by kernel_rfl
theorem tab_all : tabAll Tryd.prog 0 tabT := by
  refine And.intro tab_t1 ?_
  refine And.intro tab_t2 ?_
  refine And.intro tab_t3 ?_
  refine And.intro tab_t4 ?_
  refine And.intro tab_t5 ?_
  refine And.intro tab_t6 ?_
  refine And.intro tab_t7 ?_
  refine And.intro tab_t8 ?_
  refine And.intro tab_t9 ?_
  refine And.intro tab_t10 ?_
  refine And.intro tab_t11 ?_
  refine And.intro tab_t12 ?_
  refine And.intro tab_t15 ?_
  refine And.intro tab_t16 ?_
  refine And.intro tab_t17 ?_
  refine And.intro tab_t20 ?_
  refine And.intro tab_t21 ?_
  refine And.intro tab_t22 ?_
  refine And.intro tab_t23 ?_
  refine And.intro tab_t24 ?_
  refine And.intro tab_t26 ?_
  refine And.intro tab_t27 ?_
  refine And.intro tab_t28 ?_
  refine And.intro tab_t29 ?_
  refine And.intro tab_t30 ?_
  refine And.intro tab_t31 ?_
  refine And.intro tab_t32 ?_
  refine And.intro tab_t33 ?_
  refine And.intro tab_t34 ?_
  refine And.intro tab_t35 ?_
  refine And.intro tab_t36 ?_
  refine And.intro tab_t37 ?_
  refine And.intro tab_t39 ?_
  refine And.intro tab_t40 ?_
  refine And.intro tab_t42 ?_
  refine And.intro tab_t43 ?_
  refine And.intro tab_t45 ?_
  refine And.intro tab_t46 ?_
  refine And.intro tab_t48 ?_
  refine And.intro tab_t49 ?_
  refine And.intro tab_t50 ?_
  refine And.intro tab_t52 ?_
  refine And.intro tab_t53 ?_
  refine And.intro tab_t55 ?_
  refine And.intro tab_t56 ?_
  refine And.intro tab_t57 ?_
  refine And.intro tab_t58 ?_
  refine And.intro tab_t59 ?_
  refine And.intro tab_t60 ?_
  refine And.intro tab_t61 ?_
  refine And.intro tab_t62 ?_
  refine And.intro tab_t64 ?_
  refine And.intro tab_t66 ?_
  refine And.intro tab_t67 ?_
  refine And.intro tab_t68 ?_
  refine And.intro tab_t69 ?_
  refine And.intro tab_t70 ?_
  refine And.intro tab_t71 ?_
  refine And.intro tab_t73 ?_
  refine And.intro tab_t74 ?_
  refine And.intro tab_t75 ?_
  refine And.intro tab_t76 ?_
  refine And.intro tab_t77 ?_
  refine And.intro tab_t79 ?_
  refine And.intro tab_t80 ?_
  refine And.intro tab_t82 ?_
  refine And.intro tab_t83 ?_
  refine And.intro tab_t84 ?_
  refine And.intro tab_t85 ?_
  refine And.intro tab_t86 ?_
  refine And.intro tab_t88 ?_
  refine And.intro tab_t89 ?_
  refine And.intro tab_t90 ?_
  refine And.intro tab_t91 ?_
  refine And.intro tab_t92 ?_
  refine And.intro tab_t93 ?_
  refine And.intro tab_t94 ?_
  refine And.intro tab_t95 ?_
  refine And.intro tab_t97 ?_
  refine And.intro tab_t98 ?_
  refine And.intro tab_t99 ?_
  refine And.intro tab_t100 ?_
  refine And.intro tab_t101 ?_
  refine And.intro tab_t102 ?_
  refine And.intro tab_t103 ?_
  refine And.intro tab_t104 ?_
  refine And.intro tab_t105 ?_
  refine And.intro tab_t106 ?_
  refine And.intro tab_t107 ?_
  refine And.intro tab_t108 ?_
  refine And.intro tab_t109 ?_
  refine And.intro tab_t110 ?_
  refine And.intro tab_t113 ?_
  refine And.intro tab_t116 ?_
  refine And.intro tab_t117 ?_
  refine And.intro tab_t118 ?_
  refine And.intro tab_t119 ?_
  refine And.intro tab_t120 ?_
  refine And.intro tab_t123 ?_
  exact trivial
theorem tab_ok : TabOk Tryd.prog tabT := fun t ti h => by have := tabAll_ok tabT 0 tab_all t ti h; rwa [Nat.zero_add] at this
theorem fns_all : fnAll Tryd.prog 0 tabG := by
  refine And.intro ⟨Tryd.f2, Tryd.func2, rfl, by kernel_rfl⟩ ?_
  refine And.intro ⟨Tryd.f3, Tryd.func3, rfl, by kernel_rfl⟩ ?_
  refine And.intro ⟨Tryd.f4, Tryd.func4, rfl, by kernel_rfl⟩ ?_
  refine And.intro ⟨Tryd.f5, Tryd.func5, rfl, by kernel_rfl⟩ ?_
  refine And.intro ⟨Tryd.f6, Tryd.func6, rfl, by kernel_rfl⟩ ?_
  refine And.intro ⟨Tryd.f7, Tryd.func7, rfl, by kernel_rfl⟩ ?_
  refine And.intro ⟨Tryd.f8, Tryd.func8, rfl, by kernel_rfl⟩ ?_
  refine And.intro ⟨Tryd.f9, Tryd.func9, rfl, by kernel_rfl⟩ ?_
  refine And.intro ⟨Tryd.f10, Tryd.func10, rfl, by kernel_rfl⟩ ?_
  refine And.intro ⟨Tryd.f11, Tryd.func11, rfl, by kernel_rfl⟩ ?_
  refine And.intro ⟨Tryd.f12, Tryd.func12, rfl, by kernel_rfl⟩ ?_
  refine And.intro ⟨Tryd.f13, Tryd.func13, rfl, by kernel_rfl⟩ ?_
  refine And.intro ⟨Tryd.f14, Tryd.func14, rfl, by kernel_rfl⟩ ?_
  refine And.intro ⟨Tryd.f15, Tryd.func15, rfl, by kernel_rfl⟩ ?_
  refine And.intro ⟨Tryd.f16, Tryd.func16, rfl, by kernel_rfl⟩ ?_
  refine And.intro ⟨Tryd.f17, Tryd.func17, rfl, by kernel_rfl⟩ ?_
  refine And.intro ⟨Tryd.f18, Tryd.func18, rfl, by kernel_rfl⟩ ?_
  refine And.intro ⟨Tryd.f19, Tryd.func19, rfl, by kernel_rfl⟩ ?_
  refine And.intro ⟨Tryd.f20, Tryd.func20, rfl, by kernel_rfl⟩ ?_
  refine And.intro ⟨Tryd.f21, Tryd.func21, rfl, by kernel_rfl⟩ ?_
  refine And.intro ⟨Tryd.f22, Tryd.func22, rfl, by kernel_rfl⟩ ?_
  refine And.intro ⟨Tryd.f23, Tryd.func23, rfl, by kernel_rfl⟩ ?_
  refine And.intro ⟨Tryd.f24, Tryd.func24, rfl, by kernel_rfl⟩ ?_
  refine And.intro ⟨Tryd.f26, Tryd.func26, rfl, by kernel_rfl⟩ ?_
  refine And.intro ⟨Tryd.f27, Tryd.func27, rfl, by kernel_rfl⟩ ?_
  refine And.intro ⟨Tryd.f28, Tryd.func28, rfl, by kernel_rfl⟩ ?_
  refine And.intro ⟨Tryd.f29, Tryd.func29, rfl, by kernel_rfl⟩ ?_
  refine And.intro ⟨Tryd.f30, Tryd.func30, rfl, by kernel_rfl⟩ ?_
  refine And.intro ⟨Tryd.f31, Tryd.func31, rfl, by kernel_rfl⟩ ?_
  refine And.intro ⟨Tryd.f32, Tryd.func32, rfl, by kernel_rfl⟩ ?_
  refine And.intro ⟨Tryd.f33, Tryd.func33, rfl, by kernel_rfl⟩ ?_
  refine And.intro ⟨Tryd.f34, Tryd.func34, rfl, by kernel_rfl⟩ ?_
  refine And.intro ⟨Tryd.f35, Tryd.func35, rfl, by kernel_rfl⟩ ?_
  refine And.intro ⟨Tryd.f36, Tryd.func36, rfl, by kernel_rfl⟩ ?_
  refine And.intro ⟨Tryd.f37, Tryd.func37, rfl, by kernel_rfl⟩ ?_
  refine And.intro ⟨Tryd.f38, Tryd.func38, rfl, by kernel_rfl⟩ ?_
  refine And.intro ⟨Tryd.f39, Tryd.func39, rfl, by kernel_rfl⟩ ?_
  refine And.intro ⟨Tryd.f40, Tryd.func40, rfl, by kernel_rfl⟩ ?_
  refine And.intro ⟨Tryd.f41, Tryd.func41, rfl, by kernel_rfl⟩ ?_
  refine And.intro ⟨Tryd.f42, Tryd.func42, rfl, by kernel_rfl⟩ ?_
  refine And.intro ⟨Tryd.f43, Tryd.func43, rfl, by kernel_rfl⟩ ?_
  refine And.intro ⟨Tryd.f44, Tryd.func44, rfl, by kernel_rfl⟩ ?_
  refine And.intro ⟨Tryd.f45, Tryd.func45, rfl, by kernel_rfl⟩ ?_
  refine And.intro ⟨Tryd.f46, Tryd.func46, rfl, by kernel_rfl⟩ ?_
  refine And.intro ⟨Tryd.f47, Tryd.func47, rfl, by kernel_rfl⟩ ?_
  refine And.intro ⟨Tryd.f48, Tryd.func48, rfl, by kernel_rfl⟩ ?_
  refine And.intro ⟨Tryd.f50, Tryd.func50, rfl, by kernel_rfl⟩ ?_
  refine And.intro ⟨Tryd.f51, Tryd.func51, rfl, by kernel_rfl⟩ ?_
  refine And.intro ⟨Tryd.f52, Tryd.func52, rfl, by kernel_rfl⟩ ?_
  refine And.intro ⟨Tryd.f53, Tryd.func53, rfl, by kernel_rfl⟩ ?_
  refine And.intro ⟨Tryd.f54, Tryd.func54, rfl, by kernel_rfl⟩ ?_
  refine And.intro ⟨Tryd.f55, Tryd.func55, rfl, by kernel_rfl⟩ ?_
  refine And.intro ⟨Tryd.f56, Tryd.func56, rfl, by kernel_rfl⟩ ?_
  refine And.intro ⟨Tryd.f57, Tryd.func57, rfl, by kernel_rfl⟩ ?_
  refine And.intro ⟨Tryd.f58, Tryd.func58, rfl, by kernel_rfl⟩ ?_
  refine And.intro ⟨Tryd.f59, Tryd.func59, rfl, by kernel_rfl⟩ ?_
  refine And.intro ⟨Tryd.f60, Tryd.func60, rfl, by kernel_rfl⟩ ?_
  refine And.intro ⟨Tryd.f61, Tryd.func61, rfl, by kernel_rfl⟩ ?_
  refine And.intro ⟨Tryd.f62, Tryd.func62, rfl, by kernel_rfl⟩ ?_
  refine And.intro ⟨Tryd.f63, Tryd.func63, rfl, by kernel_rfl⟩ ?_
  refine And.intro ⟨Tryd.f64, Tryd.func64, rfl, by kernel_rfl⟩ ?_
  refine And.intro ⟨Tryd.f65, Tryd.func65, rfl, by kernel_rfl⟩ ?_
  refine And.intro ⟨Tryd.f66, Tryd.func66, rfl, by kernel_rfl⟩ ?_
  refine And.intro ⟨Tryd.f67, Tryd.func67, rfl, by kernel_rfl⟩ ?_
  refine And.intro ⟨Tryd.f68, Tryd.func68, rfl, by kernel_rfl⟩ ?_
  refine And.intro ⟨Tryd.f69, Tryd.func69, rfl, by kernel_rfl⟩ ?_
  refine And.intro ⟨Tryd.f70, Tryd.func70, rfl, by kernel_rfl⟩ ?_
  refine And.intro ⟨Tryd.f71, Tryd.func71, rfl, by kernel_rfl⟩ ?_
  refine And.intro ⟨Tryd.f72, Tryd.func72, rfl, by kernel_rfl⟩ ?_
  refine And.intro ⟨Tryd.f73, Tryd.func73, rfl, by kernel_rfl⟩ ?_
  refine And.intro ⟨Tryd.f74, Tryd.func74, rfl, by kernel_rfl⟩ ?_
  refine And.intro ⟨Tryd.f75, Tryd.func75, rfl, by kernel_rfl⟩ ?_
  refine And.intro ⟨Tryd.f76, Tryd.func76, rfl, by kernel_rfl⟩ ?_
  refine And.intro ⟨Tryd.f77, Tryd.func77, rfl, by kernel_rfl⟩ ?_
  refine And.intro ⟨Tryd.f105, Tryd.func105, rfl, by kernel_rfl⟩ ?_
  exact trivial
theorem fns_ok : FnsOk Tryd.prog tabG := fun f h => by have := fnAll_ok tabG 0 fns_all f h; rwa [Nat.zero_add] at this
theorem held_all : heldAll Tryd.prog 0 tabT := by
  refine And.intro trivial ?_
  refine And.intro trivial ?_
  refine And.intro trivial ?_
  refine And.intro trivial ?_
  refine And.intro trivial ?_
  refine And.intro trivial ?_
  refine And.intro Tryd.stoodInHeld7 ?_
  refine And.intro Tryd.stoodInHeld8 ?_
  refine And.intro trivial ?_
  refine And.intro trivial ?_
  refine And.intro trivial ?_
  refine And.intro trivial ?_
  refine And.intro trivial ?_
  refine And.intro trivial ?_
  refine And.intro trivial ?_
  refine And.intro trivial ?_
  refine And.intro trivial ?_
  refine And.intro trivial ?_
  refine And.intro trivial ?_
  refine And.intro trivial ?_
  refine And.intro trivial ?_
  refine And.intro trivial ?_
  refine And.intro trivial ?_
  refine And.intro trivial ?_
  refine And.intro Tryd.stoodInHeld30 ?_
  refine And.intro Tryd.stoodInHeld31 ?_
  refine And.intro trivial ?_
  refine And.intro trivial ?_
  refine And.intro trivial ?_
  refine And.intro Tryd.stoodInHeld35 ?_
  refine And.intro Tryd.stoodInHeld36 ?_
  refine And.intro trivial ?_
  refine And.intro trivial ?_
  refine And.intro trivial ?_
  refine And.intro trivial ?_
  refine And.intro trivial ?_
  refine And.intro trivial ?_
  refine And.intro trivial ?_
  refine And.intro trivial ?_
  refine And.intro trivial ?_
  refine And.intro trivial ?_
  refine And.intro trivial ?_
  refine And.intro trivial ?_
  refine And.intro trivial ?_
  refine And.intro trivial ?_
  refine And.intro trivial ?_
  refine And.intro trivial ?_
  refine And.intro trivial ?_
  refine And.intro trivial ?_
  refine And.intro trivial ?_
  refine And.intro trivial ?_
  refine And.intro trivial ?_
  refine And.intro trivial ?_
  refine And.intro trivial ?_
  refine And.intro trivial ?_
  refine And.intro trivial ?_
  refine And.intro trivial ?_
  refine And.intro trivial ?_
  refine And.intro trivial ?_
  refine And.intro trivial ?_
  refine And.intro trivial ?_
  refine And.intro trivial ?_
  refine And.intro trivial ?_
  refine And.intro trivial ?_
  refine And.intro trivial ?_
  refine And.intro trivial ?_
  refine And.intro trivial ?_
  refine And.intro trivial ?_
  refine And.intro trivial ?_
  refine And.intro trivial ?_
  refine And.intro trivial ?_
  refine And.intro trivial ?_
  refine And.intro Tryd.stoodInHeld90 ?_
  refine And.intro Tryd.stoodInHeld91 ?_
  refine And.intro trivial ?_
  refine And.intro trivial ?_
  refine And.intro trivial ?_
  refine And.intro trivial ?_
  refine And.intro trivial ?_
  refine And.intro trivial ?_
  refine And.intro trivial ?_
  refine And.intro trivial ?_
  refine And.intro Tryd.stoodInHeld101 ?_
  refine And.intro Tryd.stoodInHeld102 ?_
  refine And.intro trivial ?_
  refine And.intro trivial ?_
  refine And.intro trivial ?_
  refine And.intro trivial ?_
  refine And.intro trivial ?_
  refine And.intro trivial ?_
  refine And.intro trivial ?_
  refine And.intro trivial ?_
  refine And.intro trivial ?_
  refine And.intro trivial ?_
  refine And.intro trivial ?_
  refine And.intro trivial ?_
  refine And.intro trivial ?_
  refine And.intro trivial ?_
  refine And.intro trivial ?_
  exact trivial

theorem hX : TabsOk Tryd.prog X := ⟨tab_ok, fns_ok, fun t ti h => (by have := heldAll_ok tabT 0 held_all t ti h; rwa [Nat.zero_add] at this), by kernel_rfl⟩
end Go.Ev
