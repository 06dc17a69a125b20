/- A table of the types and the functions of this seat, and that it is the program's. Conditions: none. Printed by program. -/
import Derived.Test.YtnpgllgmcdhmcaaProg
import Derived.Test.YtnpgllgmcdhmcaaEv
import Derived.KernelRfl
namespace Go.Ev
open Go Go.Proofs

def tabT : List (Option TI) := [
  none,
  some (TI.mk TD.func 1 8 ([Value.nilFunc])),
  some (TI.mk (TD.int IntKind.i64) 1 8 ([Value.int IntKind.i64 (0)])),
  some (TI.mk (TD.int IntKind.i64) 1 8 ([Value.int IntKind.i64 (0)])),
  some (TI.mk TD.bool 1 1 ([Value.bool false])),
  some (TI.mk (TD.int IntKind.u8) 1 1 ([Value.int IntKind.u8 (0)])),
  some (TI.mk (TD.int IntKind.u8) 1 1 ([Value.int IntKind.u8 (0)])),
  some (TI.mk (TD.struct [(0, 2), (1, 3), (2, 4), (3, 6)]) 4 24 ([Value.int IntKind.i64 (0), Value.int IntKind.i64 (0), Value.bool false, Value.int IntKind.u8 (0)])),
  some (TI.mk (TD.struct [(0, 2), (1, 3), (2, 4), (3, 6)]) 4 24 ([Value.int IntKind.i64 (0), Value.int IntKind.i64 (0), Value.bool false, Value.int IntKind.u8 (0)])),
  some (TI.mk TD.str 1 16 ([Value.string (ByteArray.mk (Array.mk []))])),
  some (TI.mk TD.str 1 16 ([Value.string (ByteArray.mk (Array.mk []))])),
  some (TI.mk TD.str 1 16 ([Value.string (ByteArray.mk (Array.mk []))])),
  some (TI.mk (TD.int IntKind.u64) 1 8 ([Value.int IntKind.u64 (0)])),
  none,
  none,
  some (TI.mk (TD.ptr 104) 1 8 ([Value.pointer none])),
  some (TI.mk (TD.ptr 107) 1 8 ([Value.pointer none])),
  some (TI.mk (TD.ptr 116) 1 8 ([Value.pointer none])),
  none,
  none,
  some (TI.mk TD.iface 1 16 ([Value.nilIface])),
  some (TI.mk (TD.int IntKind.i32) 1 4 ([Value.int IntKind.i32 (0)])),
  some (TI.mk (TD.slice 34) 1 24 ([Value.slice none 0 0])),
  some (TI.mk (TD.slice 34) 1 24 ([Value.slice none 0 0])),
  some (TI.mk TD.func 1 8 ([Value.nilFunc])),
  some (TI.mk TD.func 1 8 ([Value.nilFunc])),
  some (TI.mk TD.func 1 8 ([Value.nilFunc])),
  some (TI.mk TD.func 1 8 ([Value.nilFunc])),
  some (TI.mk (TD.int IntKind.i64) 1 8 ([Value.int IntKind.i64 (0)])),
  none,
  some (TI.mk TD.func 1 8 ([Value.nilFunc])),
  some (TI.mk TD.func 1 8 ([Value.nilFunc])),
  some (TI.mk TD.func 1 8 ([Value.nilFunc])),
  some (TI.mk TD.func 1 8 ([Value.nilFunc])),
  some (TI.mk (TD.slice 3) 1 24 ([Value.slice none 0 0])),
  some (TI.mk TD.func 1 8 ([Value.nilFunc])),
  some (TI.mk TD.func 1 8 ([Value.nilFunc])),
  some (TI.mk TD.func 1 8 ([Value.nilFunc])),
  some (TI.mk TD.func 1 8 ([Value.nilFunc])),
  some (TI.mk TD.func 1 8 ([Value.nilFunc])),
  some (TI.mk TD.func 1 8 ([Value.nilFunc])),
  some (TI.mk TD.func 1 8 ([Value.nilFunc])),
  some (TI.mk TD.func 1 8 ([Value.nilFunc])),
  some (TI.mk TD.func 1 8 ([Value.nilFunc])),
  some (TI.mk TD.func 1 8 ([Value.nilFunc])),
  some (TI.mk TD.func 1 8 ([Value.nilFunc])),
  some (TI.mk TD.func 1 8 ([Value.nilFunc])),
  some (TI.mk TD.func 1 8 ([Value.nilFunc])),
  some (TI.mk (TD.int IntKind.u64) 1 8 ([Value.int IntKind.u64 (0)])),
  some (TI.mk (TD.slice 4) 1 24 ([Value.slice none 0 0])),
  some (TI.mk TD.func 1 8 ([Value.nilFunc])),
  some (TI.mk TD.func 1 8 ([Value.nilFunc])),
  some (TI.mk (TD.slice 22) 1 24 ([Value.slice none 0 0])),
  some (TI.mk TD.func 1 8 ([Value.nilFunc])),
  some (TI.mk TD.func 1 8 ([Value.nilFunc])),
  some (TI.mk TD.func 1 8 ([Value.nilFunc])),
  some (TI.mk TD.func 1 8 ([Value.nilFunc])),
  some (TI.mk TD.func 1 8 ([Value.nilFunc])),
  some (TI.mk TD.func 1 8 ([Value.nilFunc])),
  some (TI.mk TD.func 1 8 ([Value.nilFunc])),
  some (TI.mk TD.func 1 8 ([Value.nilFunc])),
  some (TI.mk TD.func 1 8 ([Value.nilFunc])),
  some (TI.mk (TD.slice 23) 1 24 ([Value.slice none 0 0])),
  some (TI.mk TD.func 1 8 ([Value.nilFunc])),
  some (TI.mk TD.func 1 8 ([Value.nilFunc])),
  some (TI.mk TD.func 1 8 ([Value.nilFunc])),
  some (TI.mk TD.func 1 8 ([Value.nilFunc])),
  some (TI.mk TD.func 1 8 ([Value.nilFunc])),
  some (TI.mk TD.func 1 8 ([Value.nilFunc])),
  some (TI.mk TD.func 1 8 ([Value.nilFunc])),
  some (TI.mk TD.func 1 8 ([Value.nilFunc])),
  some (TI.mk TD.func 1 8 ([Value.nilFunc])),
  some (TI.mk (TD.int IntKind.i64) 1 8 ([Value.int IntKind.i64 (0)])),
  none,
  some (TI.mk TD.func 1 8 ([Value.nilFunc])),
  some (TI.mk TD.func 1 8 ([Value.nilFunc])),
  some (TI.mk TD.func 1 8 ([Value.nilFunc])),
  none,
  some (TI.mk TD.func 1 8 ([Value.nilFunc])),
  some (TI.mk TD.func 1 8 ([Value.nilFunc])),
  some (TI.mk (TD.int IntKind.u32) 1 4 ([Value.int IntKind.u32 (0)])),
  some (TI.mk TD.func 1 8 ([Value.nilFunc])),
  some (TI.mk (TD.int IntKind.u64) 1 8 ([Value.int IntKind.u64 (0)])),
  some (TI.mk TD.func 1 8 ([Value.nilFunc])),
  some (TI.mk (TD.int IntKind.u64) 1 8 ([Value.int IntKind.u64 (0)])),
  some (TI.mk TD.func 1 8 ([Value.nilFunc])),
  some (TI.mk TD.func 1 8 ([Value.nilFunc])),
  some (TI.mk TD.func 1 8 ([Value.nilFunc])),
  some (TI.mk (TD.ptr 3) 1 8 ([Value.pointer none])),
  some (TI.mk TD.func 1 8 ([Value.nilFunc])),
  some (TI.mk TD.func 1 8 ([Value.nilFunc])),
  some (TI.mk TD.func 1 8 ([Value.nilFunc])),
  some (TI.mk TD.func 1 8 ([Value.nilFunc])),
  some (TI.mk TD.func 1 8 ([Value.nilFunc])),
  some (TI.mk TD.func 1 8 ([Value.nilFunc])),
  some (TI.mk TD.func 1 8 ([Value.nilFunc])),
  some (TI.mk (TD.ptr 84) 1 8 ([Value.pointer none])),
  none,
  some (TI.mk TD.func 1 8 ([Value.nilFunc])),
  some (TI.mk TD.func 1 8 ([Value.nilFunc])),
  some (TI.mk TD.func 1 8 ([Value.nilFunc])),
  some (TI.mk TD.func 1 8 ([Value.nilFunc])),
  some (TI.mk TD.func 1 8 ([Value.nilFunc])),
  none,
  none,
  some (TI.mk (TD.array 0 16) 0 0 ([])),
  none,
  none,
  some (TI.mk TD.func 1 8 ([Value.nilFunc])),
  some (TI.mk (TD.int IntKind.u8) 1 1 ([Value.int IntKind.u8 (0)])),
  some (TI.mk (TD.int IntKind.u8) 1 1 ([Value.int IntKind.u8 (0)])),
  some (TI.mk TD.func 1 8 ([Value.nilFunc])),
  some (TI.mk (TD.ptr 5) 1 8 ([Value.pointer none])),
  some (TI.mk (TD.int IntKind.i32) 1 4 ([Value.int IntKind.i32 (0)])),
  some (TI.mk (TD.int IntKind.i32) 1 4 ([Value.int IntKind.i32 (0)])),
  none,
  none,
  some (TI.mk TD.other 1 8 ([Value.pointer none]))]

def tabG : List Bool := [false, false, true, true, true, true, true, true, true, true, true, true, true, true, true, true, true, true, true, true, true, true, true, true, true, true, true, true, true, true, true, true, true, true, true, true, true, true, true, true, true, true, true, true, true, true, true, true, true, true, true, true, true, true, true, true, true, true, true, true, true, true, true, true, true, true, true, true, true, true, true, true, true, true, true, true, true, true, true, true, true, true, true, true, true, true, true, true, false, false, false, false, false, false, false, false, false, false, false, false, false, false, false, false, false]

def X : Tab := ⟨tabT, tabG⟩

theorem tab_t1 : tiOf Try.prog 1 = some (TI.mk TD.func 1 8 ([Value.nilFunc])) := by kernel_rfl
theorem tab_t2 : tiOf Try.prog 2 = some (TI.mk (TD.int IntKind.i64) 1 8 ([Value.int IntKind.i64 (0)])) := by kernel_rfl
theorem tab_t3 : tiOf Try.prog 3 = some (TI.mk (TD.int IntKind.i64) 1 8 ([Value.int IntKind.i64 (0)])) := by kernel_rfl
theorem tab_t4 : tiOf Try.prog 4 = some (TI.mk TD.bool 1 1 ([Value.bool false])) := by kernel_rfl
theorem tab_t5 : tiOf Try.prog 5 = some (TI.mk (TD.int IntKind.u8) 1 1 ([Value.int IntKind.u8 (0)])) := by kernel_rfl
theorem tab_t6 : tiOf Try.prog 6 = some (TI.mk (TD.int IntKind.u8) 1 1 ([Value.int IntKind.u8 (0)])) := by kernel_rfl
theorem tab_t7 : tiOf Try.prog 7 = some (TI.mk (TD.struct [(0, 2), (1, 3), (2, 4), (3, 6)]) 4 24 ([Value.int IntKind.i64 (0), Value.int IntKind.i64 (0), Value.bool false, Value.int IntKind.u8 (0)])) := by kernel_rfl
theorem tab_t8 : tiOf Try.prog 8 = some (TI.mk (TD.struct [(0, 2), (1, 3), (2, 4), (3, 6)]) 4 24 ([Value.int IntKind.i64 (0), Value.int IntKind.i64 (0), Value.bool false, Value.int IntKind.u8 (0)])) := by kernel_rfl
theorem tab_t9 : tiOf Try.prog 9 = some (TI.mk TD.str 1 16 ([Value.string (ByteArray.mk (Array.mk []))])) := by kernel_rfl
theorem tab_t10 : tiOf Try.prog 10 = some (TI.mk TD.str 1 16 ([Value.string (ByteArray.mk (Array.mk []))])) := by kernel_rfl
theorem tab_t11 : tiOf Try.prog 11 = some (TI.mk TD.str 1 16 ([Value.string (ByteArray.mk (Array.mk []))])) := by kernel_rfl
theorem tab_t12 : tiOf Try.prog 12 = some (TI.mk (TD.int IntKind.u64) 1 8 ([Value.int IntKind.u64 (0)])) := by kernel_rfl
theorem tab_t15 : tiOf Try.prog 15 = some (TI.mk (TD.ptr 104) 1 8 ([Value.pointer none])) := by kernel_rfl
theorem tab_t16 : tiOf Try.prog 16 = some (TI.mk (TD.ptr 107) 1 8 ([Value.pointer none])) := by kernel_rfl
theorem tab_t17 : tiOf Try.prog 17 = some (TI.mk (TD.ptr 116) 1 8 ([Value.pointer none])) := by kernel_rfl
theorem tab_t20 : tiOf Try.prog 20 = some (TI.mk TD.iface 1 16 ([Value.nilIface])) := by kernel_rfl
theorem tab_t21 : tiOf Try.prog 21 = some (TI.mk (TD.int IntKind.i32) 1 4 ([Value.int IntKind.i32 (0)])) := by kernel_rfl
theorem tab_t22 : tiOf Try.prog 22 = some (TI.mk (TD.slice 34) 1 24 ([Value.slice none 0 0])) := by kernel_rfl
theorem tab_t23 : tiOf Try.prog 23 = some (TI.mk (TD.slice 34) 1 24 ([Value.slice none 0 0])) := by kernel_rfl
theorem tab_t24 : tiOf Try.prog 24 = some (TI.mk TD.func 1 8 ([Value.nilFunc])) := by kernel_rfl
theorem tab_t25 : tiOf Try.prog 25 = some (TI.mk TD.func 1 8 ([Value.nilFunc])) := by kernel_rfl
theorem tab_t26 : tiOf Try.prog 26 = some (TI.mk TD.func 1 8 ([Value.nilFunc])) := by kernel_rfl
theorem tab_t27 : tiOf Try.prog 27 = some (TI.mk TD.func 1 8 ([Value.nilFunc])) := by kernel_rfl
theorem tab_t28 : tiOf Try.prog 28 = some (TI.mk (TD.int IntKind.i64) 1 8 ([Value.int IntKind.i64 (0)])) := by kernel_rfl
theorem tab_t30 : tiOf Try.prog 30 = some (TI.mk TD.func 1 8 ([Value.nilFunc])) := by kernel_rfl
theorem tab_t31 : tiOf Try.prog 31 = some (TI.mk TD.func 1 8 ([Value.nilFunc])) := by kernel_rfl
theorem tab_t32 : tiOf Try.prog 32 = some (TI.mk TD.func 1 8 ([Value.nilFunc])) := by kernel_rfl
theorem tab_t33 : tiOf Try.prog 33 = some (TI.mk TD.func 1 8 ([Value.nilFunc])) := by kernel_rfl
theorem tab_t34 : tiOf Try.prog 34 = some (TI.mk (TD.slice 3) 1 24 ([Value.slice none 0 0])) := by kernel_rfl
theorem tab_t35 : tiOf Try.prog 35 = some (TI.mk TD.func 1 8 ([Value.nilFunc])) := by kernel_rfl
theorem tab_t36 : tiOf Try.prog 36 = some (TI.mk TD.func 1 8 ([Value.nilFunc])) := by kernel_rfl
theorem tab_t37 : tiOf Try.prog 37 = some (TI.mk TD.func 1 8 ([Value.nilFunc])) := by kernel_rfl
theorem tab_t38 : tiOf Try.prog 38 = some (TI.mk TD.func 1 8 ([Value.nilFunc])) := by kernel_rfl
theorem tab_t39 : tiOf Try.prog 39 = some (TI.mk TD.func 1 8 ([Value.nilFunc])) := by kernel_rfl
theorem tab_t40 : tiOf Try.prog 40 = some (TI.mk TD.func 1 8 ([Value.nilFunc])) := by kernel_rfl
theorem tab_t41 : tiOf Try.prog 41 = some (TI.mk TD.func 1 8 ([Value.nilFunc])) := by kernel_rfl
theorem tab_t42 : tiOf Try.prog 42 = some (TI.mk TD.func 1 8 ([Value.nilFunc])) := by kernel_rfl
theorem tab_t43 : tiOf Try.prog 43 = some (TI.mk TD.func 1 8 ([Value.nilFunc])) := by kernel_rfl
theorem tab_t44 : tiOf Try.prog 44 = some (TI.mk TD.func 1 8 ([Value.nilFunc])) := by kernel_rfl
theorem tab_t45 : tiOf Try.prog 45 = some (TI.mk TD.func 1 8 ([Value.nilFunc])) := by kernel_rfl
theorem tab_t46 : tiOf Try.prog 46 = some (TI.mk TD.func 1 8 ([Value.nilFunc])) := by kernel_rfl
theorem tab_t47 : tiOf Try.prog 47 = some (TI.mk TD.func 1 8 ([Value.nilFunc])) := by kernel_rfl
theorem tab_t48 : tiOf Try.prog 48 = some (TI.mk (TD.int IntKind.u64) 1 8 ([Value.int IntKind.u64 (0)])) := by kernel_rfl
theorem tab_t49 : tiOf Try.prog 49 = some (TI.mk (TD.slice 4) 1 24 ([Value.slice none 0 0])) := by kernel_rfl
theorem tab_t50 : tiOf Try.prog 50 = some (TI.mk TD.func 1 8 ([Value.nilFunc])) := by kernel_rfl
theorem tab_t51 : tiOf Try.prog 51 = some (TI.mk TD.func 1 8 ([Value.nilFunc])) := by kernel_rfl
theorem tab_t52 : tiOf Try.prog 52 = some (TI.mk (TD.slice 22) 1 24 ([Value.slice none 0 0])) := by kernel_rfl
theorem tab_t53 : tiOf Try.prog 53 = some (TI.mk TD.func 1 8 ([Value.nilFunc])) := by kernel_rfl
theorem tab_t54 : tiOf Try.prog 54 = some (TI.mk TD.func 1 8 ([Value.nilFunc])) := by kernel_rfl
theorem tab_t55 : tiOf Try.prog 55 = some (TI.mk TD.func 1 8 ([Value.nilFunc])) := by kernel_rfl
theorem tab_t56 : tiOf Try.prog 56 = some (TI.mk TD.func 1 8 ([Value.nilFunc])) := by kernel_rfl
theorem tab_t57 : tiOf Try.prog 57 = some (TI.mk TD.func 1 8 ([Value.nilFunc])) := by kernel_rfl
theorem tab_t58 : tiOf Try.prog 58 = some (TI.mk TD.func 1 8 ([Value.nilFunc])) := by kernel_rfl
theorem tab_t59 : tiOf Try.prog 59 = some (TI.mk TD.func 1 8 ([Value.nilFunc])) := by kernel_rfl
theorem tab_t60 : tiOf Try.prog 60 = some (TI.mk TD.func 1 8 ([Value.nilFunc])) := by kernel_rfl
theorem tab_t61 : tiOf Try.prog 61 = some (TI.mk TD.func 1 8 ([Value.nilFunc])) := by kernel_rfl
theorem tab_t62 : tiOf Try.prog 62 = some (TI.mk (TD.slice 23) 1 24 ([Value.slice none 0 0])) := by kernel_rfl
theorem tab_t63 : tiOf Try.prog 63 = some (TI.mk TD.func 1 8 ([Value.nilFunc])) := by kernel_rfl
theorem tab_t64 : tiOf Try.prog 64 = some (TI.mk TD.func 1 8 ([Value.nilFunc])) := by kernel_rfl
theorem tab_t65 : tiOf Try.prog 65 = some (TI.mk TD.func 1 8 ([Value.nilFunc])) := by kernel_rfl
theorem tab_t66 : tiOf Try.prog 66 = some (TI.mk TD.func 1 8 ([Value.nilFunc])) := by kernel_rfl
theorem tab_t67 : tiOf Try.prog 67 = some (TI.mk TD.func 1 8 ([Value.nilFunc])) := by kernel_rfl
theorem tab_t68 : tiOf Try.prog 68 = some (TI.mk TD.func 1 8 ([Value.nilFunc])) := by kernel_rfl
theorem tab_t69 : tiOf Try.prog 69 = some (TI.mk TD.func 1 8 ([Value.nilFunc])) := by kernel_rfl
theorem tab_t70 : tiOf Try.prog 70 = some (TI.mk TD.func 1 8 ([Value.nilFunc])) := by kernel_rfl
theorem tab_t71 : tiOf Try.prog 71 = some (TI.mk TD.func 1 8 ([Value.nilFunc])) := by kernel_rfl
theorem tab_t72 : tiOf Try.prog 72 = some (TI.mk (TD.int IntKind.i64) 1 8 ([Value.int IntKind.i64 (0)])) := by kernel_rfl
theorem tab_t74 : tiOf Try.prog 74 = some (TI.mk TD.func 1 8 ([Value.nilFunc])) := by kernel_rfl
theorem tab_t75 : tiOf Try.prog 75 = some (TI.mk TD.func 1 8 ([Value.nilFunc])) := by kernel_rfl
theorem tab_t76 : tiOf Try.prog 76 = some (TI.mk TD.func 1 8 ([Value.nilFunc])) := by kernel_rfl
theorem tab_t78 : tiOf Try.prog 78 = some (TI.mk TD.func 1 8 ([Value.nilFunc])) := by kernel_rfl
theorem tab_t79 : tiOf Try.prog 79 = some (TI.mk TD.func 1 8 ([Value.nilFunc])) := by kernel_rfl
theorem tab_t80 : tiOf Try.prog 80 = some (TI.mk (TD.int IntKind.u32) 1 4 ([Value.int IntKind.u32 (0)])) := by kernel_rfl
theorem tab_t81 : tiOf Try.prog 81 = some (TI.mk TD.func 1 8 ([Value.nilFunc])) := by kernel_rfl
theorem tab_t82 : tiOf Try.prog 82 = some (TI.mk (TD.int IntKind.u64) 1 8 ([Value.int IntKind.u64 (0)])) := by kernel_rfl
theorem tab_t83 : tiOf Try.prog 83 = some (TI.mk TD.func 1 8 ([Value.nilFunc])) := by kernel_rfl
theorem tab_t84 : tiOf Try.prog 84 = some (TI.mk (TD.int IntKind.u64) 1 8 ([Value.int IntKind.u64 (0)])) := by kernel_rfl
theorem tab_t85 : tiOf Try.prog 85 = some (TI.mk TD.func 1 8 ([Value.nilFunc])) := by kernel_rfl
theorem tab_t86 : tiOf Try.prog 86 = some (TI.mk TD.func 1 8 ([Value.nilFunc])) := by kernel_rfl
theorem tab_t87 : tiOf Try.prog 87 = some (TI.mk TD.func 1 8 ([Value.nilFunc])) := by kernel_rfl
theorem tab_t88 : tiOf Try.prog 88 = some (TI.mk (TD.ptr 3) 1 8 ([Value.pointer none])) := by kernel_rfl
theorem tab_t89 : tiOf Try.prog 89 = some (TI.mk TD.func 1 8 ([Value.nilFunc])) := by kernel_rfl
theorem tab_t90 : tiOf Try.prog 90 = some (TI.mk TD.func 1 8 ([Value.nilFunc])) := by kernel_rfl
theorem tab_t91 : tiOf Try.prog 91 = some (TI.mk TD.func 1 8 ([Value.nilFunc])) := by kernel_rfl
theorem tab_t92 : tiOf Try.prog 92 = some (TI.mk TD.func 1 8 ([Value.nilFunc])) := by kernel_rfl
theorem tab_t93 : tiOf Try.prog 93 = some (TI.mk TD.func 1 8 ([Value.nilFunc])) := by kernel_rfl
theorem tab_t94 : tiOf Try.prog 94 = some (TI.mk TD.func 1 8 ([Value.nilFunc])) := by kernel_rfl
theorem tab_t95 : tiOf Try.prog 95 = some (TI.mk TD.func 1 8 ([Value.nilFunc])) := by kernel_rfl
theorem tab_t96 : tiOf Try.prog 96 = some (TI.mk (TD.ptr 84) 1 8 ([Value.pointer none])) := by kernel_rfl
theorem tab_t98 : tiOf Try.prog 98 = some (TI.mk TD.func 1 8 ([Value.nilFunc])) := by kernel_rfl
theorem tab_t99 : tiOf Try.prog 99 = some (TI.mk TD.func 1 8 ([Value.nilFunc])) := by kernel_rfl
theorem tab_t100 : tiOf Try.prog 100 = some (TI.mk TD.func 1 8 ([Value.nilFunc])) := by kernel_rfl
theorem tab_t101 : tiOf Try.prog 101 = some (TI.mk TD.func 1 8 ([Value.nilFunc])) := by kernel_rfl
theorem tab_t102 : tiOf Try.prog 102 = some (TI.mk TD.func 1 8 ([Value.nilFunc])) := by kernel_rfl
theorem tab_t105 : tiOf Try.prog 105 = some (TI.mk (TD.array 0 16) 0 0 ([])) := by kernel_rfl
theorem tab_t108 : tiOf Try.prog 108 = some (TI.mk TD.func 1 8 ([Value.nilFunc])) := by kernel_rfl
theorem tab_t109 : tiOf Try.prog 109 = some (TI.mk (TD.int IntKind.u8) 1 1 ([Value.int IntKind.u8 (0)])) := by kernel_rfl
theorem tab_t110 : tiOf Try.prog 110 = some (TI.mk (TD.int IntKind.u8) 1 1 ([Value.int IntKind.u8 (0)])) := by kernel_rfl
theorem tab_t111 : tiOf Try.prog 111 = some (TI.mk TD.func 1 8 ([Value.nilFunc])) := by kernel_rfl
theorem tab_t112 : tiOf Try.prog 112 = some (TI.mk (TD.ptr 5) 1 8 ([Value.pointer none])) := by kernel_rfl
theorem tab_t113 : tiOf Try.prog 113 = some (TI.mk (TD.int IntKind.i32) 1 4 ([Value.int IntKind.i32 (0)])) := by kernel_rfl
theorem tab_t114 : tiOf Try.prog 114 = some (TI.mk (TD.int IntKind.i32) 1 4 ([Value.int IntKind.i32 (0)])) := by kernel_rfl
theorem tab_t117 : tiOf Try.prog 117 = some (TI.mk TD.other 1 8 ([Value.pointer none])) := by kernel_rfl
theorem tab_all : tabAll Try.prog 0 tabT := by
  refine And.intro tab_t1 ?_
  refine And.intro tab_t2 ?_
  refine And.intro tab_t3 ?_
  refine And.intro tab_t4 ?_
  refine And.intro tab_t5 ?_
  refine And.intro tab_t6 ?_
  refine And.intro tab_t7 ?_
  refine And.intro tab_t8 ?_
  refine And.intro tab_t9 ?_
  refine And.intro tab_t10 ?_
  refine And.intro tab_t11 ?_
  refine And.intro tab_t12 ?_
  refine And.intro tab_t15 ?_
  refine And.intro tab_t16 ?_
  refine And.intro tab_t17 ?_
  refine And.intro tab_t20 ?_
  refine And.intro tab_t21 ?_
  refine And.intro tab_t22 ?_
  refine And.intro tab_t23 ?_
  refine And.intro tab_t24 ?_
  refine And.intro tab_t25 ?_
  refine And.intro tab_t26 ?_
  refine And.intro tab_t27 ?_
  refine And.intro tab_t28 ?_
  refine And.intro tab_t30 ?_
  refine And.intro tab_t31 ?_
  refine And.intro tab_t32 ?_
  refine And.intro tab_t33 ?_
  refine And.intro tab_t34 ?_
  refine And.intro tab_t35 ?_
  refine And.intro tab_t36 ?_
  refine And.intro tab_t37 ?_
  refine And.intro tab_t38 ?_
  refine And.intro tab_t39 ?_
  refine And.intro tab_t40 ?_
  refine And.intro tab_t41 ?_
  refine And.intro tab_t42 ?_
  refine And.intro tab_t43 ?_
  refine And.intro tab_t44 ?_
  refine And.intro tab_t45 ?_
  refine And.intro tab_t46 ?_
  refine And.intro tab_t47 ?_
  refine And.intro tab_t48 ?_
  refine And.intro tab_t49 ?_
  refine And.intro tab_t50 ?_
  refine And.intro tab_t51 ?_
  refine And.intro tab_t52 ?_
  refine And.intro tab_t53 ?_
  refine And.intro tab_t54 ?_
  refine And.intro tab_t55 ?_
  refine And.intro tab_t56 ?_
  refine And.intro tab_t57 ?_
  refine And.intro tab_t58 ?_
  refine And.intro tab_t59 ?_
  refine And.intro tab_t60 ?_
  refine And.intro tab_t61 ?_
  refine And.intro tab_t62 ?_
  refine And.intro tab_t63 ?_
  refine And.intro tab_t64 ?_
  refine And.intro tab_t65 ?_
  refine And.intro tab_t66 ?_
  refine And.intro tab_t67 ?_
  refine And.intro tab_t68 ?_
  refine And.intro tab_t69 ?_
  refine And.intro tab_t70 ?_
  refine And.intro tab_t71 ?_
  refine And.intro tab_t72 ?_
  refine And.intro tab_t74 ?_
  refine And.intro tab_t75 ?_
  refine And.intro tab_t76 ?_
  refine And.intro tab_t78 ?_
  refine And.intro tab_t79 ?_
  refine And.intro tab_t80 ?_
  refine And.intro tab_t81 ?_
  refine And.intro tab_t82 ?_
  refine And.intro tab_t83 ?_
  refine And.intro tab_t84 ?_
  refine And.intro tab_t85 ?_
  refine And.intro tab_t86 ?_
  refine And.intro tab_t87 ?_
  refine And.intro tab_t88 ?_
  refine And.intro tab_t89 ?_
  refine And.intro tab_t90 ?_
  refine And.intro tab_t91 ?_
  refine And.intro tab_t92 ?_
  refine And.intro tab_t93 ?_
  refine And.intro tab_t94 ?_
  refine And.intro tab_t95 ?_
  refine And.intro tab_t96 ?_
  refine And.intro tab_t98 ?_
  refine And.intro tab_t99 ?_
  refine And.intro tab_t100 ?_
  refine And.intro tab_t101 ?_
  refine And.intro tab_t102 ?_
  refine And.intro tab_t105 ?_
  refine And.intro tab_t108 ?_
  refine And.intro tab_t109 ?_
  refine And.intro tab_t110 ?_
  refine And.intro tab_t111 ?_
  refine And.intro tab_t112 ?_
  refine And.intro tab_t113 ?_
  refine And.intro tab_t114 ?_
  refine And.intro tab_t117 ?_
  exact trivial
theorem tab_ok : TabOk Try.prog tabT := fun t ti h => by have := tabAll_ok tabT 0 tab_all t ti h; rwa [Nat.zero_add] at this
theorem fns_all : fnAll Try.prog 0 tabG := by
  refine And.intro ⟨Try.f2, Try.func2, rfl, by kernel_rfl⟩ ?_
  refine And.intro ⟨Try.f3, Try.func3, rfl, by kernel_rfl⟩ ?_
  refine And.intro ⟨Try.f4, Try.func4, rfl, by kernel_rfl⟩ ?_
  refine And.intro ⟨Try.f5, Try.func5, rfl, by kernel_rfl⟩ ?_
  refine And.intro ⟨Try.f6, Try.func6, rfl, by kernel_rfl⟩ ?_
  refine And.intro ⟨Try.f7, Try.func7, rfl, by kernel_rfl⟩ ?_
  refine And.intro ⟨Try.f8, Try.func8, rfl, by kernel_rfl⟩ ?_
  refine And.intro ⟨Try.f9, Try.func9, rfl, by kernel_rfl⟩ ?_
  refine And.intro ⟨Try.f10, Try.func10, rfl, by kernel_rfl⟩ ?_
  refine And.intro ⟨Try.f11, Try.func11, rfl, by kernel_rfl⟩ ?_
  refine And.intro ⟨Try.f12, Try.func12, rfl, by kernel_rfl⟩ ?_
  refine And.intro ⟨Try.f13, Try.func13, rfl, by kernel_rfl⟩ ?_
  refine And.intro ⟨Try.f14, Try.func14, rfl, by kernel_rfl⟩ ?_
  refine And.intro ⟨Try.f15, Try.func15, rfl, by kernel_rfl⟩ ?_
  refine And.intro ⟨Try.f16, Try.func16, rfl, by kernel_rfl⟩ ?_
  refine And.intro ⟨Try.f17, Try.func17, rfl, by kernel_rfl⟩ ?_
  refine And.intro ⟨Try.f18, Try.func18, rfl, by kernel_rfl⟩ ?_
  refine And.intro ⟨Try.f19, Try.func19, rfl, by kernel_rfl⟩ ?_
  refine And.intro ⟨Try.f20, Try.func20, rfl, by kernel_rfl⟩ ?_
  refine And.intro ⟨Try.f21, Try.func21, rfl, by kernel_rfl⟩ ?_
  refine And.intro ⟨Try.f22, Try.func22, rfl, by kernel_rfl⟩ ?_
  refine And.intro ⟨Try.f23, Try.func23, rfl, by kernel_rfl⟩ ?_
  refine And.intro ⟨Try.f24, Try.func24, rfl, by kernel_rfl⟩ ?_
  refine And.intro ⟨Try.f25, Try.func25, rfl, by kernel_rfl⟩ ?_
  refine And.intro ⟨Try.f26, Try.func26, rfl, by kernel_rfl⟩ ?_
  refine And.intro ⟨Try.f27, Try.func27, rfl, by kernel_rfl⟩ ?_
  refine And.intro ⟨Try.f28, Try.func28, rfl, by kernel_rfl⟩ ?_
  refine And.intro ⟨Try.f29, Try.func29, rfl, by kernel_rfl⟩ ?_
  refine And.intro ⟨Try.f30, Try.func30, rfl, by kernel_rfl⟩ ?_
  refine And.intro ⟨Try.f31, Try.func31, rfl, by kernel_rfl⟩ ?_
  refine And.intro ⟨Try.f32, Try.func32, rfl, by kernel_rfl⟩ ?_
  refine And.intro ⟨Try.f33, Try.func33, rfl, by kernel_rfl⟩ ?_
  refine And.intro ⟨Try.f34, Try.func34, rfl, by kernel_rfl⟩ ?_
  refine And.intro ⟨Try.f35, Try.func35, rfl, by kernel_rfl⟩ ?_
  refine And.intro ⟨Try.f36, Try.func36, rfl, by kernel_rfl⟩ ?_
  refine And.intro ⟨Try.f37, Try.func37, rfl, by kernel_rfl⟩ ?_
  refine And.intro ⟨Try.f38, Try.func38, rfl, by kernel_rfl⟩ ?_
  refine And.intro ⟨Try.f39, Try.func39, rfl, by kernel_rfl⟩ ?_
  refine And.intro ⟨Try.f40, Try.func40, rfl, by kernel_rfl⟩ ?_
  refine And.intro ⟨Try.f41, Try.func41, rfl, by kernel_rfl⟩ ?_
  refine And.intro ⟨Try.f42, Try.func42, rfl, by kernel_rfl⟩ ?_
  refine And.intro ⟨Try.f43, Try.func43, rfl, by kernel_rfl⟩ ?_
  refine And.intro ⟨Try.f44, Try.func44, rfl, by kernel_rfl⟩ ?_
  refine And.intro ⟨Try.f45, Try.func45, rfl, by kernel_rfl⟩ ?_
  refine And.intro ⟨Try.f46, Try.func46, rfl, by kernel_rfl⟩ ?_
  refine And.intro ⟨Try.f47, Try.func47, rfl, by kernel_rfl⟩ ?_
  refine And.intro ⟨Try.f48, Try.func48, rfl, by kernel_rfl⟩ ?_
  refine And.intro ⟨Try.f49, Try.func49, rfl, by kernel_rfl⟩ ?_
  refine And.intro ⟨Try.f50, Try.func50, rfl, by kernel_rfl⟩ ?_
  refine And.intro ⟨Try.f51, Try.func51, rfl, by kernel_rfl⟩ ?_
  refine And.intro ⟨Try.f52, Try.func52, rfl, by kernel_rfl⟩ ?_
  refine And.intro ⟨Try.f53, Try.func53, rfl, by kernel_rfl⟩ ?_
  refine And.intro ⟨Try.f54, Try.func54, rfl, by kernel_rfl⟩ ?_
  refine And.intro ⟨Try.f55, Try.func55, rfl, by kernel_rfl⟩ ?_
  refine And.intro ⟨Try.f56, Try.func56, rfl, by kernel_rfl⟩ ?_
  refine And.intro ⟨Try.f57, Try.func57, rfl, by kernel_rfl⟩ ?_
  refine And.intro ⟨Try.f58, Try.func58, rfl, by kernel_rfl⟩ ?_
  refine And.intro ⟨Try.f59, Try.func59, rfl, by kernel_rfl⟩ ?_
  refine And.intro ⟨Try.f60, Try.func60, rfl, by kernel_rfl⟩ ?_
  refine And.intro ⟨Try.f61, Try.func61, rfl, by kernel_rfl⟩ ?_
  refine And.intro ⟨Try.f62, Try.func62, rfl, by kernel_rfl⟩ ?_
  refine And.intro ⟨Try.f63, Try.func63, rfl, by kernel_rfl⟩ ?_
  refine And.intro ⟨Try.f64, Try.func64, rfl, by kernel_rfl⟩ ?_
  refine And.intro ⟨Try.f65, Try.func65, rfl, by kernel_rfl⟩ ?_
  refine And.intro ⟨Try.f66, Try.func66, rfl, by kernel_rfl⟩ ?_
  refine And.intro ⟨Try.f67, Try.func67, rfl, by kernel_rfl⟩ ?_
  refine And.intro ⟨Try.f68, Try.func68, rfl, by kernel_rfl⟩ ?_
  refine And.intro ⟨Try.f69, Try.func69, rfl, by kernel_rfl⟩ ?_
  refine And.intro ⟨Try.f70, Try.func70, rfl, by kernel_rfl⟩ ?_
  refine And.intro ⟨Try.f71, Try.func71, rfl, by kernel_rfl⟩ ?_
  refine And.intro ⟨Try.f72, Try.func72, rfl, by kernel_rfl⟩ ?_
  refine And.intro ⟨Try.f73, Try.func73, rfl, by kernel_rfl⟩ ?_
  refine And.intro ⟨Try.f74, Try.func74, rfl, by kernel_rfl⟩ ?_
  refine And.intro ⟨Try.f75, Try.func75, rfl, by kernel_rfl⟩ ?_
  refine And.intro ⟨Try.f76, Try.func76, rfl, by kernel_rfl⟩ ?_
  refine And.intro ⟨Try.f77, Try.func77, rfl, by kernel_rfl⟩ ?_
  refine And.intro ⟨Try.f78, Try.func78, rfl, by kernel_rfl⟩ ?_
  refine And.intro ⟨Try.f79, Try.func79, rfl, by kernel_rfl⟩ ?_
  refine And.intro ⟨Try.f80, Try.func80, rfl, by kernel_rfl⟩ ?_
  refine And.intro ⟨Try.f81, Try.func81, rfl, by kernel_rfl⟩ ?_
  refine And.intro ⟨Try.f82, Try.func82, rfl, by kernel_rfl⟩ ?_
  refine And.intro ⟨Try.f83, Try.func83, rfl, by kernel_rfl⟩ ?_
  refine And.intro ⟨Try.f84, Try.func84, rfl, by kernel_rfl⟩ ?_
  refine And.intro ⟨Try.f85, Try.func85, rfl, by kernel_rfl⟩ ?_
  refine And.intro ⟨Try.f86, Try.func86, rfl, by kernel_rfl⟩ ?_
  refine And.intro ⟨Try.f87, Try.func87, rfl, by kernel_rfl⟩ ?_
  exact trivial
theorem fns_ok : FnsOk Try.prog tabG := fun f h => by have := fnAll_ok tabG 0 fns_all f h; rwa [Nat.zero_add] at this
theorem held_all : heldAll Try.prog 0 tabT := by
  refine And.intro trivial ?_
  refine And.intro trivial ?_
  refine And.intro trivial ?_
  refine And.intro trivial ?_
  refine And.intro trivial ?_
  refine And.intro trivial ?_
  refine And.intro Try.stoodInHeld7 ?_
  refine And.intro Try.stoodInHeld8 ?_
  refine And.intro trivial ?_
  refine And.intro trivial ?_
  refine And.intro trivial ?_
  refine And.intro trivial ?_
  refine And.intro trivial ?_
  refine And.intro trivial ?_
  refine And.intro trivial ?_
  refine And.intro trivial ?_
  refine And.intro trivial ?_
  refine And.intro trivial ?_
  refine And.intro trivial ?_
  refine And.intro trivial ?_
  refine And.intro trivial ?_
  refine And.intro trivial ?_
  refine And.intro trivial ?_
  refine And.intro trivial ?_
  refine And.intro trivial ?_
  refine And.intro trivial ?_
  refine And.intro trivial ?_
  refine And.intro trivial ?_
  refine And.intro trivial ?_
  refine And.intro trivial ?_
  refine And.intro trivial ?_
  refine And.intro trivial ?_
  refine And.intro trivial ?_
  refine And.intro trivial ?_
  refine And.intro trivial ?_
  refine And.intro trivial ?_
  refine And.intro trivial ?_
  refine And.intro trivial ?_
  refine And.intro trivial ?_
  refine And.intro trivial ?_
  refine And.intro trivial ?_
  refine And.intro trivial ?_
  refine And.intro trivial ?_
  refine And.intro trivial ?_
  refine And.intro trivial ?_
  refine And.intro trivial ?_
  refine And.intro trivial ?_
  refine And.intro trivial ?_
  refine And.intro trivial ?_
  refine And.intro trivial ?_
  refine And.intro trivial ?_
  refine And.intro trivial ?_
  refine And.intro trivial ?_
  refine And.intro trivial ?_
  refine And.intro trivial ?_
  refine And.intro trivial ?_
  refine And.intro trivial ?_
  refine And.intro trivial ?_
  refine And.intro trivial ?_
  refine And.intro trivial ?_
  refine And.intro trivial ?_
  refine And.intro trivial ?_
  refine And.intro trivial ?_
  refine And.intro trivial ?_
  refine And.intro trivial ?_
  refine And.intro trivial ?_
  refine And.intro trivial ?_
  refine And.intro trivial ?_
  refine And.intro trivial ?_
  refine And.intro trivial ?_
  refine And.intro trivial ?_
  refine And.intro trivial ?_
  refine And.intro trivial ?_
  refine And.intro trivial ?_
  refine And.intro trivial ?_
  refine And.intro trivial ?_
  refine And.intro trivial ?_
  refine And.intro trivial ?_
  refine And.intro trivial ?_
  refine And.intro trivial ?_
  refine And.intro trivial ?_
  refine And.intro trivial ?_
  refine And.intro trivial ?_
  refine And.intro trivial ?_
  refine And.intro trivial ?_
  refine And.intro trivial ?_
  refine And.intro trivial ?_
  refine And.intro trivial ?_
  refine And.intro trivial ?_
  refine And.intro trivial ?_
  refine And.intro trivial ?_
  refine And.intro trivial ?_
  refine And.intro trivial ?_
  refine And.intro trivial ?_
  refine And.intro trivial ?_
  refine And.intro trivial ?_
  refine And.intro trivial ?_
  refine And.intro trivial ?_
  refine And.intro trivial ?_
  refine And.intro trivial ?_
  refine And.intro trivial ?_
  refine And.intro trivial ?_
  refine And.intro trivial ?_
  exact trivial

theorem hX : TabsOk Try.prog X := ⟨tab_ok, fns_ok, fun t ti h => (by have := heldAll_ok tabT 0 held_all t ti h; rwa [Nat.zero_add] at this), by kernel_rfl⟩
end Go.Ev
