/- A table of the types and the functions of this seat, and that it is the program's. Conditions: none. Printed by program. -/
import Derived.Test.YtemdkfohlppckaaGreatDoorProg
import Derived.Test.YtemdkfohlppckaaGreatDoorEv
import Derived.KernelRfl
namespace Go.Ev
open Go Go.Proofs

def tabT : List (Option TI) := [
  none,
  some (TI.mk TD.func 1 8 ([Value.nilFunc])),
  some (TI.mk (TD.int IntKind.i64) 1 8 ([Value.int IntKind.i64 (0)])),
  some (TI.mk (TD.int IntKind.i64) 1 8 ([Value.int IntKind.i64 (0)])),
  some (TI.mk TD.bool 1 1 ([Value.bool false])),
  some (TI.mk (TD.int IntKind.u8) 1 1 ([Value.int IntKind.u8 (0)])),
  some (TI.mk (TD.int IntKind.u8) 1 1 ([Value.int IntKind.u8 (0)])),
  some (TI.mk (TD.struct [(0, 2), (1, 3), (2, 4), (3, 6)]) 4 24 ([Value.int IntKind.i64 (0), Value.int IntKind.i64 (0), Value.bool false, Value.int IntKind.u8 (0)])),
  some (TI.mk (TD.struct [(0, 2), (1, 3), (2, 4), (3, 6)]) 4 24 ([Value.int IntKind.i64 (0), Value.int IntKind.i64 (0), Value.bool false, Value.int IntKind.u8 (0)])),
  some (TI.mk TD.str 1 16 ([Value.string (ByteArray.mk (Array.mk []))])),
  some (TI.mk TD.str 1 16 ([Value.string (ByteArray.mk (Array.mk []))])),
  some (TI.mk TD.str 1 16 ([Value.string (ByteArray.mk (Array.mk []))])),
  some (TI.mk (TD.int IntKind.u64) 1 8 ([Value.int IntKind.u64 (0)])),
  none,
  none,
  some (TI.mk (TD.ptr 168) 1 8 ([Value.pointer none])),
  some (TI.mk (TD.ptr 171) 1 8 ([Value.pointer none])),
  some (TI.mk (TD.ptr 178) 1 8 ([Value.pointer none])),
  none,
  none,
  some (TI.mk TD.iface 1 16 ([Value.nilIface])),
  some (TI.mk (TD.int IntKind.i32) 1 4 ([Value.int IntKind.i32 (0)])),
  some (TI.mk (TD.slice 40) 1 24 ([Value.slice none 0 0])),
  some (TI.mk TD.func 1 8 ([Value.nilFunc])),
  some (TI.mk TD.func 1 8 ([Value.nilFunc])),
  some (TI.mk (TD.slice 42) 1 24 ([Value.slice none 0 0])),
  some (TI.mk (TD.int IntKind.i64) 1 8 ([Value.int IntKind.i64 (0)])),
  none,
  some (TI.mk TD.func 1 8 ([Value.nilFunc])),
  none,
  some (TI.mk TD.func 1 8 ([Value.nilFunc])),
  some (TI.mk (TD.int IntKind.u64) 1 8 ([Value.int IntKind.u64 (0)])),
  some (TI.mk (TD.array 4 31) 4 32 ([Value.int IntKind.u64 (0), Value.int IntKind.u64 (0), Value.int IntKind.u64 (0), Value.int IntKind.u64 (0)])),
  some (TI.mk (TD.array 4 31) 4 32 ([Value.int IntKind.u64 (0), Value.int IntKind.u64 (0), Value.int IntKind.u64 (0), Value.int IntKind.u64 (0)])),
  some (TI.mk (TD.slice 36) 1 24 ([Value.slice none 0 0])),
  some (TI.mk (TD.struct [(0, 3), (1, 33), (5, 34), (6, 3), (7, 3), (8, 4)]) 9 88 ([Value.int IntKind.i64 (0), Value.int IntKind.u64 (0), Value.int IntKind.u64 (0), Value.int IntKind.u64 (0), Value.int IntKind.u64 (0), Value.slice none 0 0, Value.int IntKind.i64 (0), Value.int IntKind.i64 (0), Value.bool false])),
  some (TI.mk (TD.struct [(0, 3), (1, 33), (5, 34), (6, 3), (7, 3), (8, 4)]) 9 88 ([Value.int IntKind.i64 (0), Value.int IntKind.u64 (0), Value.int IntKind.u64 (0), Value.int IntKind.u64 (0), Value.int IntKind.u64 (0), Value.slice none 0 0, Value.int IntKind.i64 (0), Value.int IntKind.i64 (0), Value.bool false])),
  none,
  some (TI.mk TD.func 1 8 ([Value.nilFunc])),
  some (TI.mk (TD.struct [(0, 9), (1, 9)]) 2 32 ([Value.string (ByteArray.mk (Array.mk [])), Value.string (ByteArray.mk (Array.mk []))])),
  some (TI.mk (TD.struct [(0, 9), (1, 9)]) 2 32 ([Value.string (ByteArray.mk (Array.mk [])), Value.string (ByteArray.mk (Array.mk []))])),
  some (TI.mk (TD.struct [(0, 9), (1, 36)]) 10 104 ([Value.string (ByteArray.mk (Array.mk [])), Value.int IntKind.i64 (0), Value.int IntKind.u64 (0), Value.int IntKind.u64 (0), Value.int IntKind.u64 (0), Value.int IntKind.u64 (0), Value.slice none 0 0, Value.int IntKind.i64 (0), Value.int IntKind.i64 (0), Value.bool false])),
  some (TI.mk (TD.struct [(0, 9), (1, 36)]) 10 104 ([Value.string (ByteArray.mk (Array.mk [])), Value.int IntKind.i64 (0), Value.int IntKind.u64 (0), Value.int IntKind.u64 (0), Value.int IntKind.u64 (0), Value.int IntKind.u64 (0), Value.slice none 0 0, Value.int IntKind.i64 (0), Value.int IntKind.i64 (0), Value.bool false])),
  some (TI.mk TD.func 1 8 ([Value.nilFunc])),
  some (TI.mk TD.func 1 8 ([Value.nilFunc])),
  some (TI.mk (TD.ptr 49) 1 8 ([Value.pointer none])),
  some (TI.mk (TD.slice 73) 1 24 ([Value.slice none 0 0])),
  some (TI.mk (TD.slice 4) 1 24 ([Value.slice none 0 0])),
  some (TI.mk (TD.struct [(0, 46), (1, 47), (2, 25), (3, 3), (4, 3), (5, 26)]) 6 96 ([Value.slice none 0 0, Value.slice none 0 0, Value.slice none 0 0, Value.int IntKind.i64 (0), Value.int IntKind.i64 (0), Value.int IntKind.i64 (0)])),
  some (TI.mk (TD.struct [(0, 46), (1, 47), (2, 25), (3, 3), (4, 3), (5, 26)]) 6 96 ([Value.slice none 0 0, Value.slice none 0 0, Value.slice none 0 0, Value.int IntKind.i64 (0), Value.int IntKind.i64 (0), Value.int IntKind.i64 (0)])),
  some (TI.mk TD.func 1 8 ([Value.nilFunc])),
  some (TI.mk (TD.slice 1) 1 24 ([Value.slice none 0 0])),
  some (TI.mk TD.func 1 8 ([Value.nilFunc])),
  some (TI.mk (TD.slice 57) 1 24 ([Value.slice none 0 0])),
  none,
  some (TI.mk TD.func 1 8 ([Value.nilFunc])),
  some (TI.mk (TD.struct [(0, 3), (1, 3), (2, 33), (6, 9), (7, 3), (8, 3)]) 9 80 ([Value.int IntKind.i64 (0), Value.int IntKind.i64 (0), Value.int IntKind.u64 (0), Value.int IntKind.u64 (0), Value.int IntKind.u64 (0), Value.int IntKind.u64 (0), Value.string (ByteArray.mk (Array.mk [])), Value.int IntKind.i64 (0), Value.int IntKind.i64 (0)])),
  some (TI.mk (TD.struct [(0, 3), (1, 3), (2, 33), (6, 9), (7, 3), (8, 3)]) 9 80 ([Value.int IntKind.i64 (0), Value.int IntKind.i64 (0), Value.int IntKind.u64 (0), Value.int IntKind.u64 (0), Value.int IntKind.u64 (0), Value.int IntKind.u64 (0), Value.string (ByteArray.mk (Array.mk [])), Value.int IntKind.i64 (0), Value.int IntKind.i64 (0)])),
  some (TI.mk TD.func 1 8 ([Value.nilFunc])),
  some (TI.mk (TD.ptr 61) 1 8 ([Value.pointer none])),
  some (TI.mk (TD.struct [(0, 53), (1, 3), (2, 25), (3, 3), (4, 3), (5, 26)]) 6 80 ([Value.slice none 0 0, Value.int IntKind.i64 (0), Value.slice none 0 0, Value.int IntKind.i64 (0), Value.int IntKind.i64 (0), Value.int IntKind.i64 (0)])),
  some (TI.mk (TD.struct [(0, 53), (1, 3), (2, 25), (3, 3), (4, 3), (5, 26)]) 6 80 ([Value.slice none 0 0, Value.int IntKind.i64 (0), Value.slice none 0 0, Value.int IntKind.i64 (0), Value.int IntKind.i64 (0), Value.int IntKind.i64 (0)])),
  some (TI.mk TD.func 1 8 ([Value.nilFunc])),
  some (TI.mk TD.func 1 8 ([Value.nilFunc])),
  some (TI.mk TD.func 1 8 ([Value.nilFunc])),
  some (TI.mk TD.func 1 8 ([Value.nilFunc])),
  some (TI.mk TD.func 1 8 ([Value.nilFunc])),
  some (TI.mk TD.func 1 8 ([Value.nilFunc])),
  some (TI.mk TD.func 1 8 ([Value.nilFunc])),
  some (TI.mk TD.func 1 8 ([Value.nilFunc])),
  some (TI.mk TD.func 1 8 ([Value.nilFunc])),
  some (TI.mk (TD.slice 3) 1 24 ([Value.slice none 0 0])),
  some (TI.mk (TD.struct [(0, 40), (2, 71)]) 3 56 ([Value.string (ByteArray.mk (Array.mk [])), Value.string (ByteArray.mk (Array.mk [])), Value.slice none 0 0])),
  some (TI.mk (TD.struct [(0, 40), (2, 71)]) 3 56 ([Value.string (ByteArray.mk (Array.mk [])), Value.string (ByteArray.mk (Array.mk [])), Value.slice none 0 0])),
  some (TI.mk TD.func 1 8 ([Value.nilFunc])),
  some (TI.mk TD.func 1 8 ([Value.nilFunc])),
  some (TI.mk TD.func 1 8 ([Value.nilFunc])),
  some (TI.mk TD.func 1 8 ([Value.nilFunc])),
  none,
  some (TI.mk TD.func 1 8 ([Value.nilFunc])),
  some (TI.mk TD.func 1 8 ([Value.nilFunc])),
  some (TI.mk (TD.ptr 83) 1 8 ([Value.pointer none])),
  some (TI.mk (TD.struct [(0, 9), (1, 3)]) 2 24 ([Value.string (ByteArray.mk (Array.mk [])), Value.int IntKind.i64 (0)])),
  some (TI.mk (TD.struct [(0, 9), (1, 3)]) 2 24 ([Value.string (ByteArray.mk (Array.mk [])), Value.int IntKind.i64 (0)])),
  some (TI.mk TD.func 1 8 ([Value.nilFunc])),
  none,
  some (TI.mk TD.func 1 8 ([Value.nilFunc])),
  some (TI.mk TD.func 1 8 ([Value.nilFunc])),
  some (TI.mk TD.func 1 8 ([Value.nilFunc])),
  some (TI.mk TD.func 1 8 ([Value.nilFunc])),
  some (TI.mk TD.func 1 8 ([Value.nilFunc])),
  some (TI.mk TD.func 1 8 ([Value.nilFunc])),
  some (TI.mk TD.func 1 8 ([Value.nilFunc])),
  some (TI.mk TD.func 1 8 ([Value.nilFunc])),
  some (TI.mk TD.func 1 8 ([Value.nilFunc])),
  some (TI.mk TD.func 1 8 ([Value.nilFunc])),
  none,
  some (TI.mk TD.func 1 8 ([Value.nilFunc])),
  some (TI.mk TD.func 1 8 ([Value.nilFunc])),
  some (TI.mk TD.func 1 8 ([Value.nilFunc])),
  none,
  some (TI.mk TD.func 1 8 ([Value.nilFunc])),
  none,
  some (TI.mk TD.func 1 8 ([Value.nilFunc])),
  some (TI.mk TD.func 1 8 ([Value.nilFunc])),
  none,
  some (TI.mk TD.func 1 8 ([Value.nilFunc])),
  some (TI.mk TD.func 1 8 ([Value.nilFunc])),
  some (TI.mk TD.func 1 8 ([Value.nilFunc])),
  some (TI.mk TD.func 1 8 ([Value.nilFunc])),
  some (TI.mk TD.func 1 8 ([Value.nilFunc])),
  some (TI.mk (TD.slice 9) 1 24 ([Value.slice none 0 0])),
  some (TI.mk TD.func 1 8 ([Value.nilFunc])),
  some (TI.mk (TD.int IntKind.u64) 1 8 ([Value.int IntKind.u64 (0)])),
  some (TI.mk (TD.slice 5) 1 24 ([Value.slice none 0 0])),
  some (TI.mk TD.func 1 8 ([Value.nilFunc])),
  some (TI.mk TD.func 1 8 ([Value.nilFunc])),
  none,
  some (TI.mk TD.func 1 8 ([Value.nilFunc])),
  none,
  some (TI.mk TD.func 1 8 ([Value.nilFunc])),
  some (TI.mk TD.func 1 8 ([Value.nilFunc])),
  some (TI.mk TD.func 1 8 ([Value.nilFunc])),
  some (TI.mk TD.func 1 8 ([Value.nilFunc])),
  some (TI.mk TD.func 1 8 ([Value.nilFunc])),
  some (TI.mk TD.func 1 8 ([Value.nilFunc])),
  some (TI.mk TD.iface 1 16 ([Value.nilIface])),
  some (TI.mk TD.iface 1 16 ([Value.nilIface])),
  none,
  some (TI.mk TD.func 1 8 ([Value.nilFunc])),
  some (TI.mk TD.func 1 8 ([Value.nilFunc])),
  some (TI.mk TD.func 1 8 ([Value.nilFunc])),
  some (TI.mk TD.func 1 8 ([Value.nilFunc])),
  some (TI.mk TD.func 1 8 ([Value.nilFunc])),
  some (TI.mk (TD.int IntKind.u32) 1 4 ([Value.int IntKind.u32 (0)])),
  none,
  some (TI.mk TD.func 1 8 ([Value.nilFunc])),
  some (TI.mk (TD.int IntKind.i64) 1 8 ([Value.int IntKind.i64 (0)])),
  none,
  some (TI.mk TD.func 1 8 ([Value.nilFunc])),
  some (TI.mk (TD.ptr 148) 1 8 ([Value.pointer none])),
  some (TI.mk TD.func 1 8 ([Value.nilFunc])),
  some (TI.mk TD.func 1 8 ([Value.nilFunc])),
  some (TI.mk TD.func 1 8 ([Value.nilFunc])),
  none,
  some (TI.mk TD.func 1 8 ([Value.nilFunc])),
  some (TI.mk TD.func 1 8 ([Value.nilFunc])),
  some (TI.mk (TD.struct [(0, 9), (1, 9), (2, 127)]) 3 48 ([Value.string (ByteArray.mk (Array.mk [])), Value.string (ByteArray.mk (Array.mk [])), Value.nilIface])),
  some (TI.mk (TD.struct [(0, 9), (1, 9), (2, 127)]) 3 48 ([Value.string (ByteArray.mk (Array.mk [])), Value.string (ByteArray.mk (Array.mk [])), Value.nilIface])),
  some (TI.mk TD.func 1 8 ([Value.nilFunc])),
  some (TI.mk (TD.array 24 5) 24 24 (List.replicate 24 (Value.int IntKind.u8 (0)))),
  some (TI.mk TD.func 1 8 ([Value.nilFunc])),
  some (TI.mk TD.func 1 8 ([Value.nilFunc])),
  none,
  some (TI.mk TD.func 1 8 ([Value.nilFunc])),
  some (TI.mk TD.func 1 8 ([Value.nilFunc])),
  some (TI.mk (TD.ptr 5) 1 8 ([Value.pointer none])),
  some (TI.mk (TD.ptr 159) 1 8 ([Value.pointer none])),
  some (TI.mk (TD.struct [(0, 9)]) 1 16 ([Value.string (ByteArray.mk (Array.mk []))])),
  some (TI.mk (TD.struct [(0, 9)]) 1 16 ([Value.string (ByteArray.mk (Array.mk []))])),
  some (TI.mk TD.func 1 8 ([Value.nilFunc])),
  some (TI.mk (TD.array 20 31) 20 160 (List.replicate 20 (Value.int IntKind.u64 (0)))),
  some (TI.mk (TD.array 65 5) 65 65 (List.replicate 65 (Value.int IntKind.u8 (0)))),
  some (TI.mk TD.func 1 8 ([Value.nilFunc])),
  some (TI.mk TD.func 1 8 ([Value.nilFunc])),
  some (TI.mk (TD.array 32 5) 32 32 (List.replicate 32 (Value.int IntKind.u8 (0)))),
  some (TI.mk (TD.array 64 5) 64 64 (List.replicate 64 (Value.int IntKind.u8 (0)))),
  none,
  none,
  some (TI.mk (TD.array 0 16) 0 0 ([])),
  none,
  none,
  some (TI.mk (TD.int IntKind.u8) 1 1 ([Value.int IntKind.u8 (0)])),
  some (TI.mk (TD.int IntKind.u8) 1 1 ([Value.int IntKind.u8 (0)])),
  some (TI.mk TD.func 1 8 ([Value.nilFunc])),
  some (TI.mk (TD.int IntKind.i32) 1 4 ([Value.int IntKind.i32 (0)])),
  some (TI.mk (TD.int IntKind.i32) 1 4 ([Value.int IntKind.i32 (0)])),
  none,
  none,
  some (TI.mk TD.other 1 8 ([Value.pointer none]))]

def tabG : List Bool := [false, false, true, true, true, true, true, true, true, true, true, true, true, true, true, true, true, true, true, true, true, true, true, true, true, true, true, true, true, true, true, true, true, true, true, true, true, true, true, true, true, true, true, true, true, true, true, true, true, true, true, true, true, true, true, true, true, true, true, true, true, true, true, true, true, true, true, true, true, true, true, true, true, true, true, true, true, false, true, true, true, true, true, true, true, true, true, true, true, true, true, true, true, true, true, true, true, true, true, false, true, true, true, true, true, true, true, true, true, true, true, true, true, true, true, true, true, true, true, true, true, true, true, true, true, true, true, true, true, true, false, false, false, false, false, false, false, false, false, false, false, false, false, false, false, false, false, false, false, false, false, false, false, false, false, false, false, true]

def X : Tab := ⟨tabT, tabG⟩

theorem tab_t1 : tiOf Tryz.prog 1 = some (TI.mk TD.func 1 8 ([Value.nilFunc])) := by kernel_rfl
theorem tab_t2 : tiOf Tryz.prog 2 = some (TI.mk (TD.int IntKind.i64) 1 8 ([Value.int IntKind.i64 (0)])) := by kernel_rfl
theorem tab_t3 : tiOf Tryz.prog 3 = some (TI.mk (TD.int IntKind.i64) 1 8 ([Value.int IntKind.i64 (0)])) := by kernel_rfl
theorem tab_t4 : tiOf Tryz.prog 4 = some (TI.mk TD.bool 1 1 ([Value.bool false])) := by kernel_rfl
theorem tab_t5 : tiOf Tryz.prog 5 = some (TI.mk (TD.int IntKind.u8) 1 1 ([Value.int IntKind.u8 (0)])) := by kernel_rfl
theorem tab_t6 : tiOf Tryz.prog 6 = some (TI.mk (TD.int IntKind.u8) 1 1 ([Value.int IntKind.u8 (0)])) := by kernel_rfl
theorem tab_t7 : tiOf Tryz.prog 7 = some (TI.mk (TD.struct [(0, 2), (1, 3), (2, 4), (3, 6)]) 4 24 ([Value.int IntKind.i64 (0), Value.int IntKind.i64 (0), Value.bool false, Value.int IntKind.u8 (0)])) := by kernel_rfl
theorem tab_t8 : tiOf Tryz.prog 8 = some (TI.mk (TD.struct [(0, 2), (1, 3), (2, 4), (3, 6)]) 4 24 ([Value.int IntKind.i64 (0), Value.int IntKind.i64 (0), Value.bool false, Value.int IntKind.u8 (0)])) := by kernel_rfl
theorem tab_t9 : tiOf Tryz.prog 9 = some (TI.mk TD.str 1 16 ([Value.string (ByteArray.mk (Array.mk []))])) := by kernel_rfl
theorem tab_t10 : tiOf Tryz.prog 10 = some (TI.mk TD.str 1 16 ([Value.string (ByteArray.mk (Array.mk []))])) := by kernel_rfl
theorem tab_t11 : tiOf Tryz.prog 11 = some (TI.mk TD.str 1 16 ([Value.string (ByteArray.mk (Array.mk []))])) := by kernel_rfl
theorem tab_t12 : tiOf Tryz.prog 12 = some (TI.mk (TD.int IntKind.u64) 1 8 ([Value.int IntKind.u64 (0)])) := by kernel_rfl
theorem tab_t15 : tiOf Tryz.prog 15 = some (TI.mk (TD.ptr 168) 1 8 ([Value.pointer none])) := by kernel_rfl
theorem tab_t16 : tiOf Tryz.prog 16 = some (TI.mk (TD.ptr 171) 1 8 ([Value.pointer none])) := by kernel_rfl
theorem tab_t17 : tiOf Tryz.prog 17 = some (TI.mk (TD.ptr 178) 1 8 ([Value.pointer none])) := by kernel_rfl
theorem tab_t20 : tiOf Tryz.prog 20 = some (TI.mk TD.iface 1 16 ([Value.nilIface])) := by kernel_rfl
theorem tab_t21 : tiOf Tryz.prog 21 = some (TI.mk (TD.int IntKind.i32) 1 4 ([Value.int IntKind.i32 (0)])) := by kernel_rfl
theorem tab_t22 : tiOf Tryz.prog 22 = some (TI.mk (TD.slice 40) 1 24 ([Value.slice none 0 0])) := by kernel_rfl
theorem tab_t23 : tiOf Tryz.prog 23 = some (TI.mk TD.func 1 8 ([Value.nilFunc])) := by kernel_rfl
theorem tab_t24 : tiOf Tryz.prog 24 = some (TI.mk TD.func 1 8 ([Value.nilFunc])) := by kernel_rfl
theorem tab_t25 : tiOf Tryz.prog 25 = some (TI.mk (TD.slice 42) 1 24 ([Value.slice none 0 0])) := by kernel_rfl
theorem tab_t26 : tiOf Tryz.prog 26 = some (TI.mk (TD.int IntKind.i64) 1 8 ([Value.int IntKind.i64 (0)])) := by kernel_rfl
theorem tab_t28 : tiOf Tryz.prog 28 = some (TI.mk TD.func 1 8 ([Value.nilFunc])) := by kernel_rfl
theorem tab_t30 : tiOf Tryz.prog 30 = some (TI.mk TD.func 1 8 ([Value.nilFunc])) := by kernel_rfl
theorem tab_t31 : tiOf Tryz.prog 31 = some (TI.mk (TD.int IntKind.u64) 1 8 ([Value.int IntKind.u64 (0)])) := by kernel_rfl
theorem tab_t32 : tiOf Tryz.prog 32 = some (TI.mk (TD.array 4 31) 4 32 ([Value.int IntKind.u64 (0), Value.int IntKind.u64 (0), Value.int IntKind.u64 (0), Value.int IntKind.u64 (0)])) := by kernel_rfl
theorem tab_t33 : tiOf Tryz.prog 33 = some (TI.mk (TD.array 4 31) 4 32 ([Value.int IntKind.u64 (0), Value.int IntKind.u64 (0), Value.int IntKind.u64 (0), Value.int IntKind.u64 (0)])) := by kernel_rfl
theorem tab_t34 : tiOf Tryz.prog 34 = some (TI.mk (TD.slice 36) 1 24 ([Value.slice none 0 0])) := by kernel_rfl
theorem tab_t35 : tiOf Tryz.prog 35 = some (TI.mk (TD.struct [(0, 3), (1, 33), (5, 34), (6, 3), (7, 3), (8, 4)]) 9 88 ([Value.int IntKind.i64 (0), Value.int IntKind.u64 (0), Value.int IntKind.u64 (0), Value.int IntKind.u64 (0), Value.int IntKind.u64 (0), Value.slice none 0 0, Value.int IntKind.i64 (0), Value.int IntKind.i64 (0), Value.bool false])) := by kernel_rfl
theorem tab_t36 : tiOf Tryz.prog 36 = some (TI.mk (TD.struct [(0, 3), (1, 33), (5, 34), (6, 3), (7, 3), (8, 4)]) 9 88 ([Value.int IntKind.i64 (0), Value.int IntKind.u64 (0), Value.int IntKind.u64 (0), Value.int IntKind.u64 (0), Value.int IntKind.u64 (0), Value.slice none 0 0, Value.int IntKind.i64 (0), Value.int IntKind.i64 (0), Value.bool false])) := by kernel_rfl
theorem tab_t38 : tiOf Tryz.prog 38 = some (TI.mk TD.func 1 8 ([Value.nilFunc])) := by kernel_rfl
theorem tab_t39 : tiOf Tryz.prog 39 = some (TI.mk (TD.struct [(0, 9), (1, 9)]) 2 32 ([Value.string (ByteArray.mk (Array.mk [])), Value.string (ByteArray.mk (Array.mk []))])) := by kernel_rfl
theorem tab_t40 : tiOf Tryz.prog 40 = some (TI.mk (TD.struct [(0, 9), (1, 9)]) 2 32 ([Value.string (ByteArray.mk (Array.mk [])), Value.string (ByteArray.mk (Array.mk []))])) := by kernel_rfl
theorem tab_t41 : tiOf Tryz.prog 41 = some (TI.mk (TD.struct [(0, 9), (1, 36)]) 10 104 ([Value.string (ByteArray.mk (Array.mk [])), Value.int IntKind.i64 (0), Value.int IntKind.u64 (0), Value.int IntKind.u64 (0), Value.int IntKind.u64 (0), Value.int IntKind.u64 (0), Value.slice none 0 0, Value.int IntKind.i64 (0), Value.int IntKind.i64 (0), Value.bool false])) := by kernel_rfl
theorem tab_t42 : tiOf Tryz.prog 42 = some (TI.mk (TD.struct [(0, 9), (1, 36)]) 10 104 ([Value.string (ByteArray.mk (Array.mk [])), Value.int IntKind.i64 (0), Value.int IntKind.u64 (0), Value.int IntKind.u64 (0), Value.int IntKind.u64 (0), Value.int IntKind.u64 (0), Value.slice none 0 0, Value.int IntKind.i64 (0), Value.int IntKind.i64 (0), Value.bool false])) := by kernel_rfl
theorem tab_t43 : tiOf Tryz.prog 43 = some (TI.mk TD.func 1 8 ([Value.nilFunc])) := by kernel_rfl
theorem tab_t44 : tiOf Tryz.prog 44 = some (TI.mk TD.func 1 8 ([Value.nilFunc])) := by kernel_rfl
theorem tab_t45 : tiOf Tryz.prog 45 = some (TI.mk (TD.ptr 49) 1 8 ([Value.pointer none])) := by kernel_rfl
theorem tab_t46 : tiOf Tryz.prog 46 = some (TI.mk (TD.slice 73) 1 24 ([Value.slice none 0 0])) := by kernel_rfl
theorem tab_t47 : tiOf Tryz.prog 47 = some (TI.mk (TD.slice 4) 1 24 ([Value.slice none 0 0])) := by kernel_rfl
theorem tab_t48 : tiOf Tryz.prog 48 = some (TI.mk (TD.struct [(0, 46), (1, 47), (2, 25), (3, 3), (4, 3), (5, 26)]) 6 96 ([Value.slice none 0 0, Value.slice none 0 0, Value.slice none 0 0, Value.int IntKind.i64 (0), Value.int IntKind.i64 (0), Value.int IntKind.i64 (0)])) := by kernel_rfl
theorem tab_t49 : tiOf Tryz.prog 49 = some (TI.mk (TD.struct [(0, 46), (1, 47), (2, 25), (3, 3), (4, 3), (5, 26)]) 6 96 ([Value.slice none 0 0, Value.slice none 0 0, Value.slice none 0 0, Value.int IntKind.i64 (0), Value.int IntKind.i64 (0), Value.int IntKind.i64 (0)])) := by kernel_rfl
theorem tab_t50 : tiOf Tryz.prog 50 = some (TI.mk TD.func 1 8 ([Value.nilFunc])) := by kernel_rfl
theorem tab_t51 : tiOf Tryz.prog 51 = some (TI.mk (TD.slice 1) 1 24 ([Value.slice none 0 0])) := by kernel_rfl
theorem tab_t52 : tiOf Tryz.prog 52 = some (TI.mk TD.func 1 8 ([Value.nilFunc])) := by kernel_rfl
theorem tab_t53 : tiOf Tryz.prog 53 = some (TI.mk (TD.slice 57) 1 24 ([Value.slice none 0 0])) := by kernel_rfl
theorem tab_t55 : tiOf Tryz.prog 55 = some (TI.mk TD.func 1 8 ([Value.nilFunc])) := by kernel_rfl
theorem tab_t56 : tiOf Tryz.prog 56 = some (TI.mk (TD.struct [(0, 3), (1, 3), (2, 33), (6, 9), (7, 3), (8, 3)]) 9 80 ([Value.int IntKind.i64 (0), Value.int IntKind.i64 (0), Value.int IntKind.u64 (0), Value.int IntKind.u64 (0), Value.int IntKind.u64 (0), Value.int IntKind.u64 (0), Value.string (ByteArray.mk (Array.mk [])), Value.int IntKind.i64 (0), Value.int IntKind.i64 (0)])) := by kernel_rfl
theorem tab_t57 : tiOf Tryz.prog 57 = some (TI.mk (TD.struct [(0, 3), (1, 3), (2, 33), (6, 9), (7, 3), (8, 3)]) 9 80 ([Value.int IntKind.i64 (0), Value.int IntKind.i64 (0), Value.int IntKind.u64 (0), Value.int IntKind.u64 (0), Value.int IntKind.u64 (0), Value.int IntKind.u64 (0), Value.string (ByteArray.mk (Array.mk [])), Value.int IntKind.i64 (0), Value.int IntKind.i64 (0)])) := by kernel_rfl
theorem tab_t58 : tiOf Tryz.prog 58 = some (TI.mk TD.func 1 8 ([Value.nilFunc])) := by kernel_rfl
theorem tab_t59 : tiOf Tryz.prog 59 = some (TI.mk (TD.ptr 61) 1 8 ([Value.pointer none])) := by kernel_rfl
theorem tab_t60 : tiOf Tryz.prog 60 = some (TI.mk (TD.struct [(0, 53), (1, 3), (2, 25), (3, 3), (4, 3), (5, 26)]) 6 80 ([Value.slice none 0 0, Value.int IntKind.i64 (0), Value.slice none 0 0, Value.int IntKind.i64 (0), Value.int IntKind.i64 (0), Value.int IntKind.i64 (0)])) := by kernel_rfl
theorem tab_t61 : tiOf Tryz.prog 61 = some (TI.mk (TD.struct [(0, 53), (1, 3), (2, 25), (3, 3), (4, 3), (5, 26)]) 6 80 ([Value.slice none 0 0, Value.int IntKind.i64 (0), Value.slice none 0 0, Value.int IntKind.i64 (0), Value.int IntKind.i64 (0), Value.int IntKind.i64 (0)])) := by kernel_rfl
theorem tab_t62 : tiOf Tryz.prog 62 = some (TI.mk TD.func 1 8 ([Value.nilFunc])) := by kernel_rfl
theorem tab_t63 : tiOf Tryz.prog 63 = some (TI.mk TD.func 1 8 ([Value.nilFunc])) := by kernel_rfl
theorem tab_t64 : tiOf Tryz.prog 64 = some (TI.mk TD.func 1 8 ([Value.nilFunc])) := by kernel_rfl
theorem tab_t65 : tiOf Tryz.prog 65 = some (TI.mk TD.func 1 8 ([Value.nilFunc])) := by kernel_rfl
theorem tab_t66 : tiOf Tryz.prog 66 = some (TI.mk TD.func 1 8 ([Value.nilFunc])) := by kernel_rfl
theorem tab_t67 : tiOf Tryz.prog 67 = some (TI.mk TD.func 1 8 ([Value.nilFunc])) := by kernel_rfl
theorem tab_t68 : tiOf Tryz.prog 68 = some (TI.mk TD.func 1 8 ([Value.nilFunc])) := by kernel_rfl
theorem tab_t69 : tiOf Tryz.prog 69 = some (TI.mk TD.func 1 8 ([Value.nilFunc])) := by kernel_rfl
theorem tab_t70 : tiOf Tryz.prog 70 = some (TI.mk TD.func 1 8 ([Value.nilFunc])) := by kernel_rfl
theorem tab_t71 : tiOf Tryz.prog 71 = some (TI.mk (TD.slice 3) 1 24 ([Value.slice none 0 0])) := by kernel_rfl
theorem tab_t72 : tiOf Tryz.prog 72 = some (TI.mk (TD.struct [(0, 40), (2, 71)]) 3 56 ([Value.string (ByteArray.mk (Array.mk [])), Value.string (ByteArray.mk (Array.mk [])), Value.slice none 0 0])) := by kernel_rfl
theorem tab_t73 : tiOf Tryz.prog 73 = some (TI.mk (TD.struct [(0, 40), (2, 71)]) 3 56 ([Value.string (ByteArray.mk (Array.mk [])), Value.string (ByteArray.mk (Array.mk [])), Value.slice none 0 0])) := by kernel_rfl
theorem tab_t74 : tiOf Tryz.prog 74 = some (TI.mk TD.func 1 8 ([Value.nilFunc])) := by kernel_rfl
theorem tab_t75 : tiOf Tryz.prog 75 = some (TI.mk TD.func 1 8 ([Value.nilFunc])) := by kernel_rfl
theorem tab_t76 : tiOf Tryz.prog 76 = some (TI.mk TD.func 1 8 ([Value.nilFunc])) := by kernel_rfl
theorem tab_t77 : tiOf Tryz.prog 77 = some (TI.mk TD.func 1 8 ([Value.nilFunc])) := by kernel_rfl
theorem tab_t79 : tiOf Tryz.prog 79 = some (TI.mk TD.func 1 8 ([Value.nilFunc])) := by kernel_rfl
theorem tab_t80 : tiOf Tryz.prog 80 = some (TI.mk TD.func 1 8 ([Value.nilFunc])) := by kernel_rfl
theorem tab_t81 : tiOf Tryz.prog 81 = some (TI.mk (TD.ptr 83) 1 8 ([Value.pointer none])) := by kernel_rfl
theorem tab_t82 : tiOf Tryz.prog 82 = some (TI.mk (TD.struct [(0, 9), (1, 3)]) 2 24 ([Value.string (ByteArray.mk (Array.mk [])), Value.int IntKind.i64 (0)])) := by kernel_rfl
theorem tab_t83 : tiOf Tryz.prog 83 = some (TI.mk (TD.struct [(0, 9), (1, 3)]) 2 24 ([Value.string (ByteArray.mk (Array.mk [])), Value.int IntKind.i64 (0)])) := by kernel_rfl
theorem tab_t84 : tiOf Tryz.prog 84 = some (TI.mk TD.func 1 8 ([Value.nilFunc])) := by kernel_rfl
theorem tab_t86 : tiOf Tryz.prog 86 = some (TI.mk TD.func 1 8 ([Value.nilFunc])) := by kernel_rfl
theorem tab_t87 : tiOf Tryz.prog 87 = some (TI.mk TD.func 1 8 ([Value.nilFunc])) := by kernel_rfl
theorem tab_t88 : tiOf Tryz.prog 88 = some (TI.mk TD.func 1 8 ([Value.nilFunc])) := by kernel_rfl
theorem tab_t89 : tiOf Tryz.prog 89 = some (TI.mk TD.func 1 8 ([Value.nilFunc])) := by kernel_rfl
theorem tab_t90 : tiOf Tryz.prog 90 = some (TI.mk TD.func 1 8 ([Value.nilFunc])) := by kernel_rfl
theorem tab_t91 : tiOf Tryz.prog 91 = some (TI.mk TD.func 1 8 ([Value.nilFunc])) := by kernel_rfl
theorem tab_t92 : tiOf Tryz.prog 92 = some (TI.mk TD.func 1 8 ([Value.nilFunc])) := by kernel_rfl
theorem tab_t93 : tiOf Tryz.prog 93 = some (TI.mk TD.func 1 8 ([Value.nilFunc])) := by kernel_rfl
theorem tab_t94 : tiOf Tryz.prog 94 = some (TI.mk TD.func 1 8 ([Value.nilFunc])) := by kernel_rfl
theorem tab_t95 : tiOf Tryz.prog 95 = some (TI.mk TD.func 1 8 ([Value.nilFunc])) := by kernel_rfl
theorem tab_t97 : tiOf Tryz.prog 97 = some (TI.mk TD.func 1 8 ([Value.nilFunc])) := by kernel_rfl
theorem tab_t98 : tiOf Tryz.prog 98 = some (TI.mk TD.func 1 8 ([Value.nilFunc])) := by kernel_rfl
theorem tab_t99 : tiOf Tryz.prog 99 = some (TI.mk TD.func 1 8 ([Value.nilFunc])) := by kernel_rfl
theorem tab_t101 : tiOf Tryz.prog 101 = some (TI.mk TD.func 1 8 ([Value.nilFunc])) := by kernel_rfl
theorem tab_t103 : tiOf Tryz.prog 103 = some (TI.mk TD.func 1 8 ([Value.nilFunc])) := by kernel_rfl
theorem tab_t104 : tiOf Tryz.prog 104 = some (TI.mk TD.func 1 8 ([Value.nilFunc])) := by kernel_rfl
theorem tab_t106 : tiOf Tryz.prog 106 = some (TI.mk TD.func 1 8 ([Value.nilFunc])) := by kernel_rfl
theorem tab_t107 : tiOf Tryz.prog 107 = some (TI.mk TD.func 1 8 ([Value.nilFunc])) := by kernel_rfl
theorem tab_t108 : tiOf Tryz.prog 108 = some (TI.mk TD.func 1 8 ([Value.nilFunc])) := by kernel_rfl
theorem tab_t109 : tiOf Tryz.prog 109 = some (TI.mk TD.func 1 8 ([Value.nilFunc])) := by kernel_rfl
theorem tab_t110 : tiOf Tryz.prog 110 = some (TI.mk TD.func 1 8 ([Value.nilFunc])) := by kernel_rfl
theorem tab_t111 : tiOf Tryz.prog 111 = some (TI.mk (TD.slice 9) 1 24 ([Value.slice none 0 0])) := by kernel_rfl
theorem tab_t112 : tiOf Tryz.prog 112 = some (TI.mk TD.func 1 8 ([Value.nilFunc])) := by kernel_rfl
theorem tab_t113 : tiOf Tryz.prog 113 = some (TI.mk (TD.int IntKind.u64) 1 8 ([Value.int IntKind.u64 (0)])) := by kernel_rfl
theorem tab_t114 : tiOf Tryz.prog 114 = some (TI.mk (TD.slice 5) 1 24 ([Value.slice none 0 0])) := by kernel_rfl
theorem tab_t115 : tiOf Tryz.prog 115 = some (TI.mk TD.func 1 8 ([Value.nilFunc])) := by kernel_rfl
theorem tab_t116 : tiOf Tryz.prog 116 = some (TI.mk TD.func 1 8 ([Value.nilFunc])) := by kernel_rfl
theorem tab_t118 : tiOf Tryz.prog 118 = some (TI.mk TD.func 1 8 ([Value.nilFunc])) := by kernel_rfl
theorem tab_t120 : tiOf Tryz.prog 120 = some (TI.mk TD.func 1 8 ([Value.nilFunc])) := by kernel_rfl
theorem tab_t121 : tiOf Tryz.prog 121 = some (TI.mk TD.func 1 8 ([Value.nilFunc])) := by kernel_rfl
theorem tab_t122 : tiOf Tryz.prog 122 = some (TI.mk TD.func 1 8 ([Value.nilFunc])) := by kernel_rfl
theorem tab_t123 : tiOf Tryz.prog 123 = some (TI.mk TD.func 1 8 ([Value.nilFunc])) := by kernel_rfl
theorem tab_t124 : tiOf Tryz.prog 124 = some (TI.mk TD.func 1 8 ([Value.nilFunc])) := by kernel_rfl
theorem tab_t125 : tiOf Tryz.prog 125 = some (TI.mk TD.func 1 8 ([Value.nilFunc])) := by kernel_rfl
theorem tab_t126 : tiOf Tryz.prog 126 = some (TI.mk TD.iface 1 16 ([Value.nilIface])) := by kernel_rfl
theorem tab_t127 : tiOf Tryz.prog 127 = some (TI.mk TD.iface 1 16 ([Value.nilIface])) := by kernel_rfl
theorem tab_t129 : tiOf Tryz.prog 129 = some (TI.mk TD.func 1 8 ([Value.nilFunc])) := by kernel_rfl
theorem tab_t130 : tiOf Tryz.prog 130 = some (TI.mk TD.func 1 8 ([Value.nilFunc])) := by kernel_rfl
theorem tab_t131 : tiOf Tryz.prog 131 = some (TI.mk TD.func 1 8 ([Value.nilFunc])) := by kernel_rfl
theorem tab_t132 : tiOf Tryz.prog 132 = some (TI.mk TD.func 1 8 ([Value.nilFunc])) := by kernel_rfl
theorem tab_t133 : tiOf Tryz.prog 133 = some (TI.mk TD.func 1 8 ([Value.nilFunc])) := by kernel_rfl
theorem tab_t134 : tiOf Tryz.prog 134 = some (TI.mk (TD.int IntKind.u32) 1 4 ([Value.int IntKind.u32 (0)])) := by kernel_rfl
theorem tab_t136 : tiOf Tryz.prog 136 = some (TI.mk TD.func 1 8 ([Value.nilFunc])) := by kernel_rfl
theorem tab_t137 : tiOf Tryz.prog 137 = some (TI.mk (TD.int IntKind.i64) 1 8 ([Value.int IntKind.i64 (0)])) := by kernel_rfl
theorem tab_t139 : tiOf Tryz.prog 139 = some (TI.mk TD.func 1 8 ([Value.nilFunc])) := by kernel_rfl
theorem tab_t140 : tiOf Tryz.prog 140 = some (TI.mk (TD.ptr 148) 1 8 ([Value.pointer none])) := by kernel_rfl
theorem tab_t141 : tiOf Tryz.prog 141 = some (TI.mk TD.func 1 8 ([Value.nilFunc])) := by kernel_rfl
theorem tab_t142 : tiOf Tryz.prog 142 = some (TI.mk TD.func 1 8 ([Value.nilFunc])) := by kernel_rfl
theorem tab_t143 : tiOf Tryz.prog 143 = some (TI.mk TD.func 1 8 ([Value.nilFunc])) := by kernel_rfl
theorem tab_t145 : tiOf Tryz.prog 145 = some (TI.mk TD.func 1 8 ([Value.nilFunc])) := by kernel_rfl
theorem tab_t146 : tiOf Tryz.prog 146 = some (TI.mk TD.func 1 8 ([Value.nilFunc])) := by kernel_rfl
theorem tab_t147 : tiOf Tryz.prog 147 = some (TI.mk (TD.struct [(0, 9), (1, 9), (2, 127)]) 3 48 ([Value.string (ByteArray.mk (Array.mk [])), Value.string (ByteArray.mk (Array.mk [])), Value.nilIface])) := by kernel_rfl
theorem tab_t148 : tiOf Tryz.prog 148 = some (TI.mk (TD.struct [(0, 9), (1, 9), (2, 127)]) 3 48 ([Value.string (ByteArray.mk (Array.mk [])), Value.string (ByteArray.mk (Array.mk [])), Value.nilIface])) := by kernel_rfl
theorem tab_t149 : tiOf Tryz.prog 149 = some (TI.mk TD.func 1 8 ([Value.nilFunc])) := by kernel_rfl
theorem tab_t150 : tiOf Tryz.prog 150 = some (TI.mk (TD.array 24 5) 24 24 (List.replicate 24 (Value.int IntKind.u8 (0)))) := by kernel_rfl
theorem tab_t151 : tiOf Tryz.prog 151 = some (TI.mk TD.func 1 8 ([Value.nilFunc])) := by kernel_rfl
theorem tab_t152 : tiOf Tryz.prog 152 = some (TI.mk TD.func 1 8 ([Value.nilFunc])) := by kernel_rfl
theorem tab_t154 : tiOf Tryz.prog 154 = some (TI.mk TD.func 1 8 ([Value.nilFunc])) := by kernel_rfl
theorem tab_t155 : tiOf Tryz.prog 155 = some (TI.mk TD.func 1 8 ([Value.nilFunc])) := by kernel_rfl
theorem tab_t156 : tiOf Tryz.prog 156 = some (TI.mk (TD.ptr 5) 1 8 ([Value.pointer none])) := by kernel_rfl
theorem tab_t157 : tiOf Tryz.prog 157 = some (TI.mk (TD.ptr 159) 1 8 ([Value.pointer none])) := by kernel_rfl
theorem tab_t158 : tiOf Tryz.prog 158 = some (TI.mk (TD.struct [(0, 9)]) 1 16 ([Value.string (ByteArray.mk (Array.mk []))])) := by kernel_rfl
theorem tab_t159 : tiOf Tryz.prog 159 = some (TI.mk (TD.struct [(0, 9)]) 1 16 ([Value.string (ByteArray.mk (Array.mk []))])) := by kernel_rfl
theorem tab_t160 : tiOf Tryz.prog 160 = some (TI.mk TD.func 1 8 ([Value.nilFunc])) := by kernel_rfl
theorem tab_t161 : tiOf Tryz.prog 161 = some (TI.mk (TD.array 20 31) 20 160 (List.replicate 20 (Value.int IntKind.u64 (0)))) := by kernel_rfl
theorem tab_t162 : tiOf Tryz.prog 162 = some (TI.mk (TD.array 65 5) 65 65 (List.replicate 65 (Value.int IntKind.u8 (0)))) := by kernel_rfl
theorem tab_t163 : tiOf Tryz.prog 163 = some (TI.mk TD.func 1 8 ([Value.nilFunc])) := by kernel_rfl
theorem tab_t164 : tiOf Tryz.prog 164 = some (TI.mk TD.func 1 8 ([Value.nilFunc])) := by kernel_rfl
theorem tab_t165 : tiOf Tryz.prog 165 = some (TI.mk (TD.array 32 5) 32 32 (List.replicate 32 (Value.int IntKind.u8 (0)))) := by kernel_rfl
theorem tab_t166 : tiOf Tryz.prog 166 = some (TI.mk (TD.array 64 5) 64 64 (List.replicate 64 (Value.int IntKind.u8 (0)))) := by kernel_rfl
theorem tab_t169 : tiOf Tryz.prog 169 = some (TI.mk (TD.array 0 16) 0 0 ([])) := by kernel_rfl
theorem tab_t172 : tiOf Tryz.prog 172 = some (TI.mk (TD.int IntKind.u8) 1 1 ([Value.int IntKind.u8 (0)])) := by kernel_rfl
theorem tab_t173 : tiOf Tryz.prog 173 = some (TI.mk (TD.int IntKind.u8) 1 1 ([Value.int IntKind.u8 (0)])) := by kernel_rfl
theorem tab_t174 : tiOf Tryz.prog 174 = some (TI.mk TD.func 1 8 ([Value.nilFunc])) := by kernel_rfl
theorem tab_t175 : tiOf Tryz.prog 175 = some (TI.mk (TD.int IntKind.i32) 1 4 ([Value.int IntKind.i32 (0)])) := by kernel_rfl
theorem tab_t176 : tiOf Tryz.prog 176 = some (TI.mk (TD.int IntKind.i32) 1 4 ([Value.int IntKind.i32 (0)])) := by kernel_rfl
theorem tab_t179 : tiOf Tryz.prog 179 = some (TI.mk TD.other 1 8 ([Value.pointer none])) := by kernel_rfl
theorem tab_all : tabAll Tryz.prog 0 tabT := by
  refine And.intro tab_t1 ?_
  refine And.intro tab_t2 ?_
  refine And.intro tab_t3 ?_
  refine And.intro tab_t4 ?_
  refine And.intro tab_t5 ?_
  refine And.intro tab_t6 ?_
  refine And.intro tab_t7 ?_
  refine And.intro tab_t8 ?_
  refine And.intro tab_t9 ?_
  refine And.intro tab_t10 ?_
  refine And.intro tab_t11 ?_
  refine And.intro tab_t12 ?_
  refine And.intro tab_t15 ?_
  refine And.intro tab_t16 ?_
  refine And.intro tab_t17 ?_
  refine And.intro tab_t20 ?_
  refine And.intro tab_t21 ?_
  refine And.intro tab_t22 ?_
  refine And.intro tab_t23 ?_
  refine And.intro tab_t24 ?_
  refine And.intro tab_t25 ?_
  refine And.intro tab_t26 ?_
  refine And.intro tab_t28 ?_
  refine And.intro tab_t30 ?_
  refine And.intro tab_t31 ?_
  refine And.intro tab_t32 ?_
  refine And.intro tab_t33 ?_
  refine And.intro tab_t34 ?_
  refine And.intro tab_t35 ?_
  refine And.intro tab_t36 ?_
  refine And.intro tab_t38 ?_
  refine And.intro tab_t39 ?_
  refine And.intro tab_t40 ?_
  refine And.intro tab_t41 ?_
  refine And.intro tab_t42 ?_
  refine And.intro tab_t43 ?_
  refine And.intro tab_t44 ?_
  refine And.intro tab_t45 ?_
  refine And.intro tab_t46 ?_
  refine And.intro tab_t47 ?_
  refine And.intro tab_t48 ?_
  refine And.intro tab_t49 ?_
  refine And.intro tab_t50 ?_
  refine And.intro tab_t51 ?_
  refine And.intro tab_t52 ?_
  refine And.intro tab_t53 ?_
  refine And.intro tab_t55 ?_
  refine And.intro tab_t56 ?_
  refine And.intro tab_t57 ?_
  refine And.intro tab_t58 ?_
  refine And.intro tab_t59 ?_
  refine And.intro tab_t60 ?_
  refine And.intro tab_t61 ?_
  refine And.intro tab_t62 ?_
  refine And.intro tab_t63 ?_
  refine And.intro tab_t64 ?_
  refine And.intro tab_t65 ?_
  refine And.intro tab_t66 ?_
  refine And.intro tab_t67 ?_
  refine And.intro tab_t68 ?_
  refine And.intro tab_t69 ?_
  refine And.intro tab_t70 ?_
  refine And.intro tab_t71 ?_
  refine And.intro tab_t72 ?_
  refine And.intro tab_t73 ?_
  refine And.intro tab_t74 ?_
  refine And.intro tab_t75 ?_
  refine And.intro tab_t76 ?_
  refine And.intro tab_t77 ?_
  refine And.intro tab_t79 ?_
  refine And.intro tab_t80 ?_
  refine And.intro tab_t81 ?_
  refine And.intro tab_t82 ?_
  refine And.intro tab_t83 ?_
  refine And.intro tab_t84 ?_
  refine And.intro tab_t86 ?_
  refine And.intro tab_t87 ?_
  refine And.intro tab_t88 ?_
  refine And.intro tab_t89 ?_
  refine And.intro tab_t90 ?_
  refine And.intro tab_t91 ?_
  refine And.intro tab_t92 ?_
  refine And.intro tab_t93 ?_
  refine And.intro tab_t94 ?_
  refine And.intro tab_t95 ?_
  refine And.intro tab_t97 ?_
  refine And.intro tab_t98 ?_
  refine And.intro tab_t99 ?_
  refine And.intro tab_t101 ?_
  refine And.intro tab_t103 ?_
  refine And.intro tab_t104 ?_
  refine And.intro tab_t106 ?_
  refine And.intro tab_t107 ?_
  refine And.intro tab_t108 ?_
  refine And.intro tab_t109 ?_
  refine And.intro tab_t110 ?_
  refine And.intro tab_t111 ?_
  refine And.intro tab_t112 ?_
  refine And.intro tab_t113 ?_
  refine And.intro tab_t114 ?_
  refine And.intro tab_t115 ?_
  refine And.intro tab_t116 ?_
  refine And.intro tab_t118 ?_
  refine And.intro tab_t120 ?_
  refine And.intro tab_t121 ?_
  refine And.intro tab_t122 ?_
  refine And.intro tab_t123 ?_
  refine And.intro tab_t124 ?_
  refine And.intro tab_t125 ?_
  refine And.intro tab_t126 ?_
  refine And.intro tab_t127 ?_
  refine And.intro tab_t129 ?_
  refine And.intro tab_t130 ?_
  refine And.intro tab_t131 ?_
  refine And.intro tab_t132 ?_
  refine And.intro tab_t133 ?_
  refine And.intro tab_t134 ?_
  refine And.intro tab_t136 ?_
  refine And.intro tab_t137 ?_
  refine And.intro tab_t139 ?_
  refine And.intro tab_t140 ?_
  refine And.intro tab_t141 ?_
  refine And.intro tab_t142 ?_
  refine And.intro tab_t143 ?_
  refine And.intro tab_t145 ?_
  refine And.intro tab_t146 ?_
  refine And.intro tab_t147 ?_
  refine And.intro tab_t148 ?_
  refine And.intro tab_t149 ?_
  refine And.intro tab_t150 ?_
  refine And.intro tab_t151 ?_
  refine And.intro tab_t152 ?_
  refine And.intro tab_t154 ?_
  refine And.intro tab_t155 ?_
  refine And.intro tab_t156 ?_
  refine And.intro tab_t157 ?_
  refine And.intro tab_t158 ?_
  refine And.intro tab_t159 ?_
  refine And.intro tab_t160 ?_
  refine And.intro tab_t161 ?_
  refine And.intro tab_t162 ?_
  refine And.intro tab_t163 ?_
  refine And.intro tab_t164 ?_
  refine And.intro tab_t165 ?_
  refine And.intro tab_t166 ?_
  refine And.intro tab_t169 ?_
  refine And.intro tab_t172 ?_
  refine And.intro tab_t173 ?_
  refine And.intro tab_t174 ?_
  refine And.intro tab_t175 ?_
  refine And.intro tab_t176 ?_
  refine And.intro tab_t179 ?_
  exact trivial
theorem tab_ok : TabOk Tryz.prog tabT := fun t ti h => by have := tabAll_ok tabT 0 tab_all t ti h; rwa [Nat.zero_add] at this
theorem fns_all : fnAll Tryz.prog 0 tabG := by
  refine And.intro ⟨Tryz.f2, Tryz.func2, rfl, by kernel_rfl⟩ ?_
  refine And.intro ⟨Tryz.f3, Tryz.func3, rfl, by kernel_rfl⟩ ?_
  refine And.intro ⟨Tryz.f4, Tryz.func4, rfl, by kernel_rfl⟩ ?_
  refine And.intro ⟨Tryz.f5, Tryz.func5, rfl, by kernel_rfl⟩ ?_
  refine And.intro ⟨Tryz.f6, Tryz.func6, rfl, by kernel_rfl⟩ ?_
  refine And.intro ⟨Tryz.f7, Tryz.func7, rfl, by kernel_rfl⟩ ?_
  refine And.intro ⟨Tryz.f8, Tryz.func8, rfl, by kernel_rfl⟩ ?_
  refine And.intro ⟨Tryz.f9, Tryz.func9, rfl, by kernel_rfl⟩ ?_
  refine And.intro ⟨Tryz.f10, Tryz.func10, rfl, by kernel_rfl⟩ ?_
  refine And.intro ⟨Tryz.f11, Tryz.func11, rfl, by kernel_rfl⟩ ?_
  refine And.intro ⟨Tryz.f12, Tryz.func12, rfl, by kernel_rfl⟩ ?_
  refine And.intro ⟨Tryz.f13, Tryz.func13, rfl, by kernel_rfl⟩ ?_
  refine And.intro ⟨Tryz.f14, Tryz.func14, rfl, by kernel_rfl⟩ ?_
  refine And.intro ⟨Tryz.f15, Tryz.func15, rfl, by kernel_rfl⟩ ?_
  refine And.intro ⟨Tryz.f16, Tryz.func16, rfl, by kernel_rfl⟩ ?_
  refine And.intro ⟨Tryz.f17, Tryz.func17, rfl, by kernel_rfl⟩ ?_
  refine And.intro ⟨Tryz.f18, Tryz.func18, rfl, by kernel_rfl⟩ ?_
  refine And.intro ⟨Tryz.f19, Tryz.func19, rfl, by kernel_rfl⟩ ?_
  refine And.intro ⟨Tryz.f20, Tryz.func20, rfl, by kernel_rfl⟩ ?_
  refine And.intro ⟨Tryz.f21, Tryz.func21, rfl, by kernel_rfl⟩ ?_
  refine And.intro ⟨Tryz.f22, Tryz.func22, rfl, by kernel_rfl⟩ ?_
  refine And.intro ⟨Tryz.f23, Tryz.func23, rfl, by kernel_rfl⟩ ?_
  refine And.intro ⟨Tryz.f24, Tryz.func24, rfl, by kernel_rfl⟩ ?_
  refine And.intro ⟨Tryz.f25, Tryz.func25, rfl, by kernel_rfl⟩ ?_
  refine And.intro ⟨Tryz.f26, Tryz.func26, rfl, by kernel_rfl⟩ ?_
  refine And.intro ⟨Tryz.f27, Tryz.func27, rfl, by kernel_rfl⟩ ?_
  refine And.intro ⟨Tryz.f28, Tryz.func28, rfl, by kernel_rfl⟩ ?_
  refine And.intro ⟨Tryz.f29, Tryz.func29, rfl, by kernel_rfl⟩ ?_
  refine And.intro ⟨Tryz.f30, Tryz.func30, rfl, by kernel_rfl⟩ ?_
  refine And.intro ⟨Tryz.f31, Tryz.func31, rfl, by kernel_rfl⟩ ?_
  refine And.intro ⟨Tryz.f32, Tryz.func32, rfl, by kernel_rfl⟩ ?_
  refine And.intro ⟨Tryz.f33, Tryz.func33, rfl, by kernel_rfl⟩ ?_
  refine And.intro ⟨Tryz.f34, Tryz.func34, rfl, by kernel_rfl⟩ ?_
  refine And.intro ⟨Tryz.f35, Tryz.func35, rfl, by kernel_rfl⟩ ?_
  refine And.intro ⟨Tryz.f36, Tryz.func36, rfl, by kernel_rfl⟩ ?_
  refine And.intro ⟨Tryz.f37, Tryz.func37, rfl, by kernel_rfl⟩ ?_
  refine And.intro ⟨Tryz.f38, Tryz.func38, rfl, by kernel_rfl⟩ ?_
  refine And.intro ⟨Tryz.f39, Tryz.func39, rfl, by kernel_rfl⟩ ?_
  refine And.intro ⟨Tryz.f40, Tryz.func40, rfl, by kernel_rfl⟩ ?_
  refine And.intro ⟨Tryz.f41, Tryz.func41, rfl, by kernel_rfl⟩ ?_
  refine And.intro ⟨Tryz.f42, Tryz.func42, rfl, by kernel_rfl⟩ ?_
  refine And.intro ⟨Tryz.f43, Tryz.func43, rfl, by kernel_rfl⟩ ?_
  refine And.intro ⟨Tryz.f44, Tryz.func44, rfl, by kernel_rfl⟩ ?_
  refine And.intro ⟨Tryz.f45, Tryz.func45, rfl, by kernel_rfl⟩ ?_
  refine And.intro ⟨Tryz.f46, Tryz.func46, rfl, by kernel_rfl⟩ ?_
  refine And.intro ⟨Tryz.f47, Tryz.func47, rfl, by kernel_rfl⟩ ?_
  refine And.intro ⟨Tryz.f48, Tryz.func48, rfl, by kernel_rfl⟩ ?_
  refine And.intro ⟨Tryz.f49, Tryz.func49, rfl, by kernel_rfl⟩ ?_
  refine And.intro ⟨Tryz.f50, Tryz.func50, rfl, by kernel_rfl⟩ ?_
  refine And.intro ⟨Tryz.f51, Tryz.func51, rfl, by kernel_rfl⟩ ?_
  refine And.intro ⟨Tryz.f52, Tryz.func52, rfl, by kernel_rfl⟩ ?_
  refine And.intro ⟨Tryz.f53, Tryz.func53, rfl, by kernel_rfl⟩ ?_
  refine And.intro ⟨Tryz.f54, Tryz.func54, rfl, by kernel_rfl⟩ ?_
  refine And.intro ⟨Tryz.f55, Tryz.func55, rfl, by kernel_rfl⟩ ?_
  refine And.intro ⟨Tryz.f56, Tryz.func56, rfl, by kernel_rfl⟩ ?_
  refine And.intro ⟨Tryz.f57, Tryz.func57, rfl, by kernel_rfl⟩ ?_
  refine And.intro ⟨Tryz.f58, Tryz.func58, rfl, by kernel_rfl⟩ ?_
  refine And.intro ⟨Tryz.f59, Tryz.func59, rfl, by kernel_rfl⟩ ?_
  refine And.intro ⟨Tryz.f60, Tryz.func60, rfl, by kernel_rfl⟩ ?_
  refine And.intro ⟨Tryz.f61, Tryz.func61, rfl, by kernel_rfl⟩ ?_
  refine And.intro ⟨Tryz.f62, Tryz.func62, rfl, by kernel_rfl⟩ ?_
  refine And.intro ⟨Tryz.f63, Tryz.func63, rfl, by kernel_rfl⟩ ?_
  refine And.intro ⟨Tryz.f64, Tryz.func64, rfl, by kernel_rfl⟩ ?_
  refine And.intro ⟨Tryz.f65, Tryz.func65, rfl, by kernel_rfl⟩ ?_
  refine And.intro ⟨Tryz.f66, Tryz.func66, rfl, by kernel_rfl⟩ ?_
  refine And.intro ⟨Tryz.f67, Tryz.func67, rfl, by kernel_rfl⟩ ?_
  refine And.intro ⟨Tryz.f68, Tryz.func68, rfl, by kernel_rfl⟩ ?_
  refine And.intro ⟨Tryz.f69, Tryz.func69, rfl, by kernel_rfl⟩ ?_
  refine And.intro ⟨Tryz.f70, Tryz.func70, rfl, by kernel_rfl⟩ ?_
  refine And.intro ⟨Tryz.f71, Tryz.func71, rfl, by kernel_rfl⟩ ?_
  refine And.intro ⟨Tryz.f72, Tryz.func72, rfl, by kernel_rfl⟩ ?_
  refine And.intro ⟨Tryz.f73, Tryz.func73, rfl, by kernel_rfl⟩ ?_
  refine And.intro ⟨Tryz.f74, Tryz.func74, rfl, by kernel_rfl⟩ ?_
  refine And.intro ⟨Tryz.f75, Tryz.func75, rfl, by kernel_rfl⟩ ?_
  refine And.intro ⟨Tryz.f76, Tryz.func76, rfl, by kernel_rfl⟩ ?_
  refine And.intro ⟨Tryz.f78, Tryz.func78, rfl, by kernel_rfl⟩ ?_
  refine And.intro ⟨Tryz.f79, Tryz.func79, rfl, by kernel_rfl⟩ ?_
  refine And.intro ⟨Tryz.f80, Tryz.func80, rfl, by kernel_rfl⟩ ?_
  refine And.intro ⟨Tryz.f81, Tryz.func81, rfl, by kernel_rfl⟩ ?_
  refine And.intro ⟨Tryz.f82, Tryz.func82, rfl, by kernel_rfl⟩ ?_
  refine And.intro ⟨Tryz.f83, Tryz.func83, rfl, by kernel_rfl⟩ ?_
  refine And.intro ⟨Tryz.f84, Tryz.func84, rfl, by kernel_rfl⟩ ?_
  refine And.intro ⟨Tryz.f85, Tryz.func85, rfl, by kernel_rfl⟩ ?_
  refine And.intro ⟨Tryz.f86, Tryz.func86, rfl, by kernel_rfl⟩ ?_
  refine And.intro ⟨Tryz.f87, Tryz.func87, rfl, by kernel_rfl⟩ ?_
  refine And.intro ⟨Tryz.f88, Tryz.func88, rfl, by kernel_rfl⟩ ?_
  refine And.intro ⟨Tryz.f89, Tryz.func89, rfl, by kernel_rfl⟩ ?_
  refine And.intro ⟨Tryz.f90, Tryz.func90, rfl, by kernel_rfl⟩ ?_
  refine And.intro ⟨Tryz.f91, Tryz.func91, rfl, by kernel_rfl⟩ ?_
  refine And.intro ⟨Tryz.f92, Tryz.func92, rfl, by kernel_rfl⟩ ?_
  refine And.intro ⟨Tryz.f93, Tryz.func93, rfl, by kernel_rfl⟩ ?_
  refine And.intro ⟨Tryz.f94, Tryz.func94, rfl, by kernel_rfl⟩ ?_
  refine And.intro ⟨Tryz.f95, Tryz.func95, rfl, by kernel_rfl⟩ ?_
  refine And.intro ⟨Tryz.f96, Tryz.func96, rfl, by kernel_rfl⟩ ?_
  refine And.intro ⟨Tryz.f97, Tryz.func97, rfl, by kernel_rfl⟩ ?_
  refine And.intro ⟨Tryz.f98, Tryz.func98, rfl, by kernel_rfl⟩ ?_
  refine And.intro ⟨Tryz.f100, Tryz.func100, rfl, by kernel_rfl⟩ ?_
  refine And.intro ⟨Tryz.f101, Tryz.func101, rfl, by kernel_rfl⟩ ?_
  refine And.intro ⟨Tryz.f102, Tryz.func102, rfl, by kernel_rfl⟩ ?_
  refine And.intro ⟨Tryz.f103, Tryz.func103, rfl, by kernel_rfl⟩ ?_
  refine And.intro ⟨Tryz.f104, Tryz.func104, rfl, by kernel_rfl⟩ ?_
  refine And.intro ⟨Tryz.f105, Tryz.func105, rfl, by kernel_rfl⟩ ?_
  refine And.intro ⟨Tryz.f106, Tryz.func106, rfl, by kernel_rfl⟩ ?_
  refine And.intro ⟨Tryz.f107, Tryz.func107, rfl, by kernel_rfl⟩ ?_
  refine And.intro ⟨Tryz.f108, Tryz.func108, rfl, by kernel_rfl⟩ ?_
  refine And.intro ⟨Tryz.f109, Tryz.func109, rfl, by kernel_rfl⟩ ?_
  refine And.intro ⟨Tryz.f110, Tryz.func110, rfl, by kernel_rfl⟩ ?_
  refine And.intro ⟨Tryz.f111, Tryz.func111, rfl, by kernel_rfl⟩ ?_
  refine And.intro ⟨Tryz.f112, Tryz.func112, rfl, by kernel_rfl⟩ ?_
  refine And.intro ⟨Tryz.f113, Tryz.func113, rfl, by kernel_rfl⟩ ?_
  refine And.intro ⟨Tryz.f114, Tryz.func114, rfl, by kernel_rfl⟩ ?_
  refine And.intro ⟨Tryz.f115, Tryz.func115, rfl, by kernel_rfl⟩ ?_
  refine And.intro ⟨Tryz.f116, Tryz.func116, rfl, by kernel_rfl⟩ ?_
  refine And.intro ⟨Tryz.f117, Tryz.func117, rfl, by kernel_rfl⟩ ?_
  refine And.intro ⟨Tryz.f118, Tryz.func118, rfl, by kernel_rfl⟩ ?_
  refine And.intro ⟨Tryz.f119, Tryz.func119, rfl, by kernel_rfl⟩ ?_
  refine And.intro ⟨Tryz.f120, Tryz.func120, rfl, by kernel_rfl⟩ ?_
  refine And.intro ⟨Tryz.f121, Tryz.func121, rfl, by kernel_rfl⟩ ?_
  refine And.intro ⟨Tryz.f122, Tryz.func122, rfl, by kernel_rfl⟩ ?_
  refine And.intro ⟨Tryz.f123, Tryz.func123, rfl, by kernel_rfl⟩ ?_
  refine And.intro ⟨Tryz.f124, Tryz.func124, rfl, by kernel_rfl⟩ ?_
  refine And.intro ⟨Tryz.f125, Tryz.func125, rfl, by kernel_rfl⟩ ?_
  refine And.intro ⟨Tryz.f126, Tryz.func126, rfl, by kernel_rfl⟩ ?_
  refine And.intro ⟨Tryz.f127, Tryz.func127, rfl, by kernel_rfl⟩ ?_
  refine And.intro ⟨Tryz.f128, Tryz.func128, rfl, by kernel_rfl⟩ ?_
  refine And.intro ⟨Tryz.f129, Tryz.func129, rfl, by kernel_rfl⟩ ?_
  refine And.intro ⟨Tryz.f157, Tryz.func157, rfl, by kernel_rfl⟩ ?_
  exact trivial
theorem fns_ok : FnsOk Tryz.prog tabG := fun f h => by have := fnAll_ok tabG 0 fns_all f h; rwa [Nat.zero_add] at this
theorem held_all : heldAll Tryz.prog 0 tabT := by
  refine And.intro trivial ?_
  refine And.intro trivial ?_
  refine And.intro trivial ?_
  refine And.intro trivial ?_
  refine And.intro trivial ?_
  refine And.intro trivial ?_
  refine And.intro Tryz.stoodInHeld7 ?_
  refine And.intro Tryz.stoodInHeld8 ?_
  refine And.intro trivial ?_
  refine And.intro trivial ?_
  refine And.intro trivial ?_
  refine And.intro trivial ?_
  refine And.intro trivial ?_
  refine And.intro trivial ?_
  refine And.intro trivial ?_
  refine And.intro trivial ?_
  refine And.intro trivial ?_
  refine And.intro trivial ?_
  refine And.intro trivial ?_
  refine And.intro trivial ?_
  refine And.intro trivial ?_
  refine And.intro trivial ?_
  refine And.intro trivial ?_
  refine And.intro trivial ?_
  refine And.intro trivial ?_
  refine And.intro trivial ?_
  refine And.intro trivial ?_
  refine And.intro trivial ?_
  refine And.intro Tryz.stoodInHeld35 ?_
  refine And.intro Tryz.stoodInHeld36 ?_
  refine And.intro trivial ?_
  refine And.intro Tryz.stoodInHeld39 ?_
  refine And.intro Tryz.stoodInHeld40 ?_
  refine And.intro Tryz.stoodInHeld41 ?_
  refine And.intro Tryz.stoodInHeld42 ?_
  refine And.intro trivial ?_
  refine And.intro trivial ?_
  refine And.intro trivial ?_
  refine And.intro trivial ?_
  refine And.intro trivial ?_
  refine And.intro Tryz.stoodInHeld48 ?_
  refine And.intro Tryz.stoodInHeld49 ?_
  refine And.intro trivial ?_
  refine And.intro trivial ?_
  refine And.intro trivial ?_
  refine And.intro trivial ?_
  refine And.intro trivial ?_
  refine And.intro Tryz.stoodInHeld56 ?_
  refine And.intro Tryz.stoodInHeld57 ?_
  refine And.intro trivial ?_
  refine And.intro trivial ?_
  refine And.intro Tryz.stoodInHeld60 ?_
  refine And.intro Tryz.stoodInHeld61 ?_
  refine And.intro trivial ?_
  refine And.intro trivial ?_
  refine And.intro trivial ?_
  refine And.intro trivial ?_
  refine And.intro trivial ?_
  refine And.intro trivial ?_
  refine And.intro trivial ?_
  refine And.intro trivial ?_
  refine And.intro trivial ?_
  refine And.intro trivial ?_
  refine And.intro Tryz.stoodInHeld72 ?_
  refine And.intro Tryz.stoodInHeld73 ?_
  refine And.intro trivial ?_
  refine And.intro trivial ?_
  refine And.intro trivial ?_
  refine And.intro trivial ?_
  refine And.intro trivial ?_
  refine And.intro trivial ?_
  refine And.intro trivial ?_
  refine And.intro Tryz.stoodInHeld82 ?_
  refine And.intro Tryz.stoodInHeld83 ?_
  refine And.intro trivial ?_
  refine And.intro trivial ?_
  refine And.intro trivial ?_
  refine And.intro trivial ?_
  refine And.intro trivial ?_
  refine And.intro trivial ?_
  refine And.intro trivial ?_
  refine And.intro trivial ?_
  refine And.intro trivial ?_
  refine And.intro trivial ?_
  refine And.intro trivial ?_
  refine And.intro trivial ?_
  refine And.intro trivial ?_
  refine And.intro trivial ?_
  refine And.intro trivial ?_
  refine And.intro trivial ?_
  refine And.intro trivial ?_
  refine And.intro trivial ?_
  refine And.intro trivial ?_
  refine And.intro trivial ?_
  refine And.intro trivial ?_
  refine And.intro trivial ?_
  refine And.intro trivial ?_
  refine And.intro trivial ?_
  refine And.intro trivial ?_
  refine And.intro trivial ?_
  refine And.intro trivial ?_
  refine And.intro trivial ?_
  refine And.intro trivial ?_
  refine And.intro trivial ?_
  refine And.intro trivial ?_
  refine And.intro trivial ?_
  refine And.intro trivial ?_
  refine And.intro trivial ?_
  refine And.intro trivial ?_
  refine And.intro trivial ?_
  refine And.intro trivial ?_
  refine And.intro trivial ?_
  refine And.intro trivial ?_
  refine And.intro trivial ?_
  refine And.intro trivial ?_
  refine And.intro trivial ?_
  refine And.intro trivial ?_
  refine And.intro trivial ?_
  refine And.intro trivial ?_
  refine And.intro trivial ?_
  refine And.intro trivial ?_
  refine And.intro trivial ?_
  refine And.intro trivial ?_
  refine And.intro trivial ?_
  refine And.intro trivial ?_
  refine And.intro trivial ?_
  refine And.intro Tryz.stoodInHeld147 ?_
  refine And.intro Tryz.stoodInHeld148 ?_
  refine And.intro trivial ?_
  refine And.intro trivial ?_
  refine And.intro trivial ?_
  refine And.intro trivial ?_
  refine And.intro trivial ?_
  refine And.intro trivial ?_
  refine And.intro trivial ?_
  refine And.intro trivial ?_
  refine And.intro Tryz.stoodInHeld158 ?_
  refine And.intro Tryz.stoodInHeld159 ?_
  refine And.intro trivial ?_
  refine And.intro trivial ?_
  refine And.intro trivial ?_
  refine And.intro trivial ?_
  refine And.intro trivial ?_
  refine And.intro trivial ?_
  refine And.intro trivial ?_
  refine And.intro trivial ?_
  refine And.intro trivial ?_
  refine And.intro trivial ?_
  refine And.intro trivial ?_
  refine And.intro trivial ?_
  refine And.intro trivial ?_
  refine And.intro trivial ?_
  exact trivial

theorem hX : TabsOk Tryz.prog X := ⟨tab_ok, fns_ok, fun t ti h => (by have := heldAll_ok tabT 0 held_all t ti h; rwa [Nat.zero_add] at this), by kernel_rfl⟩
end Go.Ev
