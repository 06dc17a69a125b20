/- LazyNil, proved: a nil machine has nothing. Conditions: none beyond the row its own.: part 2 of 12 of the proof. Conditions: none. -/
import Derived.Test.YtaooenndoopgdaaGreatDoorM1
import Derived.Test.YtaooenndoopgdaaGreatDoorProg
import Derived.KernelRfl
import Derived.Shelf.Small.Bits
import Derived.Shelf.Strconv.Itoa0
import Derived.Shelf.Strconv.Itoa1
import Derived.Shelf.LaysM
import Derived.Shelf.Strconv.Itoa2
import Derived.Shelf.Strconv.Itoa3
import Derived.Shelf.Sort.Plain
import Derived.Shelf.Bits.Mul64
import Derived.Ground.Names2Prog
import Derived.Shelf.Slices.CompactI
import Derived.Shelf.Slices.Cells
import Derived.Shelf.Slices.In.SortNone
import Derived.Ground.SlsfProg
import Derived.Shelf.SlSortCmp.Insertion
import Derived.Shelf.SlSortCmp.SiftDown1
import Derived.Shelf.SlSortCmp.HeapSort1
import Derived.Shelf.SlSortCmp.Insertion1
import Derived.Shelf.SlSortCmp.Median1
import Derived.Shelf.SlSortCmp.Pivot1
import Derived.Shelf.SlSortCmp.ReverseRange1
import Derived.Shelf.SlSortCmp.PartialInsertion1
import Derived.Shelf.SlSortCmp.PartitionEqual1
import Derived.Shelf.SlSortCmp.Partition1
import Derived.Shelf.SlSortCmp.Pdq1
import Derived.Shelf.SlSortCmp.NoneTotal
namespace Go.Ev
open Go Go.Proofs
def tabT : List (Option TI) := [
  none,
  some (.mk .func 1 8 ([.nilFunc])),
  some (.mk (.int .i64) 1 8 ([.int .i64 0])),
  some (.mk (.int .i64) 1 8 ([.int .i64 0])),
  some (.mk .bool 1 1 ([.bool false])),
  some (.mk (.int .u8) 1 1 ([.int .u8 0])),
  some (.mk (.int .u8) 1 1 ([.int .u8 0])),
  some (.mk (.struct [(0, 2), (1, 3), (2, 4), (3, 6)]) 4 24 ([.int .i64 0, .int .i64 0, .bool false, .int .u8 0])),
  some (.mk (.struct [(0, 2), (1, 3), (2, 4), (3, 6)]) 4 24 ([.int .i64 0, .int .i64 0, .bool false, .int .u8 0])),
  some (.mk .str 1 16 ([.string (ByteArray.mk (Array.mk []))])),
  some (.mk .str 1 16 ([.string (ByteArray.mk (Array.mk []))])),
  some (.mk .str 1 16 ([.string (ByteArray.mk (Array.mk []))])),
  some (.mk (.int .u64) 1 8 ([.int .u64 0])),
  some (.mk (.struct [(0, 9), (1, 12)]) 2 24 ([.string (ByteArray.mk (Array.mk [])), .int .u64 0])),
  some (.mk (.struct [(0, 9), (1, 12)]) 2 24 ([.string (ByteArray.mk (Array.mk [])), .int .u64 0])),
  some (.mk (.ptr 311) 1 8 ([.pointer none])),
  some (.mk (.ptr 314) 1 8 ([.pointer none])),
  some (.mk (.ptr 321) 1 8 ([.pointer none])),
  some (.mk (.struct [(0, 17)]) 1 8 ([.pointer none])),
  some (.mk (.struct [(0, 17)]) 1 8 ([.pointer none])),
  some (.mk .iface 1 16 ([.nilIface])),
  some (.mk (.int .i32) 1 4 ([.int .i32 0])),
  some (.mk (.slice 9) 1 24 ([.slice none 0 0])),
  some (.mk (.slice 55) 1 24 ([.slice none 0 0])),
  some (.mk (.struct [(0, 22), (1, 23)]) 2 48 ([.slice none 0 0, .slice none 0 0])),
  some (.mk (.struct [(0, 22), (1, 23)]) 2 48 ([.slice none 0 0, .slice none 0 0])),
  some (.mk (.slice 5) 1 24 ([.slice none 0 0])),
  some (.mk .func 1 8 ([.nilFunc])),
  some (.mk .func 1 8 ([.nilFunc])),
  some (.mk (.ptr 81) 1 8 ([.pointer none])),
  some (.mk (.int .i64) 1 8 ([.int .i64 0])),
  none,
  some (.mk .func 1 8 ([.nilFunc])),
  some (.mk .func 1 8 ([.nilFunc])),
  some (.mk .func 1 8 ([.nilFunc])),
  none,
  some (.mk .func 1 8 ([.nilFunc])),
  some (.mk .func 1 8 ([.nilFunc])),
  some (.mk .func 1 8 ([.nilFunc])),
  some (.mk .func 1 8 ([.nilFunc])),
  some (.mk .func 1 8 ([.nilFunc])),
  some (.mk .func 1 8 ([.nilFunc])),
  some (.mk (.slice 52) 1 24 ([.slice none 0 0])),
  some (.mk (.struct [(0, 42)]) 1 24 ([.slice none 0 0])),
  some (.mk (.struct [(0, 42)]) 1 24 ([.slice none 0 0])),
  some (.mk .func 1 8 ([.nilFunc])),
  some (.mk .func 1 8 ([.nilFunc])),
  some (.mk .func 1 8 ([.nilFunc])),
  some (.mk (.int .u64) 1 8 ([.int .u64 0])),
  some (.mk (.array 4 48) 4 32 ([.int .u64 0, .int .u64 0, .int .u64 0, .int .u64 0])),
  some (.mk (.array 4 48) 4 32 ([.int .u64 0, .int .u64 0, .int .u64 0, .int .u64 0])),
  some (.mk (.struct [(0, 3), (1, 50), (5, 42), (6, 3), (7, 3), (8, 4)]) 9 88 ([.int .i64 0, .int .u64 0, .int .u64 0, .int .u64 0, .int .u64 0, .slice none 0 0, .int .i64 0, .int .i64 0, .bool false])),
  some (.mk (.struct [(0, 3), (1, 50), (5, 42), (6, 3), (7, 3), (8, 4)]) 9 88 ([.int .i64 0, .int .u64 0, .int .u64 0, .int .u64 0, .int .u64 0, .slice none 0 0, .int .i64 0, .int .i64 0, .bool false])),
  some (.mk (.slice 3) 1 24 ([.slice none 0 0])),
  some (.mk (.struct [(0, 53), (1, 52), (10, 3), (11, 3)]) 12 128 ([.slice none 0 0, .int .i64 0, .int .u64 0, .int .u64 0, .int .u64 0, .int .u64 0, .slice none 0 0, .int .i64 0, .int .i64 0, .bool false, .int .i64 0, .int .i64 0])),
  some (.mk (.struct [(0, 53), (1, 52), (10, 3), (11, 3)]) 12 128 ([.slice none 0 0, .int .i64 0, .int .u64 0, .int .u64 0, .int .u64 0, .int .u64 0, .slice none 0 0, .int .i64 0, .int .i64 0, .bool false, .int .i64 0, .int .i64 0])),
  some (.mk .func 1 8 ([.nilFunc])),
  some (.mk (.ptr 100) 1 8 ([.pointer none])),
  none,
  some (.mk .func 1 8 ([.nilFunc])),
  some (.mk (.map 9 3) 1 8 ([.map none])),
  some (.mk (.map 3 53) 1 8 ([.map none])),
  some (.mk (.slice 84) 1 24 ([.slice none 0 0])),
  some (.mk (.struct []) 0 0 ([])),
  some (.mk (.struct []) 0 0 ([])),
  some (.mk (.struct []) 0 0 ([])),
  some (.mk (.int .u32) 1 4 ([.int .u32 0])),
  some (.mk (.struct [(0, 65), (0, 66)]) 1 4 ([.int .u32 0])),
  some (.mk (.struct [(0, 65), (0, 66)]) 1 4 ([.int .u32 0])),
  some (.mk (.struct [(0, 21), (1, 66)]) 2 8 ([.int .i32 0, .int .u32 0])),
  some (.mk (.struct [(0, 21), (1, 66)]) 2 8 ([.int .i32 0, .int .u32 0])),
  some (.mk (.struct [(0, 64), (0, 70)]) 2 8 ([.int .i32 0, .int .u32 0])),
  some (.mk (.struct [(0, 64), (0, 70)]) 2 8 ([.int .i32 0, .int .u32 0])),
  some (.mk (.struct [(0, 64), (0, 68), (1, 72)]) 3 12 ([.int .u32 0, .int .i32 0, .int .u32 0])),
  some (.mk (.struct [(0, 64), (0, 68), (1, 72)]) 3 12 ([.int .u32 0, .int .i32 0, .int .u32 0])),
  some (.mk (.struct [(0, 74), (3, 26)]) 4 40 ([.int .u32 0, .int .i32 0, .int .u32 0, .slice none 0 0])),
  some (.mk (.struct [(0, 74), (3, 26)]) 4 40 ([.int .u32 0, .int .i32 0, .int .u32 0, .slice none 0 0])),
  some (.mk (.struct []) 0 0 ([])),
  some (.mk (.struct [(0, 65), (0, 77), (0, 2)]) 1 8 ([.int .i64 0])),
  some (.mk (.struct [(0, 65), (0, 77), (0, 2)]) 1 8 ([.int .i64 0])),
  some (.mk (.struct [(0, 57), (1, 3), (2, 60), (3, 62), (4, 53), (5, 61), (6, 76), (10, 79), (11, 79)]) 12 136 ([.pointer none, .int .i64 0, .map none, .slice none 0 0, .slice none 0 0, .map none, .int .u32 0, .int .i32 0, .int .u32 0, .slice none 0 0, .int .i64 0, .int .i64 0])),
  some (.mk (.struct [(0, 57), (1, 3), (2, 60), (3, 62), (4, 53), (5, 61), (6, 76), (10, 79), (11, 79)]) 12 136 ([.pointer none, .int .i64 0, .map none, .slice none 0 0, .slice none 0 0, .map none, .int .u32 0, .int .i32 0, .int .u32 0, .slice none 0 0, .int .i64 0, .int .i64 0])),
  some (.mk .func 1 8 ([.nilFunc])),
  some (.mk (.slice 88) 1 24 ([.slice none 0 0])),
  some (.mk (.slice 88) 1 24 ([.slice none 0 0])),
  some (.mk .func 1 8 ([.nilFunc])),
  some (.mk .func 1 8 ([.nilFunc])),
  some (.mk (.slice 53) 1 24 ([.slice none 0 0])),
  some (.mk (.slice 53) 1 24 ([.slice none 0 0])),
  some (.mk .func 1 8 ([.nilFunc])),
  some (.mk .func 1 8 ([.nilFunc])),
  some (.mk .func 1 8 ([.nilFunc])),
  none,
  some (.mk .func 1 8 ([.nilFunc])),
  some (.mk .func 1 8 ([.nilFunc])),
  some (.mk (.ptr 142) 1 8 ([.pointer none])),
  some (.mk (.array 256 5) 256 256 (List.replicate 256 (.int .u8 0))),
  some (.mk (.struct [(0, 96), (256, 3)]) 257 264 (List.replicate 256 (.int .u8 0) ++ [.int .i64 0])),
  some (.mk (.struct [(0, 96), (256, 3)]) 257 264 (List.replicate 256 (.int .u8 0) ++ [.int .i64 0])),
  some (.mk (.struct [(0, 95), (1, 44), (2, 98), (259, 84), (260, 25)]) 262 368 ([.pointer none, .slice none 0 0] ++ List.replicate 256 (.int .u8 0) ++ [.int .i64 0, .slice none 0 0, .slice none 0 0, .slice none 0 0])),
  some (.mk (.struct [(0, 95), (1, 44), (2, 98), (259, 84), (260, 25)]) 262 368 ([.pointer none, .slice none 0 0] ++ List.replicate 256 (.int .u8 0) ++ [.int .i64 0, .slice none 0 0, .slice none 0 0, .slice none 0 0])),
  some (.mk .func 1 8 ([.nilFunc])),
  some (.mk .func 1 8 ([.nilFunc])),
  some (.mk .func 1 8 ([.nilFunc])),
  some (.mk .func 1 8 ([.nilFunc])),
  some (.mk .func 1 8 ([.nilFunc])),
  some (.mk .func 1 8 ([.nilFunc])),
  some (.mk .func 1 8 ([.nilFunc])),
  some (.mk .func 1 8 ([.nilFunc])),
  none,
  some (.mk .func 1 8 ([.nilFunc])),
  some (.mk .func 1 8 ([.nilFunc])),
  some (.mk .func 1 8 ([.nilFunc])),
  some (.mk (.slice 50) 1 24 ([.slice none 0 0])),
  some (.mk .func 1 8 ([.nilFunc])),
  none,
  some (.mk .func 1 8 ([.nilFunc])),
  some (.mk .func 1 8 ([.nilFunc])),
  some (.mk .func 1 8 ([.nilFunc])),
  some (.mk .func 1 8 ([.nilFunc])),
  none,
  some (.mk .func 1 8 ([.nilFunc])),
  some (.mk .func 1 8 ([.nilFunc])),
  none,
  some (.mk .func 1 8 ([.nilFunc])),
  some (.mk .func 1 8 ([.nilFunc])),
  some (.mk (.ptr 76) 1 8 ([.pointer none])),
  some (.mk .func 1 8 ([.nilFunc])),
  some (.mk (.ptr 79) 1 8 ([.pointer none])),
  some (.mk .func 1 8 ([.nilFunc])),
  some (.mk (.ptr 2) 1 8 ([.pointer none])),
  some (.mk .func 1 8 ([.nilFunc])),
  some (.mk .func 1 8 ([.nilFunc])),
  some (.mk .func 1 8 ([.nilFunc])),
  some (.mk .func 1 8 ([.nilFunc])),
  some (.mk .func 1 8 ([.nilFunc])),
  some (.mk .func 1 8 ([.nilFunc])),
  some (.mk .func 1 8 ([.nilFunc])),
  some (.mk .func 1 8 ([.nilFunc])),
  some (.mk (.map 146 3) 1 8 ([.map none])),
  some (.mk (.slice 146) 1 24 ([.slice none 0 0])),
  some (.mk (.struct [(0, 140), (1, 139)]) 2 32 ([.slice none 0 0, .map none])),
  some (.mk (.struct [(0, 140), (1, 139)]) 2 32 ([.slice none 0 0, .map none])),
  some (.mk .func 1 8 ([.nilFunc])),
  some (.mk .func 1 8 ([.nilFunc])),
  some (.mk (.struct [(0, 3), (1, 50), (5, 3), (6, 3), (7, 4)]) 8 64 ([.int .i64 0, .int .u64 0, .int .u64 0, .int .u64 0, .int .u64 0, .int .i64 0, .int .i64 0, .bool false])),
  some (.mk (.struct [(0, 3), (1, 50), (5, 3), (6, 3), (7, 4)]) 8 64 ([.int .i64 0, .int .u64 0, .int .u64 0, .int .u64 0, .int .u64 0, .int .i64 0, .int .i64 0, .bool false])),
  none,
  some (.mk .func 1 8 ([.nilFunc])),
  some (.mk (.ptr 182) 1 8 ([.pointer none])),
  some (.mk .func 1 8 ([.nilFunc])),
  some (.mk .func 1 8 ([.nilFunc])),
  some (.mk .func 1 8 ([.nilFunc])),
  some (.mk (.slice 4) 1 24 ([.slice none 0 0])),
  some (.mk .func 1 8 ([.nilFunc])),
  some (.mk .func 1 8 ([.nilFunc])),
  some (.mk .func 1 8 ([.nilFunc])),
  some (.mk .func 1 8 ([.nilFunc])),
  some (.mk .func 1 8 ([.nilFunc])),
  some (.mk .func 1 8 ([.nilFunc])),
  some (.mk (.int .u64) 1 8 ([.int .u64 0])),
  none,
  some (.mk .func 1 8 ([.nilFunc])),
  some (.mk .func 1 8 ([.nilFunc])),
  some (.mk .func 1 8 ([.nilFunc])),
  some (.mk (.ptr 74) 1 8 ([.pointer none])),
  none,
  some (.mk .func 1 8 ([.nilFunc])),
  some (.mk .func 1 8 ([.nilFunc])),
  some (.mk .func 1 8 ([.nilFunc])),
  some (.mk .func 1 8 ([.nilFunc])),
  some (.mk .func 1 8 ([.nilFunc])),
  some (.mk .func 1 8 ([.nilFunc])),
  some (.mk .func 1 8 ([.nilFunc])),
  some (.mk (.ptr 44) 1 8 ([.pointer none])),
  some (.mk .func 1 8 ([.nilFunc])),
  some (.mk (.ptr 178) 1 8 ([.pointer none])),
  some (.mk (.struct [(0, 95), (1, 144), (2, 30)]) 3 24 ([.pointer none, .nilFunc, .int .i64 0])),
  some (.mk (.struct [(0, 95), (1, 144), (2, 30)]) 3 24 ([.pointer none, .nilFunc, .int .i64 0])),
  some (.mk .func 1 8 ([.nilFunc])),
  some (.mk (.map 3 88) 1 8 ([.map none])),
  some (.mk (.struct [(0, 95), (1, 5), (2, 5), (3, 30), (4, 180), (5, 180)]) 6 40 ([.pointer none, .int .u8 0, .int .u8 0, .int .i64 0, .map none, .map none])),
  some (.mk (.struct [(0, 95), (1, 5), (2, 5), (3, 30), (4, 180), (5, 180)]) 6 40 ([.pointer none, .int .u8 0, .int .u8 0, .int .i64 0, .map none, .map none])),
  some (.mk .func 1 8 ([.nilFunc])),
  none,
  some (.mk .func 1 8 ([.nilFunc])),
  some (.mk .func 1 8 ([.nilFunc])),
  some (.mk (.map 190 5) 1 8 ([.map none])),
  some (.mk .func 1 8 ([.nilFunc])),
  some (.mk (.struct [(0, 5), (1, 4)]) 2 2 ([.int .u8 0, .bool false])),
  some (.mk (.struct [(0, 5), (1, 4)]) 2 2 ([.int .u8 0, .bool false])),
  some (.mk (.ptr 193) 1 8 ([.pointer none])),
  some (.mk (.struct [(0, 191), (1, 26)]) 2 32 ([.pointer none, .slice none 0 0])),
  some (.mk (.struct [(0, 191), (1, 26)]) 2 32 ([.pointer none, .slice none 0 0])),
  some (.mk .iface 1 16 ([.nilIface])),
  some (.mk .iface 1 16 ([.nilIface])),
  none,
  some (.mk .func 1 8 ([.nilFunc])),
  some (.mk .func 1 8 ([.nilFunc])),
  some (.mk .func 1 8 ([.nilFunc])),
  some (.mk .func 1 8 ([.nilFunc])),
  none,
  some (.mk .func 1 8 ([.nilFunc])),
  none,
  some (.mk .func 1 8 ([.nilFunc])),
  some (.mk .func 1 8 ([.nilFunc])),
  some (.mk .func 1 8 ([.nilFunc])),
  some (.mk .func 1 8 ([.nilFunc])),
  some (.mk (.ptr 68) 1 8 ([.pointer none])),
  some (.mk .func 1 8 ([.nilFunc])),
  some (.mk (.ptr 66) 1 8 ([.pointer none])),
  some (.mk .func 1 8 ([.nilFunc])),
  some (.mk .func 1 8 ([.nilFunc])),
  some (.mk .func 1 8 ([.nilFunc])),
  some (.mk .func 1 8 ([.nilFunc])),
  some (.mk .func 1 8 ([.nilFunc])),
  some (.mk .func 1 8 ([.nilFunc])),
  some (.mk .func 1 8 ([.nilFunc])),
  some (.mk .func 1 8 ([.nilFunc])),
  some (.mk .func 1 8 ([.nilFunc])),
  some (.mk (.map 3 4) 1 8 ([.map none])),
  some (.mk (.struct [(0, 95), (1, 5), (2, 220)]) 3 24 ([.pointer none, .int .u8 0, .map none])),
  some (.mk (.struct [(0, 95), (1, 5), (2, 220)]) 3 24 ([.pointer none, .int .u8 0, .map none])),
  some (.mk .func 1 8 ([.nilFunc])),
  some (.mk .func 1 8 ([.nilFunc])),
  some (.mk .func 1 8 ([.nilFunc])),
  some (.mk .func 1 8 ([.nilFunc])),
  some (.mk .func 1 8 ([.nilFunc])),
  some (.mk .func 1 8 ([.nilFunc])),
  some (.mk .func 1 8 ([.nilFunc])),
  some (.mk .func 1 8 ([.nilFunc])),
  some (.mk .func 1 8 ([.nilFunc])),
  some (.mk (.ptr 5) 1 8 ([.pointer none])),
  some (.mk .func 1 8 ([.nilFunc])),
  some (.mk .func 1 8 ([.nilFunc])),
  some (.mk .func 1 8 ([.nilFunc])),
  some (.mk .func 1 8 ([.nilFunc])),
  some (.mk .func 1 8 ([.nilFunc])),
  some (.mk (.ptr 72) 1 8 ([.pointer none])),
  some (.mk .func 1 8 ([.nilFunc])),
  some (.mk .func 1 8 ([.nilFunc])),
  some (.mk (.array 64 5) 64 64 (List.replicate 64 (.int .u8 0))),
  some (.mk .func 1 8 ([.nilFunc])),
  some (.mk .func 1 8 ([.nilFunc])),
  none,
  some (.mk .func 1 8 ([.nilFunc])),
  some (.mk .func 1 8 ([.nilFunc])),
  some (.mk (.struct [(0, 3), (1, 225), (2, 225), (3, 213)]) 4 32 ([.int .i64 0, .nilFunc, .nilFunc, .nilFunc])),
  some (.mk (.struct [(0, 3), (1, 225), (2, 225), (3, 213)]) 4 32 ([.int .i64 0, .nilFunc, .nilFunc, .nilFunc])),
  some (.mk .func 1 8 ([.nilFunc])),
  some (.mk .func 1 8 ([.nilFunc])),
  some (.mk .func 1 8 ([.nilFunc])),
  some (.mk .other 1 8 ([.pointer none])),
  some (.mk .func 1 8 ([.nilFunc])),
  some (.mk .func 1 8 ([.nilFunc])),
  some (.mk .func 1 8 ([.nilFunc])),
  some (.mk .func 1 8 ([.nilFunc])),
  some (.mk .func 1 8 ([.nilFunc])),
  some (.mk .func 1 8 ([.nilFunc])),
  some (.mk .func 1 8 ([.nilFunc])),
  some (.mk .func 1 8 ([.nilFunc])),
  some (.mk (.ptr 70) 1 8 ([.pointer none])),
  some (.mk .func 1 8 ([.nilFunc])),
  some (.mk (.ptr 21) 1 8 ([.pointer none])),
  some (.mk .func 1 8 ([.nilFunc])),
  some (.mk .func 1 8 ([.nilFunc])),
  some (.mk .func 1 8 ([.nilFunc])),
  some (.mk .func 1 8 ([.nilFunc])),
  some (.mk (.int .i64) 1 8 ([.int .i64 0])),
  none,
  some (.mk .func 1 8 ([.nilFunc])),
  some (.mk .func 1 8 ([.nilFunc])),
  some (.mk .func 1 8 ([.nilFunc])),
  some (.mk .func 1 8 ([.nilFunc])),
  some (.mk .func 1 8 ([.nilFunc])),
  some (.mk .func 1 8 ([.nilFunc])),
  some (.mk .func 1 8 ([.nilFunc])),
  some (.mk .func 1 8 ([.nilFunc])),
  some (.mk .func 1 8 ([.nilFunc])),
  some (.mk (.array 24 5) 24 24 (List.replicate 24 (.int .u8 0))),
  some (.mk .func 1 8 ([.nilFunc])),
  none,
  some (.mk .func 1 8 ([.nilFunc])),
  some (.mk .func 1 8 ([.nilFunc])),
  some (.mk .func 1 8 ([.nilFunc])),
  some (.mk .func 1 8 ([.nilFunc])),
  some (.mk .func 1 8 ([.nilFunc])),
  some (.mk (.int .u64) 1 8 ([.int .u64 0])),
  some (.mk .func 1 8 ([.nilFunc])),
  some (.mk .func 1 8 ([.nilFunc])),
  some (.mk .func 1 8 ([.nilFunc])),
  some (.mk (.ptr 3) 1 8 ([.pointer none])),
  some (.mk .func 1 8 ([.nilFunc])),
  some (.mk .func 1 8 ([.nilFunc])),
  some (.mk .func 1 8 ([.nilFunc])),
  some (.mk (.array 20 48) 20 160 (List.replicate 20 (.int .u64 0))),
  some (.mk (.array 65 5) 65 65 (List.replicate 65 (.int .u8 0))),
  some (.mk .func 1 8 ([.nilFunc])),
  some (.mk (.ptr 287) 1 8 ([.pointer none])),
  none,
  some (.mk .func 1 8 ([.nilFunc])),
  some (.mk .func 1 8 ([.nilFunc])),
  some (.mk .func 1 8 ([.nilFunc])),
  some (.mk .func 1 8 ([.nilFunc])),
  some (.mk .func 1 8 ([.nilFunc])),
  some (.mk .func 1 8 ([.nilFunc])),
  some (.mk (.array 32 5) 32 32 (List.replicate 32 (.int .u8 0))),
  some (.mk .func 1 8 ([.nilFunc])),
  some (.mk .func 1 8 ([.nilFunc])),
  some (.mk .func 1 8 ([.nilFunc])),
  some (.mk (.struct [(0, 17), (1, 17), (2, 17), (3, 9)]) 4 40 ([.pointer none, .pointer none, .pointer none, .string (ByteArray.mk (Array.mk []))])),
  some (.mk (.struct [(0, 17), (1, 17), (2, 17), (3, 9)]) 4 40 ([.pointer none, .pointer none, .pointer none, .string (ByteArray.mk (Array.mk []))])),
  some (.mk (.array 0 16) 0 0 ([])),
  some (.mk (.struct [(0, 312)]) 0 0 ([])),
  some (.mk (.struct [(0, 312)]) 0 0 ([])),
  some (.mk (.int .u8) 1 1 ([.int .u8 0])),
  some (.mk (.int .u8) 1 1 ([.int .u8 0])),
  some (.mk .func 1 8 ([.nilFunc])),
  some (.mk (.int .i32) 1 4 ([.int .i32 0])),
  some (.mk (.int .i32) 1 4 ([.int .i32 0])),
  some (.mk (.struct [(0, 12), (1, 12), (2, 66), (3, 315), (4, 5), (5, 5), (6, 316), (7, 317), (8, 232), (9, 318), (10, 319)]) 11 48 ([.int .u64 0, .int .u64 0, .int .u32 0, .int .u8 0, .int .u8 0, .int .u8 0, .int .u8 0, .nilFunc, .pointer none, .int .i32 0, .int .i32 0])),
  some (.mk (.struct [(0, 12), (1, 12), (2, 66), (3, 315), (4, 5), (5, 5), (6, 316), (7, 317), (8, 232), (9, 318), (10, 319)]) 11 48 ([.int .u64 0, .int .u64 0, .int .u32 0, .int .u8 0, .int .u8 0, .int .u8 0, .int .u8 0, .nilFunc, .pointer none, .int .i32 0, .int .i32 0]))]
def tabG : List Bool := [false, false, true, true, true, true, true, true, true, true, true, true, true, true, true, true, true, true, true, true, true, true, true, true, true, true, true, true, true, true, true, true, true, true, true, true, true, true, true, true, true, true, true, true, true, true, true, true, true, true, true, true, true, true, true, false, true, true, false, true, true, true, true, true, true, true, true, true, true, true, true, true, true, true, true, true, true, true, true, true, true, true, true, true, true, true, true, true, true, true, true, true, true, true, true, true, true, true, true, true, true, true, true, true, true, true, true, true, true, true, true, true, true, true, true, true, true, true, true, true, true, false, true, true, true, true, true, true, true, true, true, true, true, true, true, true, true, true, true, true, true, true, true, true, true, true, true, true, true, true, true, true, true, true, true, true, true, true, true, true, true, true, true, true, true, true, true, true, false, true, true, true, true, true, true, true, true, true, true, true, true, true, true, false, true, false, true, true, true, true, true, true, true, true, true, true, true, false, false, false, false, true, false, false, true, true, true, true, true, true, true, true, true, true, true, true, true, true, true, true, true, true, true, true, true, true, true, true, true, true, false, false, false, false, false, false, false, true, true, true, true, true, true, true, true, true, true, true, true, true, true, true, true, true, true, true, true, true, true, true, true, true, true, false, false, false, false, false, false, false, false, false, false, false, false, false, false, false, false, false, false, false, false, false, false, false, false, true]
def tabE : List Nat := [13, 14, 18, 19, 67, 68, 71, 72, 73, 74, 78, 79, 310, 311, 313, 314, 320, 321]
def X : Tab := ⟨tabT, tabG, tabE⟩
theorem tab_t1 : tiOf Tryz.prog 1 = some (.mk .func 1 8 ([.nilFunc])) := by kernel_rfl
theorem tab_t2 : tiOf Tryz.prog 2 = some (.mk (.int .i64) 1 8 ([.int .i64 0])) := by kernel_rfl
theorem tab_t3 : tiOf Tryz.prog 3 = some (.mk (.int .i64) 1 8 ([.int .i64 0])) := by kernel_rfl
theorem tab_t4 : tiOf Tryz.prog 4 = some (.mk .bool 1 1 ([.bool false])) := by kernel_rfl
theorem tab_t5 : tiOf Tryz.prog 5 = some (.mk (.int .u8) 1 1 ([.int .u8 0])) := by kernel_rfl
theorem tab_t6 : tiOf Tryz.prog 6 = some (.mk (.int .u8) 1 1 ([.int .u8 0])) := by kernel_rfl
theorem tab_t7 : tiOf Tryz.prog 7 = some (.mk (.struct [(0, 2), (1, 3), (2, 4), (3, 6)]) 4 24 ([.int .i64 0, .int .i64 0, .bool false, .int .u8 0])) := by kernel_rfl
theorem tab_t8 : tiOf Tryz.prog 8 = some (.mk (.struct [(0, 2), (1, 3), (2, 4), (3, 6)]) 4 24 ([.int .i64 0, .int .i64 0, .bool false, .int .u8 0])) := by kernel_rfl
theorem tab_t9 : tiOf Tryz.prog 9 = some (.mk .str 1 16 ([.string (ByteArray.mk (Array.mk []))])) := by kernel_rfl
theorem tab_t10 : tiOf Tryz.prog 10 = some (.mk .str 1 16 ([.string (ByteArray.mk (Array.mk []))])) := by kernel_rfl
theorem tab_t11 : tiOf Tryz.prog 11 = some (.mk .str 1 16 ([.string (ByteArray.mk (Array.mk []))])) := by kernel_rfl
theorem tab_t12 : tiOf Tryz.prog 12 = some (.mk (.int .u64) 1 8 ([.int .u64 0])) := by kernel_rfl
theorem tab_t13 : tiOf Tryz.prog 13 = some (.mk (.struct [(0, 9), (1, 12)]) 2 24 ([.string (ByteArray.mk (Array.mk [])), .int .u64 0])) := by kernel_rfl
theorem tab_t14 : tiOf Tryz.prog 14 = some (.mk (.struct [(0, 9), (1, 12)]) 2 24 ([.string (ByteArray.mk (Array.mk [])), .int .u64 0])) := by kernel_rfl
theorem tab_t15 : tiOf Tryz.prog 15 = some (.mk (.ptr 311) 1 8 ([.pointer none])) := by kernel_rfl
theorem tab_t16 : tiOf Tryz.prog 16 = some (.mk (.ptr 314) 1 8 ([.pointer none])) := by kernel_rfl
theorem tab_t17 : tiOf Tryz.prog 17 = some (.mk (.ptr 321) 1 8 ([.pointer none])) := by kernel_rfl
theorem tab_t18 : tiOf Tryz.prog 18 = some (.mk (.struct [(0, 17)]) 1 8 ([.pointer none])) := by kernel_rfl
theorem tab_t19 : tiOf Tryz.prog 19 = some (.mk (.struct [(0, 17)]) 1 8 ([.pointer none])) := by kernel_rfl
theorem tab_t20 : tiOf Tryz.prog 20 = some (.mk .iface 1 16 ([.nilIface])) := by kernel_rfl
theorem tab_t21 : tiOf Tryz.prog 21 = some (.mk (.int .i32) 1 4 ([.int .i32 0])) := by kernel_rfl
theorem tab_t22 : tiOf Tryz.prog 22 = some (.mk (.slice 9) 1 24 ([.slice none 0 0])) := by kernel_rfl
theorem tab_t23 : tiOf Tryz.prog 23 = some (.mk (.slice 55) 1 24 ([.slice none 0 0])) := by kernel_rfl
theorem tab_t24 : tiOf Tryz.prog 24 = some (.mk (.struct [(0, 22), (1, 23)]) 2 48 ([.slice none 0 0, .slice none 0 0])) := by kernel_rfl
theorem tab_t25 : tiOf Tryz.prog 25 = some (.mk (.struct [(0, 22), (1, 23)]) 2 48 ([.slice none 0 0, .slice none 0 0])) := by kernel_rfl
theorem tab_t26 : tiOf Tryz.prog 26 = some (.mk (.slice 5) 1 24 ([.slice none 0 0])) := by kernel_rfl
theorem tab_t27 : tiOf Tryz.prog 27 = some (.mk .func 1 8 ([.nilFunc])) := by kernel_rfl
theorem tab_t28 : tiOf Tryz.prog 28 = some (.mk .func 1 8 ([.nilFunc])) := by kernel_rfl
theorem tab_t29 : tiOf Tryz.prog 29 = some (.mk (.ptr 81) 1 8 ([.pointer none])) := by kernel_rfl
theorem tab_t30 : tiOf Tryz.prog 30 = some (.mk (.int .i64) 1 8 ([.int .i64 0])) := by kernel_rfl
theorem tab_t32 : tiOf Tryz.prog 32 = some (.mk .func 1 8 ([.nilFunc])) := by kernel_rfl
theorem tab_t33 : tiOf Tryz.prog 33 = some (.mk .func 1 8 ([.nilFunc])) := by kernel_rfl
theorem tab_t34 : tiOf Tryz.prog 34 = some (.mk .func 1 8 ([.nilFunc])) := by kernel_rfl
theorem tab_t36 : tiOf Tryz.prog 36 = some (.mk .func 1 8 ([.nilFunc])) := by kernel_rfl
theorem tab_t37 : tiOf Tryz.prog 37 = some (.mk .func 1 8 ([.nilFunc])) := by kernel_rfl
theorem tab_t38 : tiOf Tryz.prog 38 = some (.mk .func 1 8 ([.nilFunc])) := by kernel_rfl
theorem tab_t39 : tiOf Tryz.prog 39 = some (.mk .func 1 8 ([.nilFunc])) := by kernel_rfl
theorem tab_t40 : tiOf Tryz.prog 40 = some (.mk .func 1 8 ([.nilFunc])) := by kernel_rfl
theorem tab_t41 : tiOf Tryz.prog 41 = some (.mk .func 1 8 ([.nilFunc])) := by kernel_rfl
theorem tab_t42 : tiOf Tryz.prog 42 = some (.mk (.slice 52) 1 24 ([.slice none 0 0])) := by kernel_rfl
theorem tab_t43 : tiOf Tryz.prog 43 = some (.mk (.struct [(0, 42)]) 1 24 ([.slice none 0 0])) := by kernel_rfl
theorem tab_t44 : tiOf Tryz.prog 44 = some (.mk (.struct [(0, 42)]) 1 24 ([.slice none 0 0])) := by kernel_rfl
theorem tab_t45 : tiOf Tryz.prog 45 = some (.mk .func 1 8 ([.nilFunc])) := by kernel_rfl
theorem tab_t46 : tiOf Tryz.prog 46 = some (.mk .func 1 8 ([.nilFunc])) := by kernel_rfl
theorem tab_t47 : tiOf Tryz.prog 47 = some (.mk .func 1 8 ([.nilFunc])) := by kernel_rfl
theorem tab_t48 : tiOf Tryz.prog 48 = some (.mk (.int .u64) 1 8 ([.int .u64 0])) := by kernel_rfl
theorem tab_t49 : tiOf Tryz.prog 49 = some (.mk (.array 4 48) 4 32 ([.int .u64 0, .int .u64 0, .int .u64 0, .int .u64 0])) := by kernel_rfl
theorem tab_t50 : tiOf Tryz.prog 50 = some (.mk (.array 4 48) 4 32 ([.int .u64 0, .int .u64 0, .int .u64 0, .int .u64 0])) := by kernel_rfl
theorem tab_t51 : tiOf Tryz.prog 51 = some (.mk (.struct [(0, 3), (1, 50), (5, 42), (6, 3), (7, 3), (8, 4)]) 9 88 ([.int .i64 0, .int .u64 0, .int .u64 0, .int .u64 0, .int .u64 0, .slice none 0 0, .int .i64 0, .int .i64 0, .bool false])) := by kernel_rfl
theorem tab_t52 : tiOf Tryz.prog 52 = some (.mk (.struct [(0, 3), (1, 50), (5, 42), (6, 3), (7, 3), (8, 4)]) 9 88 ([.int .i64 0, .int .u64 0, .int .u64 0, .int .u64 0, .int .u64 0, .slice none 0 0, .int .i64 0, .int .i64 0, .bool false])) := by kernel_rfl
theorem tab_t53 : tiOf Tryz.prog 53 = some (.mk (.slice 3) 1 24 ([.slice none 0 0])) := by kernel_rfl
theorem tab_t54 : tiOf Tryz.prog 54 = some (.mk (.struct [(0, 53), (1, 52), (10, 3), (11, 3)]) 12 128 ([.slice none 0 0, .int .i64 0, .int .u64 0, .int .u64 0, .int .u64 0, .int .u64 0, .slice none 0 0, .int .i64 0, .int .i64 0, .bool false, .int .i64 0, .int .i64 0])) := by kernel_rfl
theorem tab_t55 : tiOf Tryz.prog 55 = some (.mk (.struct [(0, 53), (1, 52), (10, 3), (11, 3)]) 12 128 ([.slice none 0 0, .int .i64 0, .int .u64 0, .int .u64 0, .int .u64 0, .int .u64 0, .slice none 0 0, .int .i64 0, .int .i64 0, .bool false, .int .i64 0, .int .i64 0])) := by kernel_rfl
theorem tab_t56 : tiOf Tryz.prog 56 = some (.mk .func 1 8 ([.nilFunc])) := by kernel_rfl
theorem tab_t57 : tiOf Tryz.prog 57 = some (.mk (.ptr 100) 1 8 ([.pointer none])) := by kernel_rfl
theorem tab_t59 : tiOf Tryz.prog 59 = some (.mk .func 1 8 ([.nilFunc])) := by kernel_rfl
theorem tab_t60 : tiOf Tryz.prog 60 = some (.mk (.map 9 3) 1 8 ([.map none])) := by kernel_rfl
theorem tab_t61 : tiOf Tryz.prog 61 = some (.mk (.map 3 53) 1 8 ([.map none])) := by kernel_rfl
theorem tab_t62 : tiOf Tryz.prog 62 = some (.mk (.slice 84) 1 24 ([.slice none 0 0])) := by kernel_rfl
theorem tab_t63 : tiOf Tryz.prog 63 = some (.mk (.struct []) 0 0 ([])) := by kernel_rfl
theorem tab_t64 : tiOf Tryz.prog 64 = some (.mk (.struct []) 0 0 ([])) := by kernel_rfl
theorem tab_t65 : tiOf Tryz.prog 65 = some (.mk (.struct []) 0 0 ([])) := by kernel_rfl
theorem tab_t66 : tiOf Tryz.prog 66 = some (.mk (.int .u32) 1 4 ([.int .u32 0])) := by kernel_rfl
theorem tab_t67 : tiOf Tryz.prog 67 = some (.mk (.struct [(0, 65), (0, 66)]) 1 4 ([.int .u32 0])) := by kernel_rfl
theorem tab_t68 : tiOf Tryz.prog 68 = some (.mk (.struct [(0, 65), (0, 66)]) 1 4 ([.int .u32 0])) := by kernel_rfl
theorem tab_t69 : tiOf Tryz.prog 69 = some (.mk (.struct [(0, 21), (1, 66)]) 2 8 ([.int .i32 0, .int .u32 0])) := by kernel_rfl
theorem tab_t70 : tiOf Tryz.prog 70 = some (.mk (.struct [(0, 21), (1, 66)]) 2 8 ([.int .i32 0, .int .u32 0])) := by kernel_rfl
theorem tab_t71 : tiOf Tryz.prog 71 = some (.mk (.struct [(0, 64), (0, 70)]) 2 8 ([.int .i32 0, .int .u32 0])) := by kernel_rfl
theorem tab_t72 : tiOf Tryz.prog 72 = some (.mk (.struct [(0, 64), (0, 70)]) 2 8 ([.int .i32 0, .int .u32 0])) := by kernel_rfl
theorem tab_t73 : tiOf Tryz.prog 73 = some (.mk (.struct [(0, 64), (0, 68), (1, 72)]) 3 12 ([.int .u32 0, .int .i32 0, .int .u32 0])) := by kernel_rfl
theorem tab_t74 : tiOf Tryz.prog 74 = some (.mk (.struct [(0, 64), (0, 68), (1, 72)]) 3 12 ([.int .u32 0, .int .i32 0, .int .u32 0])) := by kernel_rfl
theorem tab_t75 : tiOf Tryz.prog 75 = some (.mk (.struct [(0, 74), (3, 26)]) 4 40 ([.int .u32 0, .int .i32 0, .int .u32 0, .slice none 0 0])) := by kernel_rfl
theorem tab_t76 : tiOf Tryz.prog 76 = some (.mk (.struct [(0, 74), (3, 26)]) 4 40 ([.int .u32 0, .int .i32 0, .int .u32 0, .slice none 0 0])) := by kernel_rfl
theorem tab_t77 : tiOf Tryz.prog 77 = some (.mk (.struct []) 0 0 ([])) := by kernel_rfl
theorem tab_t78 : tiOf Tryz.prog 78 = some (.mk (.struct [(0, 65), (0, 77), (0, 2)]) 1 8 ([.int .i64 0])) := by kernel_rfl
theorem tab_t79 : tiOf Tryz.prog 79 = some (.mk (.struct [(0, 65), (0, 77), (0, 2)]) 1 8 ([.int .i64 0])) := by kernel_rfl
theorem tab_t80 : tiOf Tryz.prog 80 = some (.mk (.struct [(0, 57), (1, 3), (2, 60), (3, 62), (4, 53), (5, 61), (6, 76), (10, 79), (11, 79)]) 12 136 ([.pointer none, .int .i64 0, .map none, .slice none 0 0, .slice none 0 0, .map none, .int .u32 0, .int .i32 0, .int .u32 0, .slice none 0 0, .int .i64 0, .int .i64 0])) := by kernel_rfl
theorem tab_t81 : tiOf Tryz.prog 81 = some (.mk (.struct [(0, 57), (1, 3), (2, 60), (3, 62), (4, 53), (5, 61), (6, 76), (10, 79), (11, 79)]) 12 136 ([.pointer none, .int .i64 0, .map none, .slice none 0 0, .slice none 0 0, .map none, .int .u32 0, .int .i32 0, .int .u32 0, .slice none 0 0, .int .i64 0, .int .i64 0])) := by kernel_rfl
theorem tab_t82 : tiOf Tryz.prog 82 = some (.mk .func 1 8 ([.nilFunc])) := by kernel_rfl
theorem tab_t83 : tiOf Tryz.prog 83 = some (.mk (.slice 88) 1 24 ([.slice none 0 0])) := by kernel_rfl
theorem tab_t84 : tiOf Tryz.prog 84 = some (.mk (.slice 88) 1 24 ([.slice none 0 0])) := by kernel_rfl
theorem tab_t85 : tiOf Tryz.prog 85 = some (.mk .func 1 8 ([.nilFunc])) := by kernel_rfl
theorem tab_t86 : tiOf Tryz.prog 86 = some (.mk .func 1 8 ([.nilFunc])) := by kernel_rfl
theorem tab_t87 : tiOf Tryz.prog 87 = some (.mk (.slice 53) 1 24 ([.slice none 0 0])) := by kernel_rfl
theorem tab_t88 : tiOf Tryz.prog 88 = some (.mk (.slice 53) 1 24 ([.slice none 0 0])) := by kernel_rfl
theorem tab_t89 : tiOf Tryz.prog 89 = some (.mk .func 1 8 ([.nilFunc])) := by kernel_rfl
theorem tab_t90 : tiOf Tryz.prog 90 = some (.mk .func 1 8 ([.nilFunc])) := by kernel_rfl
theorem tab_t91 : tiOf Tryz.prog 91 = some (.mk .func 1 8 ([.nilFunc])) := by kernel_rfl
theorem tab_t93 : tiOf Tryz.prog 93 = some (.mk .func 1 8 ([.nilFunc])) := by kernel_rfl
theorem tab_t94 : tiOf Tryz.prog 94 = some (.mk .func 1 8 ([.nilFunc])) := by kernel_rfl
theorem tab_t95 : tiOf Tryz.prog 95 = some (.mk (.ptr 142) 1 8 ([.pointer none])) := by kernel_rfl
theorem tab_t96 : tiOf Tryz.prog 96 = some (.mk (.array 256 5) 256 256 (List.replicate 256 (.int .u8 0))) := by kernel_rfl
theorem tab_t97 : tiOf Tryz.prog 97 = some (.mk (.struct [(0, 96), (256, 3)]) 257 264 (List.replicate 256 (.int .u8 0) ++ [.int .i64 0])) := by kernel_rfl
theorem tab_t98 : tiOf Tryz.prog 98 = some (.mk (.struct [(0, 96), (256, 3)]) 257 264 (List.replicate 256 (.int .u8 0) ++ [.int .i64 0])) := by kernel_rfl
theorem tab_t99 : tiOf Tryz.prog 99 = some (.mk (.struct [(0, 95), (1, 44), (2, 98), (259, 84), (260, 25)]) 262 368 ([.pointer none, .slice none 0 0] ++ List.replicate 256 (.int .u8 0) ++ [.int .i64 0, .slice none 0 0, .slice none 0 0, .slice none 0 0])) := by kernel_rfl
theorem tab_t100 : tiOf Tryz.prog 100 = some (.mk (.struct [(0, 95), (1, 44), (2, 98), (259, 84), (260, 25)]) 262 368 ([.pointer none, .slice none 0 0] ++ List.replicate 256 (.int .u8 0) ++ [.int .i64 0, .slice none 0 0, .slice none 0 0, .slice none 0 0])) := by kernel_rfl
theorem tab_t101 : tiOf Tryz.prog 101 = some (.mk .func 1 8 ([.nilFunc])) := by kernel_rfl
theorem tab_t102 : tiOf Tryz.prog 102 = some (.mk .func 1 8 ([.nilFunc])) := by kernel_rfl
theorem tab_t103 : tiOf Tryz.prog 103 = some (.mk .func 1 8 ([.nilFunc])) := by kernel_rfl
theorem tab_t104 : tiOf Tryz.prog 104 = some (.mk .func 1 8 ([.nilFunc])) := by kernel_rfl
theorem tab_t105 : tiOf Tryz.prog 105 = some (.mk .func 1 8 ([.nilFunc])) := by kernel_rfl
theorem tab_t106 : tiOf Tryz.prog 106 = some (.mk .func 1 8 ([.nilFunc])) := by kernel_rfl
theorem tab_t107 : tiOf Tryz.prog 107 = some (.mk .func 1 8 ([.nilFunc])) := by kernel_rfl
theorem tab_t108 : tiOf Tryz.prog 108 = some (.mk .func 1 8 ([.nilFunc])) := by kernel_rfl
theorem tab_t110 : tiOf Tryz.prog 110 = some (.mk .func 1 8 ([.nilFunc])) := by kernel_rfl
theorem tab_t111 : tiOf Tryz.prog 111 = some (.mk .func 1 8 ([.nilFunc])) := by kernel_rfl
theorem tab_t112 : tiOf Tryz.prog 112 = some (.mk .func 1 8 ([.nilFunc])) := by kernel_rfl
theorem tab_t113 : tiOf Tryz.prog 113 = some (.mk (.slice 50) 1 24 ([.slice none 0 0])) := by kernel_rfl
theorem tab_t114 : tiOf Tryz.prog 114 = some (.mk .func 1 8 ([.nilFunc])) := by kernel_rfl
theorem tab_t116 : tiOf Tryz.prog 116 = some (.mk .func 1 8 ([.nilFunc])) := by kernel_rfl
theorem tab_t117 : tiOf Tryz.prog 117 = some (.mk .func 1 8 ([.nilFunc])) := by kernel_rfl
theorem tab_t118 : tiOf Tryz.prog 118 = some (.mk .func 1 8 ([.nilFunc])) := by kernel_rfl
theorem tab_t119 : tiOf Tryz.prog 119 = some (.mk .func 1 8 ([.nilFunc])) := by kernel_rfl
theorem tab_t121 : tiOf Tryz.prog 121 = some (.mk .func 1 8 ([.nilFunc])) := by kernel_rfl
theorem tab_t122 : tiOf Tryz.prog 122 = some (.mk .func 1 8 ([.nilFunc])) := by kernel_rfl
theorem tab_t124 : tiOf Tryz.prog 124 = some (.mk .func 1 8 ([.nilFunc])) := by kernel_rfl
theorem tab_t125 : tiOf Tryz.prog 125 = some (.mk .func 1 8 ([.nilFunc])) := by kernel_rfl
theorem tab_t126 : tiOf Tryz.prog 126 = some (.mk (.ptr 76) 1 8 ([.pointer none])) := by kernel_rfl
theorem tab_t127 : tiOf Tryz.prog 127 = some (.mk .func 1 8 ([.nilFunc])) := by kernel_rfl
theorem tab_t128 : tiOf Tryz.prog 128 = some (.mk (.ptr 79) 1 8 ([.pointer none])) := by kernel_rfl
theorem tab_t129 : tiOf Tryz.prog 129 = some (.mk .func 1 8 ([.nilFunc])) := by kernel_rfl
theorem tab_t130 : tiOf Tryz.prog 130 = some (.mk (.ptr 2) 1 8 ([.pointer none])) := by kernel_rfl
theorem tab_t131 : tiOf Tryz.prog 131 = some (.mk .func 1 8 ([.nilFunc])) := by kernel_rfl
theorem tab_t132 : tiOf Tryz.prog 132 = some (.mk .func 1 8 ([.nilFunc])) := by kernel_rfl
theorem tab_t133 : tiOf Tryz.prog 133 = some (.mk .func 1 8 ([.nilFunc])) := by kernel_rfl
theorem tab_t134 : tiOf Tryz.prog 134 = some (.mk .func 1 8 ([.nilFunc])) := by kernel_rfl
theorem tab_t135 : tiOf Tryz.prog 135 = some (.mk .func 1 8 ([.nilFunc])) := by kernel_rfl
theorem tab_t136 : tiOf Tryz.prog 136 = some (.mk .func 1 8 ([.nilFunc])) := by kernel_rfl
theorem tab_t137 : tiOf Tryz.prog 137 = some (.mk .func 1 8 ([.nilFunc])) := by kernel_rfl
theorem tab_t138 : tiOf Tryz.prog 138 = some (.mk .func 1 8 ([.nilFunc])) := by kernel_rfl
theorem tab_t139 : tiOf Tryz.prog 139 = some (.mk (.map 146 3) 1 8 ([.map none])) := by kernel_rfl
theorem tab_t140 : tiOf Tryz.prog 140 = some (.mk (.slice 146) 1 24 ([.slice none 0 0])) := by kernel_rfl
theorem tab_t141 : tiOf Tryz.prog 141 = some (.mk (.struct [(0, 140), (1, 139)]) 2 32 ([.slice none 0 0, .map none])) := by kernel_rfl
theorem tab_t142 : tiOf Tryz.prog 142 = some (.mk (.struct [(0, 140), (1, 139)]) 2 32 ([.slice none 0 0, .map none])) := by kernel_rfl
theorem tab_t143 : tiOf Tryz.prog 143 = some (.mk .func 1 8 ([.nilFunc])) := by kernel_rfl
theorem tab_t144 : tiOf Tryz.prog 144 = some (.mk .func 1 8 ([.nilFunc])) := by kernel_rfl
theorem tab_t145 : tiOf Tryz.prog 145 = some (.mk (.struct [(0, 3), (1, 50), (5, 3), (6, 3), (7, 4)]) 8 64 ([.int .i64 0, .int .u64 0, .int .u64 0, .int .u64 0, .int .u64 0, .int .i64 0, .int .i64 0, .bool false])) := by kernel_rfl
theorem tab_t146 : tiOf Tryz.prog 146 = some (.mk (.struct [(0, 3), (1, 50), (5, 3), (6, 3), (7, 4)]) 8 64 ([.int .i64 0, .int .u64 0, .int .u64 0, .int .u64 0, .int .u64 0, .int .i64 0, .int .i64 0, .bool false])) := by kernel_rfl
theorem tab_t148 : tiOf Tryz.prog 148 = some (.mk .func 1 8 ([.nilFunc])) := by kernel_rfl
theorem tab_t149 : tiOf Tryz.prog 149 = some (.mk (.ptr 182) 1 8 ([.pointer none])) := by kernel_rfl
theorem tab_t150 : tiOf Tryz.prog 150 = some (.mk .func 1 8 ([.nilFunc])) := by kernel_rfl
theorem tab_t151 : tiOf Tryz.prog 151 = some (.mk .func 1 8 ([.nilFunc])) := by kernel_rfl
theorem tab_t152 : tiOf Tryz.prog 152 = some (.mk .func 1 8 ([.nilFunc])) := by kernel_rfl
theorem tab_t153 : tiOf Tryz.prog 153 = some (.mk (.slice 4) 1 24 ([.slice none 0 0])) := by kernel_rfl
theorem tab_t154 : tiOf Tryz.prog 154 = some (.mk .func 1 8 ([.nilFunc])) := by kernel_rfl
theorem tab_t155 : tiOf Tryz.prog 155 = some (.mk .func 1 8 ([.nilFunc])) := by kernel_rfl
theorem tab_t156 : tiOf Tryz.prog 156 = some (.mk .func 1 8 ([.nilFunc])) := by kernel_rfl
theorem tab_t157 : tiOf Tryz.prog 157 = some (.mk .func 1 8 ([.nilFunc])) := by kernel_rfl
theorem tab_t158 : tiOf Tryz.prog 158 = some (.mk .func 1 8 ([.nilFunc])) := by kernel_rfl
theorem tab_t159 : tiOf Tryz.prog 159 = some (.mk .func 1 8 ([.nilFunc])) := by kernel_rfl
theorem tab_t160 : tiOf Tryz.prog 160 = some (.mk (.int .u64) 1 8 ([.int .u64 0])) := by kernel_rfl
theorem tab_t162 : tiOf Tryz.prog 162 = some (.mk .func 1 8 ([.nilFunc])) := by kernel_rfl
theorem tab_t163 : tiOf Tryz.prog 163 = some (.mk .func 1 8 ([.nilFunc])) := by kernel_rfl
theorem tab_t164 : tiOf Tryz.prog 164 = some (.mk .func 1 8 ([.nilFunc])) := by kernel_rfl
theorem tab_t165 : tiOf Tryz.prog 165 = some (.mk (.ptr 74) 1 8 ([.pointer none])) := by kernel_rfl
theorem tab_t167 : tiOf Tryz.prog 167 = some (.mk .func 1 8 ([.nilFunc])) := by kernel_rfl
theorem tab_t168 : tiOf Tryz.prog 168 = some (.mk .func 1 8 ([.nilFunc])) := by kernel_rfl
theorem tab_t169 : tiOf Tryz.prog 169 = some (.mk .func 1 8 ([.nilFunc])) := by kernel_rfl
theorem tab_t170 : tiOf Tryz.prog 170 = some (.mk .func 1 8 ([.nilFunc])) := by kernel_rfl
theorem tab_t171 : tiOf Tryz.prog 171 = some (.mk .func 1 8 ([.nilFunc])) := by kernel_rfl
theorem tab_t172 : tiOf Tryz.prog 172 = some (.mk .func 1 8 ([.nilFunc])) := by kernel_rfl
theorem tab_t173 : tiOf Tryz.prog 173 = some (.mk .func 1 8 ([.nilFunc])) := by kernel_rfl
theorem tab_t174 : tiOf Tryz.prog 174 = some (.mk (.ptr 44) 1 8 ([.pointer none])) := by kernel_rfl
theorem tab_t175 : tiOf Tryz.prog 175 = some (.mk .func 1 8 ([.nilFunc])) := by kernel_rfl
theorem tab_t176 : tiOf Tryz.prog 176 = some (.mk (.ptr 178) 1 8 ([.pointer none])) := by kernel_rfl
theorem tab_t177 : tiOf Tryz.prog 177 = some (.mk (.struct [(0, 95), (1, 144), (2, 30)]) 3 24 ([.pointer none, .nilFunc, .int .i64 0])) := by kernel_rfl
theorem tab_t178 : tiOf Tryz.prog 178 = some (.mk (.struct [(0, 95), (1, 144), (2, 30)]) 3 24 ([.pointer none, .nilFunc, .int .i64 0])) := by kernel_rfl
theorem tab_t179 : tiOf Tryz.prog 179 = some (.mk .func 1 8 ([.nilFunc])) := by kernel_rfl
theorem tab_t180 : tiOf Tryz.prog 180 = some (.mk (.map 3 88) 1 8 ([.map none])) := by kernel_rfl
theorem tab_t181 : tiOf Tryz.prog 181 = some (.mk (.struct [(0, 95), (1, 5), (2, 5), (3, 30), (4, 180), (5, 180)]) 6 40 ([.pointer none, .int .u8 0, .int .u8 0, .int .i64 0, .map none, .map none])) := by kernel_rfl
theorem tab_t182 : tiOf Tryz.prog 182 = some (.mk (.struct [(0, 95), (1, 5), (2, 5), (3, 30), (4, 180), (5, 180)]) 6 40 ([.pointer none, .int .u8 0, .int .u8 0, .int .i64 0, .map none, .map none])) := by kernel_rfl
theorem tab_t183 : tiOf Tryz.prog 183 = some (.mk .func 1 8 ([.nilFunc])) := by kernel_rfl
theorem tab_t185 : tiOf Tryz.prog 185 = some (.mk .func 1 8 ([.nilFunc])) := by kernel_rfl
theorem tab_t186 : tiOf Tryz.prog 186 = some (.mk .func 1 8 ([.nilFunc])) := by kernel_rfl
theorem tab_t187 : tiOf Tryz.prog 187 = some (.mk (.map 190 5) 1 8 ([.map none])) := by kernel_rfl
theorem tab_t188 : tiOf Tryz.prog 188 = some (.mk .func 1 8 ([.nilFunc])) := by kernel_rfl
theorem tab_t189 : tiOf Tryz.prog 189 = some (.mk (.struct [(0, 5), (1, 4)]) 2 2 ([.int .u8 0, .bool false])) := by kernel_rfl
theorem tab_t190 : tiOf Tryz.prog 190 = some (.mk (.struct [(0, 5), (1, 4)]) 2 2 ([.int .u8 0, .bool false])) := by kernel_rfl
theorem tab_t191 : tiOf Tryz.prog 191 = some (.mk (.ptr 193) 1 8 ([.pointer none])) := by kernel_rfl
theorem tab_t192 : tiOf Tryz.prog 192 = some (.mk (.struct [(0, 191), (1, 26)]) 2 32 ([.pointer none, .slice none 0 0])) := by kernel_rfl
theorem tab_t193 : tiOf Tryz.prog 193 = some (.mk (.struct [(0, 191), (1, 26)]) 2 32 ([.pointer none, .slice none 0 0])) := by kernel_rfl
theorem tab_t194 : tiOf Tryz.prog 194 = some (.mk .iface 1 16 ([.nilIface])) := by kernel_rfl
theorem tab_t195 : tiOf Tryz.prog 195 = some (.mk .iface 1 16 ([.nilIface])) := by kernel_rfl
theorem tab_t197 : tiOf Tryz.prog 197 = some (.mk .func 1 8 ([.nilFunc])) := by kernel_rfl
theorem tab_t198 : tiOf Tryz.prog 198 = some (.mk .func 1 8 ([.nilFunc])) := by kernel_rfl
theorem tab_t199 : tiOf Tryz.prog 199 = some (.mk .func 1 8 ([.nilFunc])) := by kernel_rfl
theorem tab_t200 : tiOf Tryz.prog 200 = some (.mk .func 1 8 ([.nilFunc])) := by kernel_rfl
theorem tab_t202 : tiOf Tryz.prog 202 = some (.mk .func 1 8 ([.nilFunc])) := by kernel_rfl
theorem tab_t204 : tiOf Tryz.prog 204 = some (.mk .func 1 8 ([.nilFunc])) := by kernel_rfl
theorem tab_t205 : tiOf Tryz.prog 205 = some (.mk .func 1 8 ([.nilFunc])) := by kernel_rfl
theorem tab_t206 : tiOf Tryz.prog 206 = some (.mk .func 1 8 ([.nilFunc])) := by kernel_rfl
theorem tab_t207 : tiOf Tryz.prog 207 = some (.mk .func 1 8 ([.nilFunc])) := by kernel_rfl
theorem tab_t208 : tiOf Tryz.prog 208 = some (.mk (.ptr 68) 1 8 ([.pointer none])) := by kernel_rfl
theorem tab_t209 : tiOf Tryz.prog 209 = some (.mk .func 1 8 ([.nilFunc])) := by kernel_rfl
theorem tab_t210 : tiOf Tryz.prog 210 = some (.mk (.ptr 66) 1 8 ([.pointer none])) := by kernel_rfl
theorem tab_t211 : tiOf Tryz.prog 211 = some (.mk .func 1 8 ([.nilFunc])) := by kernel_rfl
theorem tab_t212 : tiOf Tryz.prog 212 = some (.mk .func 1 8 ([.nilFunc])) := by kernel_rfl
theorem tab_t213 : tiOf Tryz.prog 213 = some (.mk .func 1 8 ([.nilFunc])) := by kernel_rfl
theorem tab_t214 : tiOf Tryz.prog 214 = some (.mk .func 1 8 ([.nilFunc])) := by kernel_rfl
theorem tab_t215 : tiOf Tryz.prog 215 = some (.mk .func 1 8 ([.nilFunc])) := by kernel_rfl
theorem tab_t216 : tiOf Tryz.prog 216 = some (.mk .func 1 8 ([.nilFunc])) := by kernel_rfl
theorem tab_t217 : tiOf Tryz.prog 217 = some (.mk .func 1 8 ([.nilFunc])) := by kernel_rfl
theorem tab_t218 : tiOf Tryz.prog 218 = some (.mk .func 1 8 ([.nilFunc])) := by kernel_rfl
theorem tab_t219 : tiOf Tryz.prog 219 = some (.mk .func 1 8 ([.nilFunc])) := by kernel_rfl
theorem tab_t220 : tiOf Tryz.prog 220 = some (.mk (.map 3 4) 1 8 ([.map none])) := by kernel_rfl
theorem tab_t221 : tiOf Tryz.prog 221 = some (.mk (.struct [(0, 95), (1, 5), (2, 220)]) 3 24 ([.pointer none, .int .u8 0, .map none])) := by kernel_rfl
theorem tab_t222 : tiOf Tryz.prog 222 = some (.mk (.struct [(0, 95), (1, 5), (2, 220)]) 3 24 ([.pointer none, .int .u8 0, .map none])) := by kernel_rfl
theorem tab_t223 : tiOf Tryz.prog 223 = some (.mk .func 1 8 ([.nilFunc])) := by kernel_rfl
theorem tab_t224 : tiOf Tryz.prog 224 = some (.mk .func 1 8 ([.nilFunc])) := by kernel_rfl
theorem tab_t225 : tiOf Tryz.prog 225 = some (.mk .func 1 8 ([.nilFunc])) := by kernel_rfl
theorem tab_t226 : tiOf Tryz.prog 226 = some (.mk .func 1 8 ([.nilFunc])) := by kernel_rfl
theorem tab_t227 : tiOf Tryz.prog 227 = some (.mk .func 1 8 ([.nilFunc])) := by kernel_rfl
theorem tab_t228 : tiOf Tryz.prog 228 = some (.mk .func 1 8 ([.nilFunc])) := by kernel_rfl
theorem tab_t229 : tiOf Tryz.prog 229 = some (.mk .func 1 8 ([.nilFunc])) := by kernel_rfl
theorem tab_t230 : tiOf Tryz.prog 230 = some (.mk .func 1 8 ([.nilFunc])) := by kernel_rfl
theorem tab_t231 : tiOf Tryz.prog 231 = some (.mk .func 1 8 ([.nilFunc])) := by kernel_rfl
theorem tab_t232 : tiOf Tryz.prog 232 = some (.mk (.ptr 5) 1 8 ([.pointer none])) := by kernel_rfl
theorem tab_t233 : tiOf Tryz.prog 233 = some (.mk .func 1 8 ([.nilFunc])) := by kernel_rfl
theorem tab_t234 : tiOf Tryz.prog 234 = some (.mk .func 1 8 ([.nilFunc])) := by kernel_rfl
theorem tab_t235 : tiOf Tryz.prog 235 = some (.mk .func 1 8 ([.nilFunc])) := by kernel_rfl
theorem tab_t236 : tiOf Tryz.prog 236 = some (.mk .func 1 8 ([.nilFunc])) := by kernel_rfl
theorem tab_t237 : tiOf Tryz.prog 237 = some (.mk .func 1 8 ([.nilFunc])) := by kernel_rfl
theorem tab_t238 : tiOf Tryz.prog 238 = some (.mk (.ptr 72) 1 8 ([.pointer none])) := by kernel_rfl
theorem tab_t239 : tiOf Tryz.prog 239 = some (.mk .func 1 8 ([.nilFunc])) := by kernel_rfl
theorem tab_t240 : tiOf Tryz.prog 240 = some (.mk .func 1 8 ([.nilFunc])) := by kernel_rfl
theorem tab_t241 : tiOf Tryz.prog 241 = some (.mk (.array 64 5) 64 64 (List.replicate 64 (.int .u8 0))) := by kernel_rfl
theorem tab_t242 : tiOf Tryz.prog 242 = some (.mk .func 1 8 ([.nilFunc])) := by kernel_rfl
theorem tab_t243 : tiOf Tryz.prog 243 = some (.mk .func 1 8 ([.nilFunc])) := by kernel_rfl
theorem tab_t245 : tiOf Tryz.prog 245 = some (.mk .func 1 8 ([.nilFunc])) := by kernel_rfl
theorem tab_t246 : tiOf Tryz.prog 246 = some (.mk .func 1 8 ([.nilFunc])) := by kernel_rfl
theorem tab_t247 : tiOf Tryz.prog 247 = some (.mk (.struct [(0, 3), (1, 225), (2, 225), (3, 213)]) 4 32 ([.int .i64 0, .nilFunc, .nilFunc, .nilFunc])) := by kernel_rfl
theorem tab_t248 : tiOf Tryz.prog 248 = some (.mk (.struct [(0, 3), (1, 225), (2, 225), (3, 213)]) 4 32 ([.int .i64 0, .nilFunc, .nilFunc, .nilFunc])) := by kernel_rfl
theorem tab_t249 : tiOf Tryz.prog 249 = some (.mk .func 1 8 ([.nilFunc])) := by kernel_rfl
theorem tab_t250 : tiOf Tryz.prog 250 = some (.mk .func 1 8 ([.nilFunc])) := by kernel_rfl
theorem tab_t251 : tiOf Tryz.prog 251 = some (.mk .func 1 8 ([.nilFunc])) := by kernel_rfl
theorem tab_t252 : tiOf Tryz.prog 252 = some (.mk .other 1 8 ([.pointer none])) := by kernel_rfl
theorem tab_t253 : tiOf Tryz.prog 253 = some (.mk .func 1 8 ([.nilFunc])) := by kernel_rfl
theorem tab_t254 : tiOf Tryz.prog 254 = some (.mk .func 1 8 ([.nilFunc])) := by kernel_rfl
theorem tab_t255 : tiOf Tryz.prog 255 = some (.mk .func 1 8 ([.nilFunc])) := by kernel_rfl
theorem tab_t256 : tiOf Tryz.prog 256 = some (.mk .func 1 8 ([.nilFunc])) := by kernel_rfl
theorem tab_t257 : tiOf Tryz.prog 257 = some (.mk .func 1 8 ([.nilFunc])) := by kernel_rfl
theorem tab_t258 : tiOf Tryz.prog 258 = some (.mk .func 1 8 ([.nilFunc])) := by kernel_rfl
theorem tab_t259 : tiOf Tryz.prog 259 = some (.mk .func 1 8 ([.nilFunc])) := by kernel_rfl
theorem tab_t260 : tiOf Tryz.prog 260 = some (.mk .func 1 8 ([.nilFunc])) := by kernel_rfl
theorem tab_t261 : tiOf Tryz.prog 261 = some (.mk (.ptr 70) 1 8 ([.pointer none])) := by kernel_rfl
theorem tab_t262 : tiOf Tryz.prog 262 = some (.mk .func 1 8 ([.nilFunc])) := by kernel_rfl
theorem tab_t263 : tiOf Tryz.prog 263 = some (.mk (.ptr 21) 1 8 ([.pointer none])) := by kernel_rfl
theorem tab_t264 : tiOf Tryz.prog 264 = some (.mk .func 1 8 ([.nilFunc])) := by kernel_rfl
theorem tab_t265 : tiOf Tryz.prog 265 = some (.mk .func 1 8 ([.nilFunc])) := by kernel_rfl
theorem tab_t266 : tiOf Tryz.prog 266 = some (.mk .func 1 8 ([.nilFunc])) := by kernel_rfl
theorem tab_t267 : tiOf Tryz.prog 267 = some (.mk .func 1 8 ([.nilFunc])) := by kernel_rfl
theorem tab_t268 : tiOf Tryz.prog 268 = some (.mk (.int .i64) 1 8 ([.int .i64 0])) := by kernel_rfl
theorem tab_t270 : tiOf Tryz.prog 270 = some (.mk .func 1 8 ([.nilFunc])) := by kernel_rfl
theorem tab_t271 : tiOf Tryz.prog 271 = some (.mk .func 1 8 ([.nilFunc])) := by kernel_rfl
theorem tab_t272 : tiOf Tryz.prog 272 = some (.mk .func 1 8 ([.nilFunc])) := by kernel_rfl
theorem tab_t273 : tiOf Tryz.prog 273 = some (.mk .func 1 8 ([.nilFunc])) := by kernel_rfl
theorem tab_t274 : tiOf Tryz.prog 274 = some (.mk .func 1 8 ([.nilFunc])) := by kernel_rfl
theorem tab_t275 : tiOf Tryz.prog 275 = some (.mk .func 1 8 ([.nilFunc])) := by kernel_rfl
theorem tab_t276 : tiOf Tryz.prog 276 = some (.mk .func 1 8 ([.nilFunc])) := by kernel_rfl
theorem tab_t277 : tiOf Tryz.prog 277 = some (.mk .func 1 8 ([.nilFunc])) := by kernel_rfl
theorem tab_t278 : tiOf Tryz.prog 278 = some (.mk .func 1 8 ([.nilFunc])) := by kernel_rfl
theorem tab_t279 : tiOf Tryz.prog 279 = some (.mk (.array 24 5) 24 24 (List.replicate 24 (.int .u8 0))) := by kernel_rfl
theorem tab_t280 : tiOf Tryz.prog 280 = some (.mk .func 1 8 ([.nilFunc])) := by kernel_rfl
theorem tab_t282 : tiOf Tryz.prog 282 = some (.mk .func 1 8 ([.nilFunc])) := by kernel_rfl
theorem tab_t283 : tiOf Tryz.prog 283 = some (.mk .func 1 8 ([.nilFunc])) := by kernel_rfl
theorem tab_t284 : tiOf Tryz.prog 284 = some (.mk .func 1 8 ([.nilFunc])) := by kernel_rfl
theorem tab_t285 : tiOf Tryz.prog 285 = some (.mk .func 1 8 ([.nilFunc])) := by kernel_rfl
theorem tab_t286 : tiOf Tryz.prog 286 = some (.mk .func 1 8 ([.nilFunc])) := by kernel_rfl
theorem tab_t287 : tiOf Tryz.prog 287 = some (.mk (.int .u64) 1 8 ([.int .u64 0])) := by kernel_rfl
theorem tab_t288 : tiOf Tryz.prog 288 = some (.mk .func 1 8 ([.nilFunc])) := by kernel_rfl
theorem tab_t289 : tiOf Tryz.prog 289 = some (.mk .func 1 8 ([.nilFunc])) := by kernel_rfl
theorem tab_t290 : tiOf Tryz.prog 290 = some (.mk .func 1 8 ([.nilFunc])) := by kernel_rfl
theorem tab_t291 : tiOf Tryz.prog 291 = some (.mk (.ptr 3) 1 8 ([.pointer none])) := by kernel_rfl
theorem tab_t292 : tiOf Tryz.prog 292 = some (.mk .func 1 8 ([.nilFunc])) := by kernel_rfl
theorem tab_t293 : tiOf Tryz.prog 293 = some (.mk .func 1 8 ([.nilFunc])) := by kernel_rfl
theorem tab_t294 : tiOf Tryz.prog 294 = some (.mk .func 1 8 ([.nilFunc])) := by kernel_rfl
theorem tab_t295 : tiOf Tryz.prog 295 = some (.mk (.array 20 48) 20 160 (List.replicate 20 (.int .u64 0))) := by kernel_rfl
theorem tab_t296 : tiOf Tryz.prog 296 = some (.mk (.array 65 5) 65 65 (List.replicate 65 (.int .u8 0))) := by kernel_rfl
theorem tab_t297 : tiOf Tryz.prog 297 = some (.mk .func 1 8 ([.nilFunc])) := by kernel_rfl
theorem tab_t298 : tiOf Tryz.prog 298 = some (.mk (.ptr 287) 1 8 ([.pointer none])) := by kernel_rfl
theorem tab_t300 : tiOf Tryz.prog 300 = some (.mk .func 1 8 ([.nilFunc])) := by kernel_rfl
theorem tab_t301 : tiOf Tryz.prog 301 = some (.mk .func 1 8 ([.nilFunc])) := by kernel_rfl
theorem tab_t302 : tiOf Tryz.prog 302 = some (.mk .func 1 8 ([.nilFunc])) := by kernel_rfl
theorem tab_t303 : tiOf Tryz.prog 303 = some (.mk .func 1 8 ([.nilFunc])) := by kernel_rfl
theorem tab_t304 : tiOf Tryz.prog 304 = some (.mk .func 1 8 ([.nilFunc])) := by kernel_rfl
theorem tab_t305 : tiOf Tryz.prog 305 = some (.mk .func 1 8 ([.nilFunc])) := by kernel_rfl
theorem tab_t306 : tiOf Tryz.prog 306 = some (.mk (.array 32 5) 32 32 (List.replicate 32 (.int .u8 0))) := by kernel_rfl
theorem tab_t307 : tiOf Tryz.prog 307 = some (.mk .func 1 8 ([.nilFunc])) := by kernel_rfl
theorem tab_t308 : tiOf Tryz.prog 308 = some (.mk .func 1 8 ([.nilFunc])) := by kernel_rfl
theorem tab_t309 : tiOf Tryz.prog 309 = some (.mk .func 1 8 ([.nilFunc])) := by kernel_rfl
theorem tab_t310 : tiOf Tryz.prog 310 = some (.mk (.struct [(0, 17), (1, 17), (2, 17), (3, 9)]) 4 40 ([.pointer none, .pointer none, .pointer none, .string (ByteArray.mk (Array.mk []))])) := by kernel_rfl
theorem tab_t311 : tiOf Tryz.prog 311 = some (.mk (.struct [(0, 17), (1, 17), (2, 17), (3, 9)]) 4 40 ([.pointer none, .pointer none, .pointer none, .string (ByteArray.mk (Array.mk []))])) := by kernel_rfl
theorem tab_t312 : tiOf Tryz.prog 312 = some (.mk (.array 0 16) 0 0 ([])) := by kernel_rfl
theorem tab_t313 : tiOf Tryz.prog 313 = some (.mk (.struct [(0, 312)]) 0 0 ([])) := by kernel_rfl
theorem tab_t314 : tiOf Tryz.prog 314 = some (.mk (.struct [(0, 312)]) 0 0 ([])) := by kernel_rfl
theorem tab_t315 : tiOf Tryz.prog 315 = some (.mk (.int .u8) 1 1 ([.int .u8 0])) := by kernel_rfl
theorem tab_t316 : tiOf Tryz.prog 316 = some (.mk (.int .u8) 1 1 ([.int .u8 0])) := by kernel_rfl
theorem tab_t317 : tiOf Tryz.prog 317 = some (.mk .func 1 8 ([.nilFunc])) := by kernel_rfl
theorem tab_t318 : tiOf Tryz.prog 318 = some (.mk (.int .i32) 1 4 ([.int .i32 0])) := by kernel_rfl
theorem tab_t319 : tiOf Tryz.prog 319 = some (.mk (.int .i32) 1 4 ([.int .i32 0])) := by kernel_rfl
theorem tab_t320 : tiOf Tryz.prog 320 = some (.mk (.struct [(0, 12), (1, 12), (2, 66), (3, 315), (4, 5), (5, 5), (6, 316), (7, 317), (8, 232), (9, 318), (10, 319)]) 11 48 ([.int .u64 0, .int .u64 0, .int .u32 0, .int .u8 0, .int .u8 0, .int .u8 0, .int .u8 0, .nilFunc, .pointer none, .int .i32 0, .int .i32 0])) := by kernel_rfl
theorem tab_t321 : tiOf Tryz.prog 321 = some (.mk (.struct [(0, 12), (1, 12), (2, 66), (3, 315), (4, 5), (5, 5), (6, 316), (7, 317), (8, 232), (9, 318), (10, 319)]) 11 48 ([.int .u64 0, .int .u64 0, .int .u32 0, .int .u8 0, .int .u8 0, .int .u8 0, .int .u8 0, .nilFunc, .pointer none, .int .i32 0, .int .i32 0])) := by kernel_rfl
theorem tab_all : tabAll Tryz.prog 0 tabT := by
  refine And.intro tab_t1 ?_
  refine And.intro tab_t2 ?_
  refine And.intro tab_t3 ?_
  refine And.intro tab_t4 ?_
  refine And.intro tab_t5 ?_
  refine And.intro tab_t6 ?_
  refine And.intro tab_t7 ?_
  refine And.intro tab_t8 ?_
  refine And.intro tab_t9 ?_
  refine And.intro tab_t10 ?_
  refine And.intro tab_t11 ?_
  refine And.intro tab_t12 ?_
  refine And.intro tab_t13 ?_
  refine And.intro tab_t14 ?_
  refine And.intro tab_t15 ?_
  refine And.intro tab_t16 ?_
  refine And.intro tab_t17 ?_
  refine And.intro tab_t18 ?_
  refine And.intro tab_t19 ?_
  refine And.intro tab_t20 ?_
  refine And.intro tab_t21 ?_
  refine And.intro tab_t22 ?_
  refine And.intro tab_t23 ?_
  refine And.intro tab_t24 ?_
  refine And.intro tab_t25 ?_
  refine And.intro tab_t26 ?_
  refine And.intro tab_t27 ?_
  refine And.intro tab_t28 ?_
  refine And.intro tab_t29 ?_
  refine And.intro tab_t30 ?_
  refine And.intro tab_t32 ?_
  refine And.intro tab_t33 ?_
  refine And.intro tab_t34 ?_
  refine And.intro tab_t36 ?_
  refine And.intro tab_t37 ?_
  refine And.intro tab_t38 ?_
  refine And.intro tab_t39 ?_
  refine And.intro tab_t40 ?_
  refine And.intro tab_t41 ?_
  refine And.intro tab_t42 ?_
  refine And.intro tab_t43 ?_
  refine And.intro tab_t44 ?_
  refine And.intro tab_t45 ?_
  refine And.intro tab_t46 ?_
  refine And.intro tab_t47 ?_
  refine And.intro tab_t48 ?_
  refine And.intro tab_t49 ?_
  refine And.intro tab_t50 ?_
  refine And.intro tab_t51 ?_
  refine And.intro tab_t52 ?_
  refine And.intro tab_t53 ?_
  refine And.intro tab_t54 ?_
  refine And.intro tab_t55 ?_
  refine And.intro tab_t56 ?_
  refine And.intro tab_t57 ?_
  refine And.intro tab_t59 ?_
  refine And.intro tab_t60 ?_
  refine And.intro tab_t61 ?_
  refine And.intro tab_t62 ?_
  refine And.intro tab_t63 ?_
  refine And.intro tab_t64 ?_
  refine And.intro tab_t65 ?_
  refine And.intro tab_t66 ?_
  refine And.intro tab_t67 ?_
  refine And.intro tab_t68 ?_
  refine And.intro tab_t69 ?_
  refine And.intro tab_t70 ?_
  refine And.intro tab_t71 ?_
  refine And.intro tab_t72 ?_
  refine And.intro tab_t73 ?_
  refine And.intro tab_t74 ?_
  refine And.intro tab_t75 ?_
  refine And.intro tab_t76 ?_
  refine And.intro tab_t77 ?_
  refine And.intro tab_t78 ?_
  refine And.intro tab_t79 ?_
  refine And.intro tab_t80 ?_
  refine And.intro tab_t81 ?_
  refine And.intro tab_t82 ?_
  refine And.intro tab_t83 ?_
  refine And.intro tab_t84 ?_
  refine And.intro tab_t85 ?_
  refine And.intro tab_t86 ?_
  refine And.intro tab_t87 ?_
  refine And.intro tab_t88 ?_
  refine And.intro tab_t89 ?_
  refine And.intro tab_t90 ?_
  refine And.intro tab_t91 ?_
  refine And.intro tab_t93 ?_
  refine And.intro tab_t94 ?_
  refine And.intro tab_t95 ?_
  refine And.intro tab_t96 ?_
  refine And.intro tab_t97 ?_
  refine And.intro tab_t98 ?_
  refine And.intro tab_t99 ?_
  refine And.intro tab_t100 ?_
  refine And.intro tab_t101 ?_
  refine And.intro tab_t102 ?_
  refine And.intro tab_t103 ?_
  refine And.intro tab_t104 ?_
  refine And.intro tab_t105 ?_
  refine And.intro tab_t106 ?_
  refine And.intro tab_t107 ?_
  refine And.intro tab_t108 ?_
  refine And.intro tab_t110 ?_
  refine And.intro tab_t111 ?_
  refine And.intro tab_t112 ?_
  refine And.intro tab_t113 ?_
  refine And.intro tab_t114 ?_
  refine And.intro tab_t116 ?_
  refine And.intro tab_t117 ?_
  refine And.intro tab_t118 ?_
  refine And.intro tab_t119 ?_
  refine And.intro tab_t121 ?_
  refine And.intro tab_t122 ?_
  refine And.intro tab_t124 ?_
  refine And.intro tab_t125 ?_
  refine And.intro tab_t126 ?_
  refine And.intro tab_t127 ?_
  refine And.intro tab_t128 ?_
  refine And.intro tab_t129 ?_
  refine And.intro tab_t130 ?_
  refine And.intro tab_t131 ?_
  refine And.intro tab_t132 ?_
  refine And.intro tab_t133 ?_
  refine And.intro tab_t134 ?_
  refine And.intro tab_t135 ?_
  refine And.intro tab_t136 ?_
  refine And.intro tab_t137 ?_
  refine And.intro tab_t138 ?_
  refine And.intro tab_t139 ?_
  refine And.intro tab_t140 ?_
  refine And.intro tab_t141 ?_
  refine And.intro tab_t142 ?_
  refine And.intro tab_t143 ?_
  refine And.intro tab_t144 ?_
  refine And.intro tab_t145 ?_
  refine And.intro tab_t146 ?_
  refine And.intro tab_t148 ?_
  refine And.intro tab_t149 ?_
  refine And.intro tab_t150 ?_
  refine And.intro tab_t151 ?_
  refine And.intro tab_t152 ?_
  refine And.intro tab_t153 ?_
  refine And.intro tab_t154 ?_
  refine And.intro tab_t155 ?_
  refine And.intro tab_t156 ?_
  refine And.intro tab_t157 ?_
  refine And.intro tab_t158 ?_
  refine And.intro tab_t159 ?_
  refine And.intro tab_t160 ?_
  refine And.intro tab_t162 ?_
  refine And.intro tab_t163 ?_
  refine And.intro tab_t164 ?_
  refine And.intro tab_t165 ?_
  refine And.intro tab_t167 ?_
  refine And.intro tab_t168 ?_
  refine And.intro tab_t169 ?_
  refine And.intro tab_t170 ?_
  refine And.intro tab_t171 ?_
  refine And.intro tab_t172 ?_
  refine And.intro tab_t173 ?_
  refine And.intro tab_t174 ?_
  refine And.intro tab_t175 ?_
  refine And.intro tab_t176 ?_
  refine And.intro tab_t177 ?_
  refine And.intro tab_t178 ?_
  refine And.intro tab_t179 ?_
  refine And.intro tab_t180 ?_
  refine And.intro tab_t181 ?_
  refine And.intro tab_t182 ?_
  refine And.intro tab_t183 ?_
  refine And.intro tab_t185 ?_
  refine And.intro tab_t186 ?_
  refine And.intro tab_t187 ?_
  refine And.intro tab_t188 ?_
  refine And.intro tab_t189 ?_
  refine And.intro tab_t190 ?_
  refine And.intro tab_t191 ?_
  refine And.intro tab_t192 ?_
  refine And.intro tab_t193 ?_
  refine And.intro tab_t194 ?_
  refine And.intro tab_t195 ?_
  refine And.intro tab_t197 ?_
  refine And.intro tab_t198 ?_
  refine And.intro tab_t199 ?_
  refine And.intro tab_t200 ?_
  refine And.intro tab_t202 ?_
  refine And.intro tab_t204 ?_
  refine And.intro tab_t205 ?_
  refine And.intro tab_t206 ?_
  refine And.intro tab_t207 ?_
  refine And.intro tab_t208 ?_
  refine And.intro tab_t209 ?_
  refine And.intro tab_t210 ?_
  refine And.intro tab_t211 ?_
  refine And.intro tab_t212 ?_
  refine And.intro tab_t213 ?_
  refine And.intro tab_t214 ?_
  refine And.intro tab_t215 ?_
  refine And.intro tab_t216 ?_
  refine And.intro tab_t217 ?_
  refine And.intro tab_t218 ?_
  refine And.intro tab_t219 ?_
  refine And.intro tab_t220 ?_
  refine And.intro tab_t221 ?_
  refine And.intro tab_t222 ?_
  refine And.intro tab_t223 ?_
  refine And.intro tab_t224 ?_
  refine And.intro tab_t225 ?_
  refine And.intro tab_t226 ?_
  refine And.intro tab_t227 ?_
  refine And.intro tab_t228 ?_
  refine And.intro tab_t229 ?_
  refine And.intro tab_t230 ?_
  refine And.intro tab_t231 ?_
  refine And.intro tab_t232 ?_
  refine And.intro tab_t233 ?_
  refine And.intro tab_t234 ?_
  refine And.intro tab_t235 ?_
  refine And.intro tab_t236 ?_
  refine And.intro tab_t237 ?_
  refine And.intro tab_t238 ?_
  refine And.intro tab_t239 ?_
  refine And.intro tab_t240 ?_
  refine And.intro tab_t241 ?_
  refine And.intro tab_t242 ?_
  refine And.intro tab_t243 ?_
  refine And.intro tab_t245 ?_
  refine And.intro tab_t246 ?_
  refine And.intro tab_t247 ?_
  refine And.intro tab_t248 ?_
  refine And.intro tab_t249 ?_
  refine And.intro tab_t250 ?_
  refine And.intro tab_t251 ?_
  refine And.intro tab_t252 ?_
  refine And.intro tab_t253 ?_
  refine And.intro tab_t254 ?_
  refine And.intro tab_t255 ?_
  refine And.intro tab_t256 ?_
  refine And.intro tab_t257 ?_
  refine And.intro tab_t258 ?_
  refine And.intro tab_t259 ?_
  refine And.intro tab_t260 ?_
  refine And.intro tab_t261 ?_
  refine And.intro tab_t262 ?_
  refine And.intro tab_t263 ?_
  refine And.intro tab_t264 ?_
  refine And.intro tab_t265 ?_
  refine And.intro tab_t266 ?_
  refine And.intro tab_t267 ?_
  refine And.intro tab_t268 ?_
  refine And.intro tab_t270 ?_
  refine And.intro tab_t271 ?_
  refine And.intro tab_t272 ?_
  refine And.intro tab_t273 ?_
  refine And.intro tab_t274 ?_
  refine And.intro tab_t275 ?_
  refine And.intro tab_t276 ?_
  refine And.intro tab_t277 ?_
  refine And.intro tab_t278 ?_
  refine And.intro tab_t279 ?_
  refine And.intro tab_t280 ?_
  refine And.intro tab_t282 ?_
  refine And.intro tab_t283 ?_
  refine And.intro tab_t284 ?_
  refine And.intro tab_t285 ?_
  refine And.intro tab_t286 ?_
  refine And.intro tab_t287 ?_
  refine And.intro tab_t288 ?_
  refine And.intro tab_t289 ?_
  refine And.intro tab_t290 ?_
  refine And.intro tab_t291 ?_
  refine And.intro tab_t292 ?_
  refine And.intro tab_t293 ?_
  refine And.intro tab_t294 ?_
  refine And.intro tab_t295 ?_
  refine And.intro tab_t296 ?_
  refine And.intro tab_t297 ?_
  refine And.intro tab_t298 ?_
  refine And.intro tab_t300 ?_
  refine And.intro tab_t301 ?_
  refine And.intro tab_t302 ?_
  refine And.intro tab_t303 ?_
  refine And.intro tab_t304 ?_
  refine And.intro tab_t305 ?_
  refine And.intro tab_t306 ?_
  refine And.intro tab_t307 ?_
  refine And.intro tab_t308 ?_
  refine And.intro tab_t309 ?_
  refine And.intro tab_t310 ?_
  refine And.intro tab_t311 ?_
  refine And.intro tab_t312 ?_
  refine And.intro tab_t313 ?_
  refine And.intro tab_t314 ?_
  refine And.intro tab_t315 ?_
  refine And.intro tab_t316 ?_
  refine And.intro tab_t317 ?_
  refine And.intro tab_t318 ?_
  refine And.intro tab_t319 ?_
  refine And.intro tab_t320 ?_
  refine And.intro tab_t321 ?_
  exact trivial
theorem tab_ok : TabOk Tryz.prog tabT := fun t ti h => by have := tabAll_ok tabT 0 tab_all t ti h; rwa [Nat.zero_add] at this
theorem fns_all : fnAll Tryz.prog 0 tabG := by
  refine And.intro ⟨Tryz.f2, Tryz.func2, rfl, by kernel_rfl⟩ ?_
  refine And.intro ⟨Tryz.f3, Tryz.func3, rfl, by kernel_rfl⟩ ?_
  refine And.intro ⟨Tryz.f4, Tryz.func4, rfl, by kernel_rfl⟩ ?_
  refine And.intro ⟨Tryz.f5, Tryz.func5, rfl, by kernel_rfl⟩ ?_
  refine And.intro ⟨Tryz.f6, Tryz.func6, rfl, by kernel_rfl⟩ ?_
  refine And.intro ⟨Tryz.f7, Tryz.func7, rfl, by kernel_rfl⟩ ?_
  refine And.intro ⟨Tryz.f8, Tryz.func8, rfl, by kernel_rfl⟩ ?_
  refine And.intro ⟨Tryz.f9, Tryz.func9, rfl, by kernel_rfl⟩ ?_
  refine And.intro ⟨Tryz.f10, Tryz.func10, rfl, by kernel_rfl⟩ ?_
  refine And.intro ⟨Tryz.f11, Tryz.func11, rfl, by kernel_rfl⟩ ?_
  refine And.intro ⟨Tryz.f12, Tryz.func12, rfl, by kernel_rfl⟩ ?_
  refine And.intro ⟨Tryz.f13, Tryz.func13, rfl, by kernel_rfl⟩ ?_
  refine And.intro ⟨Tryz.f14, Tryz.func14, rfl, by kernel_rfl⟩ ?_
  refine And.intro ⟨Tryz.f15, Tryz.func15, rfl, by kernel_rfl⟩ ?_
  refine And.intro ⟨Tryz.f16, Tryz.func16, rfl, by kernel_rfl⟩ ?_
  refine And.intro ⟨Tryz.f17, Tryz.func17, rfl, by kernel_rfl⟩ ?_
  refine And.intro ⟨Tryz.f18, Tryz.func18, rfl, by kernel_rfl⟩ ?_
  refine And.intro ⟨Tryz.f19, Tryz.func19, rfl, by kernel_rfl⟩ ?_
  refine And.intro ⟨Tryz.f20, Tryz.func20, rfl, by kernel_rfl⟩ ?_
  refine And.intro ⟨Tryz.f21, Tryz.func21, rfl, by kernel_rfl⟩ ?_
  refine And.intro ⟨Tryz.f22, Tryz.func22, rfl, by kernel_rfl⟩ ?_
  refine And.intro ⟨Tryz.f23, Tryz.func23, rfl, by kernel_rfl⟩ ?_
  refine And.intro ⟨Tryz.f24, Tryz.func24, rfl, by kernel_rfl⟩ ?_
  refine And.intro ⟨Tryz.f25, Tryz.func25, rfl, by kernel_rfl⟩ ?_
  refine And.intro ⟨Tryz.f26, Tryz.func26, rfl, by kernel_rfl⟩ ?_
  refine And.intro ⟨Tryz.f27, Tryz.func27, rfl, by kernel_rfl⟩ ?_
  refine And.intro ⟨Tryz.f28, Tryz.func28, rfl, by kernel_rfl⟩ ?_
  refine And.intro ⟨Tryz.f29, Tryz.func29, rfl, by kernel_rfl⟩ ?_
  refine And.intro ⟨Tryz.f30, Tryz.func30, rfl, by kernel_rfl⟩ ?_
  refine And.intro ⟨Tryz.f31, Tryz.func31, rfl, by kernel_rfl⟩ ?_
  refine And.intro ⟨Tryz.f32, Tryz.func32, rfl, by kernel_rfl⟩ ?_
  refine And.intro ⟨Tryz.f33, Tryz.func33, rfl, by kernel_rfl⟩ ?_
  refine And.intro ⟨Tryz.f34, Tryz.func34, rfl, by kernel_rfl⟩ ?_
  refine And.intro ⟨Tryz.f35, Tryz.func35, rfl, by kernel_rfl⟩ ?_
  refine And.intro ⟨Tryz.f36, Tryz.func36, rfl, by kernel_rfl⟩ ?_
  refine And.intro ⟨Tryz.f37, Tryz.func37, rfl, by kernel_rfl⟩ ?_
  refine And.intro ⟨Tryz.f38, Tryz.func38, rfl, by kernel_rfl⟩ ?_
  refine And.intro ⟨Tryz.f39, Tryz.func39, rfl, by kernel_rfl⟩ ?_
  refine And.intro ⟨Tryz.f40, Tryz.func40, rfl, by kernel_rfl⟩ ?_
  refine And.intro ⟨Tryz.f41, Tryz.func41, rfl, by kernel_rfl⟩ ?_
  refine And.intro ⟨Tryz.f42, Tryz.func42, rfl, by kernel_rfl⟩ ?_
  refine And.intro ⟨Tryz.f43, Tryz.func43, rfl, by kernel_rfl⟩ ?_
  refine And.intro ⟨Tryz.f44, Tryz.func44, rfl, by kernel_rfl⟩ ?_
  refine And.intro ⟨Tryz.f45, Tryz.func45, rfl, by kernel_rfl⟩ ?_
  refine And.intro ⟨Tryz.f46, Tryz.func46, rfl, by kernel_rfl⟩ ?_
  refine And.intro ⟨Tryz.f47, Tryz.func47, rfl, by kernel_rfl⟩ ?_
  refine And.intro ⟨Tryz.f48, Tryz.func48, rfl, by kernel_rfl⟩ ?_
  refine And.intro ⟨Tryz.f49, Tryz.func49, rfl, by kernel_rfl⟩ ?_
  refine And.intro ⟨Tryz.f50, Tryz.func50, rfl, by kernel_rfl⟩ ?_
  refine And.intro ⟨Tryz.f51, Tryz.func51, rfl, by kernel_rfl⟩ ?_
  refine And.intro ⟨Tryz.f52, Tryz.func52, rfl, by kernel_rfl⟩ ?_
  refine And.intro ⟨Tryz.f53, Tryz.func53, rfl, by kernel_rfl⟩ ?_
  refine And.intro ⟨Tryz.f54, Tryz.func54, rfl, by kernel_rfl⟩ ?_
  refine And.intro ⟨Tryz.f56, Tryz.func56, rfl, by kernel_rfl⟩ ?_
  refine And.intro ⟨Tryz.f57, Tryz.func57, rfl, by kernel_rfl⟩ ?_
  refine And.intro ⟨Tryz.f59, Tryz.func59, rfl, by kernel_rfl⟩ ?_
  refine And.intro ⟨Tryz.f60, Tryz.func60, rfl, by kernel_rfl⟩ ?_
  refine And.intro ⟨Tryz.f61, Tryz.func61, rfl, by kernel_rfl⟩ ?_
  refine And.intro ⟨Tryz.f62, Tryz.func62, rfl, by kernel_rfl⟩ ?_
  refine And.intro ⟨Tryz.f63, Tryz.func63, rfl, by kernel_rfl⟩ ?_
  refine And.intro ⟨Tryz.f64, Tryz.func64, rfl, by kernel_rfl⟩ ?_
  refine And.intro ⟨Tryz.f65, Tryz.func65, rfl, by kernel_rfl⟩ ?_
  refine And.intro ⟨Tryz.f66, Tryz.func66, rfl, by kernel_rfl⟩ ?_
  refine And.intro ⟨Tryz.f67, Tryz.func67, rfl, by kernel_rfl⟩ ?_
  refine And.intro ⟨Tryz.f68, Tryz.func68, rfl, by kernel_rfl⟩ ?_
  refine And.intro ⟨Tryz.f69, Tryz.func69, rfl, by kernel_rfl⟩ ?_
  refine And.intro ⟨Tryz.f70, Tryz.func70, rfl, by kernel_rfl⟩ ?_
  refine And.intro ⟨Tryz.f71, Tryz.func71, rfl, by kernel_rfl⟩ ?_
  refine And.intro ⟨Tryz.f72, Tryz.func72, rfl, by kernel_rfl⟩ ?_
  refine And.intro ⟨Tryz.f73, Tryz.func73, rfl, by kernel_rfl⟩ ?_
  refine And.intro ⟨Tryz.f74, Tryz.func74, rfl, by kernel_rfl⟩ ?_
  refine And.intro ⟨Tryz.f75, Tryz.func75, rfl, by kernel_rfl⟩ ?_
  refine And.intro ⟨Tryz.f76, Tryz.func76, rfl, by kernel_rfl⟩ ?_
  refine And.intro ⟨Tryz.f77, Tryz.func77, rfl, by kernel_rfl⟩ ?_
  refine And.intro ⟨Tryz.f78, Tryz.func78, rfl, by kernel_rfl⟩ ?_
  refine And.intro ⟨Tryz.f79, Tryz.func79, rfl, by kernel_rfl⟩ ?_
  refine And.intro ⟨Tryz.f80, Tryz.func80, rfl, by kernel_rfl⟩ ?_
  refine And.intro ⟨Tryz.f81, Tryz.func81, rfl, by kernel_rfl⟩ ?_
  refine And.intro ⟨Tryz.f82, Tryz.func82, rfl, by kernel_rfl⟩ ?_
  refine And.intro ⟨Tryz.f83, Tryz.func83, rfl, by kernel_rfl⟩ ?_
  refine And.intro ⟨Tryz.f84, Tryz.func84, rfl, by kernel_rfl⟩ ?_
  refine And.intro ⟨Tryz.f85, Tryz.func85, rfl, by kernel_rfl⟩ ?_
  refine And.intro ⟨Tryz.f86, Tryz.func86, rfl, by kernel_rfl⟩ ?_
  refine And.intro ⟨Tryz.f87, Tryz.func87, rfl, by kernel_rfl⟩ ?_
  refine And.intro ⟨Tryz.f88, Tryz.func88, rfl, by kernel_rfl⟩ ?_
  refine And.intro ⟨Tryz.f89, Tryz.func89, rfl, by kernel_rfl⟩ ?_
  refine And.intro ⟨Tryz.f90, Tryz.func90, rfl, by kernel_rfl⟩ ?_
  refine And.intro ⟨Tryz.f91, Tryz.func91, rfl, by kernel_rfl⟩ ?_
  refine And.intro ⟨Tryz.f92, Tryz.func92, rfl, by kernel_rfl⟩ ?_
  refine And.intro ⟨Tryz.f93, Tryz.func93, rfl, by kernel_rfl⟩ ?_
  refine And.intro ⟨Tryz.f94, Tryz.func94, rfl, by kernel_rfl⟩ ?_
  refine And.intro ⟨Tryz.f95, Tryz.func95, rfl, by kernel_rfl⟩ ?_
  refine And.intro ⟨Tryz.f96, Tryz.func96, rfl, by kernel_rfl⟩ ?_
  refine And.intro ⟨Tryz.f97, Tryz.func97, rfl, by kernel_rfl⟩ ?_
  refine And.intro ⟨Tryz.f98, Tryz.func98, rfl, by kernel_rfl⟩ ?_
  refine And.intro ⟨Tryz.f99, Tryz.func99, rfl, by kernel_rfl⟩ ?_
  refine And.intro ⟨Tryz.f100, Tryz.func100, rfl, by kernel_rfl⟩ ?_
  refine And.intro ⟨Tryz.f101, Tryz.func101, rfl, by kernel_rfl⟩ ?_
  refine And.intro ⟨Tryz.f102, Tryz.func102, rfl, by kernel_rfl⟩ ?_
  refine And.intro ⟨Tryz.f103, Tryz.func103, rfl, by kernel_rfl⟩ ?_
  refine And.intro ⟨Tryz.f104, Tryz.func104, rfl, by kernel_rfl⟩ ?_
  refine And.intro ⟨Tryz.f105, Tryz.func105, rfl, by kernel_rfl⟩ ?_
  refine And.intro ⟨Tryz.f106, Tryz.func106, rfl, by kernel_rfl⟩ ?_
  refine And.intro ⟨Tryz.f107, Tryz.func107, rfl, by kernel_rfl⟩ ?_
  refine And.intro ⟨Tryz.f108, Tryz.func108, rfl, by kernel_rfl⟩ ?_
  refine And.intro ⟨Tryz.f109, Tryz.func109, rfl, by kernel_rfl⟩ ?_
  refine And.intro ⟨Tryz.f110, Tryz.func110, rfl, by kernel_rfl⟩ ?_
  refine And.intro ⟨Tryz.f111, Tryz.func111, rfl, by kernel_rfl⟩ ?_
  refine And.intro ⟨Tryz.f112, Tryz.func112, rfl, by kernel_rfl⟩ ?_
  refine And.intro ⟨Tryz.f113, Tryz.func113, rfl, by kernel_rfl⟩ ?_
  refine And.intro ⟨Tryz.f114, Tryz.func114, rfl, by kernel_rfl⟩ ?_
  refine And.intro ⟨Tryz.f115, Tryz.func115, rfl, by kernel_rfl⟩ ?_
  refine And.intro ⟨Tryz.f116, Tryz.func116, rfl, by kernel_rfl⟩ ?_
  refine And.intro ⟨Tryz.f117, Tryz.func117, rfl, by kernel_rfl⟩ ?_
  refine And.intro ⟨Tryz.f118, Tryz.func118, rfl, by kernel_rfl⟩ ?_
  refine And.intro ⟨Tryz.f119, Tryz.func119, rfl, by kernel_rfl⟩ ?_
  refine And.intro ⟨Tryz.f120, Tryz.func120, rfl, by kernel_rfl⟩ ?_
  refine And.intro ⟨Tryz.f122, Tryz.func122, rfl, by kernel_rfl⟩ ?_
  refine And.intro ⟨Tryz.f123, Tryz.func123, rfl, by kernel_rfl⟩ ?_
  refine And.intro ⟨Tryz.f124, Tryz.func124, rfl, by kernel_rfl⟩ ?_
  refine And.intro ⟨Tryz.f125, Tryz.func125, rfl, by kernel_rfl⟩ ?_
  refine And.intro ⟨Tryz.f126, Tryz.func126, rfl, by kernel_rfl⟩ ?_
  refine And.intro ⟨Tryz.f127, Tryz.func127, rfl, by kernel_rfl⟩ ?_
  refine And.intro ⟨Tryz.f128, Tryz.func128, rfl, by kernel_rfl⟩ ?_
  refine And.intro ⟨Tryz.f129, Tryz.func129, rfl, by kernel_rfl⟩ ?_
  refine And.intro ⟨Tryz.f130, Tryz.func130, rfl, by kernel_rfl⟩ ?_
  refine And.intro ⟨Tryz.f131, Tryz.func131, rfl, by kernel_rfl⟩ ?_
  refine And.intro ⟨Tryz.f132, Tryz.func132, rfl, by kernel_rfl⟩ ?_
  refine And.intro ⟨Tryz.f133, Tryz.func133, rfl, by kernel_rfl⟩ ?_
  refine And.intro ⟨Tryz.f134, Tryz.func134, rfl, by kernel_rfl⟩ ?_
  refine And.intro ⟨Tryz.f135, Tryz.func135, rfl, by kernel_rfl⟩ ?_
  refine And.intro ⟨Tryz.f136, Tryz.func136, rfl, by kernel_rfl⟩ ?_
  refine And.intro ⟨Tryz.f137, Tryz.func137, rfl, by kernel_rfl⟩ ?_
  refine And.intro ⟨Tryz.f138, Tryz.func138, rfl, by kernel_rfl⟩ ?_
  refine And.intro ⟨Tryz.f139, Tryz.func139, rfl, by kernel_rfl⟩ ?_
  refine And.intro ⟨Tryz.f140, Tryz.func140, rfl, by kernel_rfl⟩ ?_
  refine And.intro ⟨Tryz.f141, Tryz.func141, rfl, by kernel_rfl⟩ ?_
  refine And.intro ⟨Tryz.f142, Tryz.func142, rfl, by kernel_rfl⟩ ?_
  refine And.intro ⟨Tryz.f143, Tryz.func143, rfl, by kernel_rfl⟩ ?_
  refine And.intro ⟨Tryz.f144, Tryz.func144, rfl, by kernel_rfl⟩ ?_
  refine And.intro ⟨Tryz.f145, Tryz.func145, rfl, by kernel_rfl⟩ ?_
  refine And.intro ⟨Tryz.f146, Tryz.func146, rfl, by kernel_rfl⟩ ?_
  refine And.intro ⟨Tryz.f147, Tryz.func147, rfl, by kernel_rfl⟩ ?_
  refine And.intro ⟨Tryz.f148, Tryz.func148, rfl, by kernel_rfl⟩ ?_
  refine And.intro ⟨Tryz.f149, Tryz.func149, rfl, by kernel_rfl⟩ ?_
  refine And.intro ⟨Tryz.f150, Tryz.func150, rfl, by kernel_rfl⟩ ?_
  refine And.intro ⟨Tryz.f151, Tryz.func151, rfl, by kernel_rfl⟩ ?_
  refine And.intro ⟨Tryz.f152, Tryz.func152, rfl, by kernel_rfl⟩ ?_
  refine And.intro ⟨Tryz.f153, Tryz.func153, rfl, by kernel_rfl⟩ ?_
  refine And.intro ⟨Tryz.f154, Tryz.func154, rfl, by kernel_rfl⟩ ?_
  refine And.intro ⟨Tryz.f155, Tryz.func155, rfl, by kernel_rfl⟩ ?_
  refine And.intro ⟨Tryz.f156, Tryz.func156, rfl, by kernel_rfl⟩ ?_
  refine And.intro ⟨Tryz.f157, Tryz.func157, rfl, by kernel_rfl⟩ ?_
  refine And.intro ⟨Tryz.f158, Tryz.func158, rfl, by kernel_rfl⟩ ?_
  refine And.intro ⟨Tryz.f159, Tryz.func159, rfl, by kernel_rfl⟩ ?_
  refine And.intro ⟨Tryz.f160, Tryz.func160, rfl, by kernel_rfl⟩ ?_
  refine And.intro ⟨Tryz.f161, Tryz.func161, rfl, by kernel_rfl⟩ ?_
  refine And.intro ⟨Tryz.f162, Tryz.func162, rfl, by kernel_rfl⟩ ?_
  refine And.intro ⟨Tryz.f163, Tryz.func163, rfl, by kernel_rfl⟩ ?_
  refine And.intro ⟨Tryz.f164, Tryz.func164, rfl, by kernel_rfl⟩ ?_
  refine And.intro ⟨Tryz.f165, Tryz.func165, rfl, by kernel_rfl⟩ ?_
  refine And.intro ⟨Tryz.f166, Tryz.func166, rfl, by kernel_rfl⟩ ?_
  refine And.intro ⟨Tryz.f167, Tryz.func167, rfl, by kernel_rfl⟩ ?_
  refine And.intro ⟨Tryz.f169, Tryz.func169, rfl, by kernel_rfl⟩ ?_
  refine And.intro ⟨Tryz.f170, Tryz.func170, rfl, by kernel_rfl⟩ ?_
  refine And.intro ⟨Tryz.f171, Tryz.func171, rfl, by kernel_rfl⟩ ?_
  refine And.intro ⟨Tryz.f172, Tryz.func172, rfl, by kernel_rfl⟩ ?_
  refine And.intro ⟨Tryz.f173, Tryz.func173, rfl, by kernel_rfl⟩ ?_
  refine And.intro ⟨Tryz.f174, Tryz.func174, rfl, by kernel_rfl⟩ ?_
  refine And.intro ⟨Tryz.f175, Tryz.func175, rfl, by kernel_rfl⟩ ?_
  refine And.intro ⟨Tryz.f176, Tryz.func176, rfl, by kernel_rfl⟩ ?_
  refine And.intro ⟨Tryz.f177, Tryz.func177, rfl, by kernel_rfl⟩ ?_
  refine And.intro ⟨Tryz.f178, Tryz.func178, rfl, by kernel_rfl⟩ ?_
  refine And.intro ⟨Tryz.f179, Tryz.func179, rfl, by kernel_rfl⟩ ?_
  refine And.intro ⟨Tryz.f180, Tryz.func180, rfl, by kernel_rfl⟩ ?_
  refine And.intro ⟨Tryz.f181, Tryz.func181, rfl, by kernel_rfl⟩ ?_
  refine And.intro ⟨Tryz.f182, Tryz.func182, rfl, by kernel_rfl⟩ ?_
  refine And.intro ⟨Tryz.f184, Tryz.func184, rfl, by kernel_rfl⟩ ?_
  refine And.intro ⟨Tryz.f186, Tryz.func186, rfl, by kernel_rfl⟩ ?_
  refine And.intro ⟨Tryz.f187, Tryz.func187, rfl, by kernel_rfl⟩ ?_
  refine And.intro ⟨Tryz.f188, Tryz.func188, rfl, by kernel_rfl⟩ ?_
  refine And.intro ⟨Tryz.f189, Tryz.func189, rfl, by kernel_rfl⟩ ?_
  refine And.intro ⟨Tryz.f190, Tryz.func190, rfl, by kernel_rfl⟩ ?_
  refine And.intro ⟨Tryz.f191, Tryz.func191, rfl, by kernel_rfl⟩ ?_
  refine And.intro ⟨Tryz.f192, Tryz.func192, rfl, by kernel_rfl⟩ ?_
  refine And.intro ⟨Tryz.f193, Tryz.func193, rfl, by kernel_rfl⟩ ?_
  refine And.intro ⟨Tryz.f194, Tryz.func194, rfl, by kernel_rfl⟩ ?_
  refine And.intro ⟨Tryz.f195, Tryz.func195, rfl, by kernel_rfl⟩ ?_
  refine And.intro ⟨Tryz.f196, Tryz.func196, rfl, by kernel_rfl⟩ ?_
  refine And.intro ⟨Tryz.f201, Tryz.func201, rfl, by kernel_rfl⟩ ?_
  refine And.intro ⟨Tryz.f204, Tryz.func204, rfl, by kernel_rfl⟩ ?_
  refine And.intro ⟨Tryz.f205, Tryz.func205, rfl, by kernel_rfl⟩ ?_
  refine And.intro ⟨Tryz.f206, Tryz.func206, rfl, by kernel_rfl⟩ ?_
  refine And.intro ⟨Tryz.f207, Tryz.func207, rfl, by kernel_rfl⟩ ?_
  refine And.intro ⟨Tryz.f208, Tryz.func208, rfl, by kernel_rfl⟩ ?_
  refine And.intro ⟨Tryz.f209, Tryz.func209, rfl, by kernel_rfl⟩ ?_
  refine And.intro ⟨Tryz.f210, Tryz.func210, rfl, by kernel_rfl⟩ ?_
  refine And.intro ⟨Tryz.f211, Tryz.func211, rfl, by kernel_rfl⟩ ?_
  refine And.intro ⟨Tryz.f212, Tryz.func212, rfl, by kernel_rfl⟩ ?_
  refine And.intro ⟨Tryz.f213, Tryz.func213, rfl, by kernel_rfl⟩ ?_
  refine And.intro ⟨Tryz.f214, Tryz.func214, rfl, by kernel_rfl⟩ ?_
  refine And.intro ⟨Tryz.f215, Tryz.func215, rfl, by kernel_rfl⟩ ?_
  refine And.intro ⟨Tryz.f216, Tryz.func216, rfl, by kernel_rfl⟩ ?_
  refine And.intro ⟨Tryz.f217, Tryz.func217, rfl, by kernel_rfl⟩ ?_
  refine And.intro ⟨Tryz.f218, Tryz.func218, rfl, by kernel_rfl⟩ ?_
  refine And.intro ⟨Tryz.f219, Tryz.func219, rfl, by kernel_rfl⟩ ?_
  refine And.intro ⟨Tryz.f220, Tryz.func220, rfl, by kernel_rfl⟩ ?_
  refine And.intro ⟨Tryz.f221, Tryz.func221, rfl, by kernel_rfl⟩ ?_
  refine And.intro ⟨Tryz.f222, Tryz.func222, rfl, by kernel_rfl⟩ ?_
  refine And.intro ⟨Tryz.f223, Tryz.func223, rfl, by kernel_rfl⟩ ?_
  refine And.intro ⟨Tryz.f224, Tryz.func224, rfl, by kernel_rfl⟩ ?_
  refine And.intro ⟨Tryz.f225, Tryz.func225, rfl, by kernel_rfl⟩ ?_
  refine And.intro ⟨Tryz.f226, Tryz.func226, rfl, by kernel_rfl⟩ ?_
  refine And.intro ⟨Tryz.f227, Tryz.func227, rfl, by kernel_rfl⟩ ?_
  refine And.intro ⟨Tryz.f228, Tryz.func228, rfl, by kernel_rfl⟩ ?_
  refine And.intro ⟨Tryz.f229, Tryz.func229, rfl, by kernel_rfl⟩ ?_
  refine And.intro ⟨Tryz.f237, Tryz.func237, rfl, by kernel_rfl⟩ ?_
  refine And.intro ⟨Tryz.f238, Tryz.func238, rfl, by kernel_rfl⟩ ?_
  refine And.intro ⟨Tryz.f239, Tryz.func239, rfl, by kernel_rfl⟩ ?_
  refine And.intro ⟨Tryz.f240, Tryz.func240, rfl, by kernel_rfl⟩ ?_
  refine And.intro ⟨Tryz.f241, Tryz.func241, rfl, by kernel_rfl⟩ ?_
  refine And.intro ⟨Tryz.f242, Tryz.func242, rfl, by kernel_rfl⟩ ?_
  refine And.intro ⟨Tryz.f243, Tryz.func243, rfl, by kernel_rfl⟩ ?_
  refine And.intro ⟨Tryz.f244, Tryz.func244, rfl, by kernel_rfl⟩ ?_
  refine And.intro ⟨Tryz.f245, Tryz.func245, rfl, by kernel_rfl⟩ ?_
  refine And.intro ⟨Tryz.f246, Tryz.func246, rfl, by kernel_rfl⟩ ?_
  refine And.intro ⟨Tryz.f247, Tryz.func247, rfl, by kernel_rfl⟩ ?_
  refine And.intro ⟨Tryz.f248, Tryz.func248, rfl, by kernel_rfl⟩ ?_
  refine And.intro ⟨Tryz.f249, Tryz.func249, rfl, by kernel_rfl⟩ ?_
  refine And.intro ⟨Tryz.f250, Tryz.func250, rfl, by kernel_rfl⟩ ?_
  refine And.intro ⟨Tryz.f251, Tryz.func251, rfl, by kernel_rfl⟩ ?_
  refine And.intro ⟨Tryz.f252, Tryz.func252, rfl, by kernel_rfl⟩ ?_
  refine And.intro ⟨Tryz.f253, Tryz.func253, rfl, by kernel_rfl⟩ ?_
  refine And.intro ⟨Tryz.f254, Tryz.func254, rfl, by kernel_rfl⟩ ?_
  refine And.intro ⟨Tryz.f255, Tryz.func255, rfl, by kernel_rfl⟩ ?_
  refine And.intro ⟨Tryz.f256, Tryz.func256, rfl, by kernel_rfl⟩ ?_
  refine And.intro ⟨Tryz.f257, Tryz.func257, rfl, by kernel_rfl⟩ ?_
  refine And.intro ⟨Tryz.f258, Tryz.func258, rfl, by kernel_rfl⟩ ?_
  refine And.intro ⟨Tryz.f259, Tryz.func259, rfl, by kernel_rfl⟩ ?_
  refine And.intro ⟨Tryz.f260, Tryz.func260, rfl, by kernel_rfl⟩ ?_
  refine And.intro ⟨Tryz.f261, Tryz.func261, rfl, by kernel_rfl⟩ ?_
  refine And.intro ⟨Tryz.f262, Tryz.func262, rfl, by kernel_rfl⟩ ?_
  refine And.intro ⟨Tryz.f287, Tryz.func287, rfl, by kernel_rfl⟩ ?_
  exact trivial
theorem fns_ok : FnsOk Tryz.prog tabG := fun f h => by have := fnAll_ok tabG 0 fns_all f h; rwa [Nat.zero_add] at this
theorem exE {p : Prop} {i : Nat} (h : inE tabE i = true) : inE tabE i = false → p := fun h2 => by rw [h] at h2; cases h2
theorem ex13 {p : Prop} : inE tabE 13 = false → p := exE (by kernel_rfl)
theorem ex14 {p : Prop} : inE tabE 14 = false → p := exE (by kernel_rfl)
theorem ex18 {p : Prop} : inE tabE 18 = false → p := exE (by kernel_rfl)
theorem ex19 {p : Prop} : inE tabE 19 = false → p := exE (by kernel_rfl)
theorem ex67 {p : Prop} : inE tabE 67 = false → p := exE (by kernel_rfl)
theorem ex68 {p : Prop} : inE tabE 68 = false → p := exE (by kernel_rfl)
theorem ex71 {p : Prop} : inE tabE 71 = false → p := exE (by kernel_rfl)
theorem ex72 {p : Prop} : inE tabE 72 = false → p := exE (by kernel_rfl)
theorem ex73 {p : Prop} : inE tabE 73 = false → p := exE (by kernel_rfl)
theorem ex74 {p : Prop} : inE tabE 74 = false → p := exE (by kernel_rfl)
theorem ex78 {p : Prop} : inE tabE 78 = false → p := exE (by kernel_rfl)
theorem ex79 {p : Prop} : inE tabE 79 = false → p := exE (by kernel_rfl)
theorem ex310 {p : Prop} : inE tabE 310 = false → p := exE (by kernel_rfl)
theorem ex311 {p : Prop} : inE tabE 311 = false → p := exE (by kernel_rfl)
theorem ex313 {p : Prop} : inE tabE 313 = false → p := exE (by kernel_rfl)
theorem ex314 {p : Prop} : inE tabE 314 = false → p := exE (by kernel_rfl)
theorem ex320 {p : Prop} : inE tabE 320 = false → p := exE (by kernel_rfl)
theorem ex321 {p : Prop} : inE tabE 321 = false → p := exE (by kernel_rfl)
theorem held_all : heldAll Tryz.prog tabE 0 tabT := by
  refine And.intro (fun _ => trivial) ?_
  refine And.intro (fun _ => trivial) ?_
  refine And.intro (fun _ => trivial) ?_
  refine And.intro (fun _ => trivial) ?_
  refine And.intro (fun _ => trivial) ?_
  refine And.intro (fun _ => trivial) ?_
  refine And.intro (fun _ => ⟨Tryz.stoodInHeld7, by kernel_rfl⟩) ?_
  refine And.intro (fun _ => ⟨Tryz.stoodInHeld8, by kernel_rfl⟩) ?_
  refine And.intro (fun _ => trivial) ?_
  refine And.intro (fun _ => trivial) ?_
  refine And.intro (fun _ => trivial) ?_
  refine And.intro (fun _ => trivial) ?_
  refine And.intro ex13 ?_
  refine And.intro ex14 ?_
  refine And.intro (fun _ => trivial) ?_
  refine And.intro (fun _ => trivial) ?_
  refine And.intro (fun _ => trivial) ?_
  refine And.intro ex18 ?_
  refine And.intro ex19 ?_
  refine And.intro (fun _ => trivial) ?_
  refine And.intro (fun _ => trivial) ?_
  refine And.intro (fun _ => trivial) ?_
  refine And.intro (fun _ => trivial) ?_
  refine And.intro (fun _ => ⟨Tryz.stoodInHeld24, by kernel_rfl⟩) ?_
  refine And.intro (fun _ => ⟨Tryz.stoodInHeld25, by kernel_rfl⟩) ?_
  refine And.intro (fun _ => trivial) ?_
  refine And.intro (fun _ => trivial) ?_
  refine And.intro (fun _ => trivial) ?_
  refine And.intro (fun _ => trivial) ?_
  refine And.intro (fun _ => trivial) ?_
  refine And.intro (fun _ => trivial) ?_
  refine And.intro (fun _ => trivial) ?_
  refine And.intro (fun _ => trivial) ?_
  refine And.intro (fun _ => trivial) ?_
  refine And.intro (fun _ => trivial) ?_
  refine And.intro (fun _ => trivial) ?_
  refine And.intro (fun _ => trivial) ?_
  refine And.intro (fun _ => trivial) ?_
  refine And.intro (fun _ => trivial) ?_
  refine And.intro (fun _ => trivial) ?_
  refine And.intro (fun _ => ⟨Tryz.stoodInHeld43, by kernel_rfl⟩) ?_
  refine And.intro (fun _ => ⟨Tryz.stoodInHeld44, by kernel_rfl⟩) ?_
  refine And.intro (fun _ => trivial) ?_
  refine And.intro (fun _ => trivial) ?_
  refine And.intro (fun _ => trivial) ?_
  refine And.intro (fun _ => trivial) ?_
  refine And.intro (fun _ => trivial) ?_
  refine And.intro (fun _ => trivial) ?_
  refine And.intro (fun _ => ⟨Tryz.stoodInHeld51, by kernel_rfl⟩) ?_
  refine And.intro (fun _ => ⟨Tryz.stoodInHeld52, by kernel_rfl⟩) ?_
  refine And.intro (fun _ => trivial) ?_
  refine And.intro (fun _ => ⟨Tryz.stoodInHeld54, by kernel_rfl⟩) ?_
  refine And.intro (fun _ => ⟨Tryz.stoodInHeld55, by kernel_rfl⟩) ?_
  refine And.intro (fun _ => trivial) ?_
  refine And.intro (fun _ => trivial) ?_
  refine And.intro (fun _ => trivial) ?_
  refine And.intro (fun _ => trivial) ?_
  refine And.intro (fun _ => trivial) ?_
  refine And.intro (fun _ => trivial) ?_
  refine And.intro (fun _ => ⟨Tryz.stoodInHeld63, by kernel_rfl⟩) ?_
  refine And.intro (fun _ => ⟨Tryz.stoodInHeld64, by kernel_rfl⟩) ?_
  refine And.intro (fun _ => ⟨Tryz.stoodInHeld65, by kernel_rfl⟩) ?_
  refine And.intro (fun _ => trivial) ?_
  refine And.intro ex67 ?_
  refine And.intro ex68 ?_
  refine And.intro (fun _ => ⟨Tryz.stoodInHeld69, by kernel_rfl⟩) ?_
  refine And.intro (fun _ => ⟨Tryz.stoodInHeld70, by kernel_rfl⟩) ?_
  refine And.intro ex71 ?_
  refine And.intro ex72 ?_
  refine And.intro ex73 ?_
  refine And.intro ex74 ?_
  refine And.intro (fun _ => ⟨Tryz.stoodInHeld75, by kernel_rfl⟩) ?_
  refine And.intro (fun _ => ⟨Tryz.stoodInHeld76, by kernel_rfl⟩) ?_
  refine And.intro (fun _ => ⟨Tryz.stoodInHeld77, by kernel_rfl⟩) ?_
  refine And.intro ex78 ?_
  refine And.intro ex79 ?_
  refine And.intro (fun _ => ⟨Tryz.stoodInHeld80, by kernel_rfl⟩) ?_
  refine And.intro (fun _ => ⟨Tryz.stoodInHeld81, by kernel_rfl⟩) ?_
  refine And.intro (fun _ => trivial) ?_
  refine And.intro (fun _ => trivial) ?_
  refine And.intro (fun _ => trivial) ?_
  refine And.intro (fun _ => trivial) ?_
  refine And.intro (fun _ => trivial) ?_
  refine And.intro (fun _ => trivial) ?_
  refine And.intro (fun _ => trivial) ?_
  refine And.intro (fun _ => trivial) ?_
  refine And.intro (fun _ => trivial) ?_
  refine And.intro (fun _ => trivial) ?_
  refine And.intro (fun _ => trivial) ?_
  refine And.intro (fun _ => trivial) ?_
  refine And.intro (fun _ => trivial) ?_
  refine And.intro (fun _ => trivial) ?_
  refine And.intro (fun _ => ⟨Tryz.stoodInHeld97, by kernel_rfl⟩) ?_
  refine And.intro (fun _ => ⟨Tryz.stoodInHeld98, by kernel_rfl⟩) ?_
  refine And.intro (fun _ => ⟨Tryz.stoodInHeld99, by kernel_rfl⟩) ?_
  refine And.intro (fun _ => ⟨Tryz.stoodInHeld100, by kernel_rfl⟩) ?_
  refine And.intro (fun _ => trivial) ?_
  refine And.intro (fun _ => trivial) ?_
  refine And.intro (fun _ => trivial) ?_
  refine And.intro (fun _ => trivial) ?_
  refine And.intro (fun _ => trivial) ?_
  refine And.intro (fun _ => trivial) ?_
  refine And.intro (fun _ => trivial) ?_
  refine And.intro (fun _ => trivial) ?_
  refine And.intro (fun _ => trivial) ?_
  refine And.intro (fun _ => trivial) ?_
  refine And.intro (fun _ => trivial) ?_
  refine And.intro (fun _ => trivial) ?_
  refine And.intro (fun _ => trivial) ?_
  refine And.intro (fun _ => trivial) ?_
  refine And.intro (fun _ => trivial) ?_
  refine And.intro (fun _ => trivial) ?_
  refine And.intro (fun _ => trivial) ?_
  refine And.intro (fun _ => trivial) ?_
  refine And.intro (fun _ => trivial) ?_
  refine And.intro (fun _ => trivial) ?_
  refine And.intro (fun _ => trivial) ?_
  refine And.intro (fun _ => trivial) ?_
  refine And.intro (fun _ => trivial) ?_
  refine And.intro (fun _ => trivial) ?_
  refine And.intro (fun _ => trivial) ?_
  refine And.intro (fun _ => trivial) ?_
  refine And.intro (fun _ => trivial) ?_
  refine And.intro (fun _ => trivial) ?_
  refine And.intro (fun _ => trivial) ?_
  refine And.intro (fun _ => trivial) ?_
  refine And.intro (fun _ => trivial) ?_
  refine And.intro (fun _ => trivial) ?_
  refine And.intro (fun _ => trivial) ?_
  refine And.intro (fun _ => trivial) ?_
  refine And.intro (fun _ => trivial) ?_
  refine And.intro (fun _ => trivial) ?_
  refine And.intro (fun _ => ⟨Tryz.stoodInHeld141, by kernel_rfl⟩) ?_
  refine And.intro (fun _ => ⟨Tryz.stoodInHeld142, by kernel_rfl⟩) ?_
  refine And.intro (fun _ => trivial) ?_
  refine And.intro (fun _ => trivial) ?_
  refine And.intro (fun _ => ⟨Tryz.stoodInHeld145, by kernel_rfl⟩) ?_
  refine And.intro (fun _ => ⟨Tryz.stoodInHeld146, by kernel_rfl⟩) ?_
  refine And.intro (fun _ => trivial) ?_
  refine And.intro (fun _ => trivial) ?_
  refine And.intro (fun _ => trivial) ?_
  refine And.intro (fun _ => trivial) ?_
  refine And.intro (fun _ => trivial) ?_
  refine And.intro (fun _ => trivial) ?_
  refine And.intro (fun _ => trivial) ?_
  refine And.intro (fun _ => trivial) ?_
  refine And.intro (fun _ => trivial) ?_
  refine And.intro (fun _ => trivial) ?_
  refine And.intro (fun _ => trivial) ?_
  refine And.intro (fun _ => trivial) ?_
  refine And.intro (fun _ => trivial) ?_
  refine And.intro (fun _ => trivial) ?_
  refine And.intro (fun _ => trivial) ?_
  refine And.intro (fun _ => trivial) ?_
  refine And.intro (fun _ => trivial) ?_
  refine And.intro (fun _ => trivial) ?_
  refine And.intro (fun _ => trivial) ?_
  refine And.intro (fun _ => trivial) ?_
  refine And.intro (fun _ => trivial) ?_
  refine And.intro (fun _ => trivial) ?_
  refine And.intro (fun _ => trivial) ?_
  refine And.intro (fun _ => trivial) ?_
  refine And.intro (fun _ => trivial) ?_
  refine And.intro (fun _ => trivial) ?_
  refine And.intro (fun _ => trivial) ?_
  refine And.intro (fun _ => ⟨Tryz.stoodInHeld177, by kernel_rfl⟩) ?_
  refine And.intro (fun _ => ⟨Tryz.stoodInHeld178, by kernel_rfl⟩) ?_
  refine And.intro (fun _ => trivial) ?_
  refine And.intro (fun _ => trivial) ?_
  refine And.intro (fun _ => ⟨Tryz.stoodInHeld181, by kernel_rfl⟩) ?_
  refine And.intro (fun _ => ⟨Tryz.stoodInHeld182, by kernel_rfl⟩) ?_
  refine And.intro (fun _ => trivial) ?_
  refine And.intro (fun _ => trivial) ?_
  refine And.intro (fun _ => trivial) ?_
  refine And.intro (fun _ => trivial) ?_
  refine And.intro (fun _ => trivial) ?_
  refine And.intro (fun _ => ⟨Tryz.stoodInHeld189, by kernel_rfl⟩) ?_
  refine And.intro (fun _ => ⟨Tryz.stoodInHeld190, by kernel_rfl⟩) ?_
  refine And.intro (fun _ => trivial) ?_
  refine And.intro (fun _ => ⟨Tryz.stoodInHeld192, by kernel_rfl⟩) ?_
  refine And.intro (fun _ => ⟨Tryz.stoodInHeld193, by kernel_rfl⟩) ?_
  refine And.intro (fun _ => trivial) ?_
  refine And.intro (fun _ => trivial) ?_
  refine And.intro (fun _ => trivial) ?_
  refine And.intro (fun _ => trivial) ?_
  refine And.intro (fun _ => trivial) ?_
  refine And.intro (fun _ => trivial) ?_
  refine And.intro (fun _ => trivial) ?_
  refine And.intro (fun _ => trivial) ?_
  refine And.intro (fun _ => trivial) ?_
  refine And.intro (fun _ => trivial) ?_
  refine And.intro (fun _ => trivial) ?_
  refine And.intro (fun _ => trivial) ?_
  refine And.intro (fun _ => trivial) ?_
  refine And.intro (fun _ => trivial) ?_
  refine And.intro (fun _ => trivial) ?_
  refine And.intro (fun _ => trivial) ?_
  refine And.intro (fun _ => trivial) ?_
  refine And.intro (fun _ => trivial) ?_
  refine And.intro (fun _ => trivial) ?_
  refine And.intro (fun _ => trivial) ?_
  refine And.intro (fun _ => trivial) ?_
  refine And.intro (fun _ => trivial) ?_
  refine And.intro (fun _ => trivial) ?_
  refine And.intro (fun _ => trivial) ?_
  refine And.intro (fun _ => ⟨Tryz.stoodInHeld221, by kernel_rfl⟩) ?_
  refine And.intro (fun _ => ⟨Tryz.stoodInHeld222, by kernel_rfl⟩) ?_
  refine And.intro (fun _ => trivial) ?_
  refine And.intro (fun _ => trivial) ?_
  refine And.intro (fun _ => trivial) ?_
  refine And.intro (fun _ => trivial) ?_
  refine And.intro (fun _ => trivial) ?_
  refine And.intro (fun _ => trivial) ?_
  refine And.intro (fun _ => trivial) ?_
  refine And.intro (fun _ => trivial) ?_
  refine And.intro (fun _ => trivial) ?_
  refine And.intro (fun _ => trivial) ?_
  refine And.intro (fun _ => trivial) ?_
  refine And.intro (fun _ => trivial) ?_
  refine And.intro (fun _ => trivial) ?_
  refine And.intro (fun _ => trivial) ?_
  refine And.intro (fun _ => trivial) ?_
  refine And.intro (fun _ => trivial) ?_
  refine And.intro (fun _ => trivial) ?_
  refine And.intro (fun _ => trivial) ?_
  refine And.intro (fun _ => trivial) ?_
  refine And.intro (fun _ => trivial) ?_
  refine And.intro (fun _ => trivial) ?_
  refine And.intro (fun _ => trivial) ?_
  refine And.intro (fun _ => trivial) ?_
  refine And.intro (fun _ => ⟨Tryz.stoodInHeld247, by kernel_rfl⟩) ?_
  refine And.intro (fun _ => ⟨Tryz.stoodInHeld248, by kernel_rfl⟩) ?_
  refine And.intro (fun _ => trivial) ?_
  refine And.intro (fun _ => trivial) ?_
  refine And.intro (fun _ => trivial) ?_
  refine And.intro (fun _ => trivial) ?_
  refine And.intro (fun _ => trivial) ?_
  refine And.intro (fun _ => trivial) ?_
  refine And.intro (fun _ => trivial) ?_
  refine And.intro (fun _ => trivial) ?_
  refine And.intro (fun _ => trivial) ?_
  refine And.intro (fun _ => trivial) ?_
  refine And.intro (fun _ => trivial) ?_
  refine And.intro (fun _ => trivial) ?_
  refine And.intro (fun _ => trivial) ?_
  refine And.intro (fun _ => trivial) ?_
  refine And.intro (fun _ => trivial) ?_
  refine And.intro (fun _ => trivial) ?_
  refine And.intro (fun _ => trivial) ?_
  refine And.intro (fun _ => trivial) ?_
  refine And.intro (fun _ => trivial) ?_
  refine And.intro (fun _ => trivial) ?_
  refine And.intro (fun _ => trivial) ?_
  refine And.intro (fun _ => trivial) ?_
  refine And.intro (fun _ => trivial) ?_
  refine And.intro (fun _ => trivial) ?_
  refine And.intro (fun _ => trivial) ?_
  refine And.intro (fun _ => trivial) ?_
  refine And.intro (fun _ => trivial) ?_
  refine And.intro (fun _ => trivial) ?_
  refine And.intro (fun _ => trivial) ?_
  refine And.intro (fun _ => trivial) ?_
  refine And.intro (fun _ => trivial) ?_
  refine And.intro (fun _ => trivial) ?_
  refine And.intro (fun _ => trivial) ?_
  refine And.intro (fun _ => trivial) ?_
  refine And.intro (fun _ => trivial) ?_
  refine And.intro (fun _ => trivial) ?_
  refine And.intro (fun _ => trivial) ?_
  refine And.intro (fun _ => trivial) ?_
  refine And.intro (fun _ => trivial) ?_
  refine And.intro (fun _ => trivial) ?_
  refine And.intro (fun _ => trivial) ?_
  refine And.intro (fun _ => trivial) ?_
  refine And.intro (fun _ => trivial) ?_
  refine And.intro (fun _ => trivial) ?_
  refine And.intro (fun _ => trivial) ?_
  refine And.intro (fun _ => trivial) ?_
  refine And.intro (fun _ => trivial) ?_
  refine And.intro (fun _ => trivial) ?_
  refine And.intro (fun _ => trivial) ?_
  refine And.intro (fun _ => trivial) ?_
  refine And.intro (fun _ => trivial) ?_
  refine And.intro (fun _ => trivial) ?_
  refine And.intro (fun _ => trivial) ?_
  refine And.intro (fun _ => trivial) ?_
  refine And.intro (fun _ => trivial) ?_
  refine And.intro (fun _ => trivial) ?_
  refine And.intro (fun _ => trivial) ?_
  refine And.intro (fun _ => trivial) ?_
  refine And.intro ex310 ?_
  refine And.intro ex311 ?_
  refine And.intro (fun _ => trivial) ?_
  refine And.intro ex313 ?_
  refine And.intro ex314 ?_
  refine And.intro (fun _ => trivial) ?_
  refine And.intro (fun _ => trivial) ?_
  refine And.intro (fun _ => trivial) ?_
  refine And.intro (fun _ => trivial) ?_
  refine And.intro (fun _ => trivial) ?_
  refine And.intro ex320 ?_
  refine And.intro ex321 ?_
  exact trivial
theorem hX : TabsOk Tryz.prog X := ⟨tab_ok, fns_ok, fun t ti h he => (by have := heldAll_ok tabT 0 held_all t ti h (by rwa [Nat.zero_add]); rwa [Nat.zero_add] at this), by kernel_rfl⟩
end Go.Ev
namespace Go.Proofs
open Go.Shelf
def Tryz.laysM171_ren : Go.Shelf.Ren := ⟨fun | 171 => 107 | 243 => 155 | 246 => 184 | 283 => 220 | 284 => 221 | 285 => 222 | 286 => 223 | 129 => 215 | 317 => 243 | 318 => 244 | 319 => 245 | 320 => 246 | 337 => 250 | 338 => 125 | n => n, fun | 3 => 3 | 9 => 9 | 2 => 2 | 4 => 4 | 171 => 279 | 0 => 0 | 53 => 48 | 37 => 26 | 5 => 5 | 173 => 281 | 212 => 295 | 51 => 66 | 20 => 20 | 213 => 296 | 46 => 160 | 232 => 306 | 233 => 241 | n => n, fun | 17 => 2 | 18 => 3 | 19 => 0 | n => n⟩
theorem Tryz.laysM171 : Go.Proofs.LaysM.n171 Tryz.prog Tryz.laysM171_ren := {
  mixed := by kernel_rfl
  f129 := Tryz.func215.trans (congrArg some (by kernel_rfl))
  f171 := Tryz.func107.trans (congrArg some (by kernel_rfl))
  f243 := Tryz.func155.trans (congrArg some (by kernel_rfl))
  f246 := Tryz.func184.trans (congrArg some (by kernel_rfl))
  f283 := Tryz.func220.trans (congrArg some (by kernel_rfl))
  f284 := Tryz.func221.trans (congrArg some (by kernel_rfl))
  f285 := Tryz.func222.trans (congrArg some (by kernel_rfl))
  f286 := Tryz.func223.trans (congrArg some (by kernel_rfl))
  f317 := Tryz.func243.trans (congrArg some (by kernel_rfl))
  f318 := Tryz.func244.trans (congrArg some (by kernel_rfl))
  f319 := Tryz.func245.trans (congrArg some (by kernel_rfl))
  f320 := Tryz.func246.trans (congrArg some (by kernel_rfl))
  f337 := Tryz.func250.trans (congrArg some (by kernel_rfl))
  f338 := Tryz.func125.trans (congrArg some (by kernel_rfl))
  t0 := Tryz.underlying0
  a0 := Tryz.isAgg0
  z0 := Tryz.sizeOf0
  v0 := Tryz.zeroValue0
  t2 := Tryz.underlying2
  a2 := Tryz.isAgg2
  z2 := Tryz.sizeOf2
  v2 := Tryz.zeroValue2
  t3 := Tryz.underlying3
  a3 := Tryz.isAgg3
  z3 := Tryz.sizeOf3
  v3 := Tryz.zeroValue3
  t4 := Tryz.underlying4
  a4 := Tryz.isAgg4
  z4 := Tryz.sizeOf4
  v4 := Tryz.zeroValue4
  t5 := Tryz.underlying5
  a5 := Tryz.isAgg5
  z5 := Tryz.sizeOf5
  v5 := Tryz.zeroValue5
  t9 := Tryz.underlying9
  a9 := Tryz.isAgg9
  z9 := Tryz.sizeOf9
  v9 := Tryz.zeroValue9
  t20 := Tryz.underlying20
  a20 := Tryz.isAgg20
  z20 := Tryz.sizeOf20
  v20 := Tryz.zeroValue20
  t37 := Tryz.underlying26
  a37 := Tryz.isAgg26
  z37 := Tryz.sizeOf26
  v37 := Tryz.zeroValue26
  t46 := Tryz.underlying160
  a46 := Tryz.isAgg160
  z46 := Tryz.sizeOf160
  v46 := Tryz.zeroValue160
  t51 := Tryz.underlying66
  a51 := Tryz.isAgg66
  z51 := Tryz.sizeOf66
  v51 := Tryz.zeroValue66
  t53 := Tryz.underlying48
  a53 := Tryz.isAgg48
  z53 := Tryz.sizeOf48
  v53 := Tryz.zeroValue48
  t171 := Tryz.underlying279
  a171 := Tryz.isAgg279
  z171 := Tryz.sizeOf279
  v171 := Tryz.zeroValue279
  t173 := Tryz.underlying281
  a173 := Tryz.isAgg281
  z173 := Tryz.sizeOf281
  v173 := Tryz.zeroValue281
  t212 := Tryz.underlying295
  a212 := Tryz.isAgg295
  z212 := Tryz.sizeOf295
  v212 := Tryz.zeroValue295
  t213 := Tryz.underlying296
  a213 := Tryz.isAgg296
  z213 := Tryz.sizeOf296
  t232 := Tryz.underlying306
  a232 := Tryz.isAgg306
  z232 := Tryz.sizeOf306
  v232 := Tryz.zeroValue306
  t233 := Tryz.underlying241
  a233 := Tryz.isAgg241
  z233 := Tryz.sizeOf241
  v233 := Tryz.zeroValue241
  g17 := by kernel_rfl
  g18 := by kernel_rfl
  g19 := by kernel_rfl
  i0 := by kernel_rfl
  i2 := by kernel_rfl
  i3 := by kernel_rfl
  i4 := by kernel_rfl
  i5 := by kernel_rfl
  i9 := by kernel_rfl
  i20 := by kernel_rfl
  i37 := by kernel_rfl
  i46 := by kernel_rfl
  i51 := by kernel_rfl
  i53 := by kernel_rfl
  i171 := by kernel_rfl
  i173 := by kernel_rfl
  i212 := by kernel_rfl
  i232 := by kernel_rfl
  i233 := by kernel_rfl
  m17 := by kernel_rfl
  m18 := by kernel_rfl
  m19 := by kernel_rfl }
open Go.RowKit Go.Sort Go.Lib in
theorem Tryz.strconv_Itoa (n : Int) (h0 : -9223372036854775808 ≤ n) (h1 : n ≤ 9223372036854775807) (w : World) (htab : Lib.TabIs Tryz.prog w "internal/strconv.uint64pow10" .u64 Lib.pow10Tab) :
    Calls Tryz.prog 107 #[.int .i64 n] w fun e w' => e = .returned (.string ⟨(Lib.itoa n).toArray⟩) ∧ ∃ k os, w' = grow (w.drewN k) os := Any.strconv_Itoa Tryz.laysM171 n h0 h1 w htab
end Go.Proofs
