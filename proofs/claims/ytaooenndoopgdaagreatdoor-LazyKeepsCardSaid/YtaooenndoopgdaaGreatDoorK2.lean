/- LazyKeeps, proved: a lazy machine keeps no more than it may, makes nothing twice that it keeps, and forgets all at a flush. Conditions: none beyond the row its own.: part 2 of 13 of the proof. Conditions: none. -/
import Derived.Test.YtaooenndoopgdaaGreatDoorK1
import Derived.Test.YtaooenndoopgdaaGreatDoorProg
import Derived.KernelRfl
namespace Go.Ev
open Go Go.Proofs
def tabT : List (Option TI) := [
 none,
 some (.mk .func 1 8 ([.nilFunc])),
 some (.mk (.int .i64) 1 8 ([.int .i64 0])),
 some (.mk (.int .i64) 1 8 ([.int .i64 0])),
 some (.mk .bool 1 1 ([.bool false])),
 some (.mk (.int .u8) 1 1 ([.int .u8 0])),
 some (.mk (.int .u8) 1 1 ([.int .u8 0])),
 some (.mk (.struct [(0, 2), (1, 3), (2, 4), (3, 6)]) 4 24 ([.int .i64 0, .int .i64 0, .bool false, .int .u8 0])),
 some (.mk (.struct [(0, 2), (1, 3), (2, 4), (3, 6)]) 4 24 ([.int .i64 0, .int .i64 0, .bool false, .int .u8 0])),
 some (.mk .str 1 16 ([.string (ByteArray.mk (Array.mk []))])),
 some (.mk .str 1 16 ([.string (ByteArray.mk (Array.mk []))])),
 some (.mk .str 1 16 ([.string (ByteArray.mk (Array.mk []))])),
 some (.mk (.int .u64) 1 8 ([.int .u64 0])),
 some (.mk (.struct [(0, 9), (1, 12)]) 2 24 ([.string (ByteArray.mk (Array.mk [])), .int .u64 0])),
 some (.mk (.struct [(0, 9), (1, 12)]) 2 24 ([.string (ByteArray.mk (Array.mk [])), .int .u64 0])),
 some (.mk (.ptr 311) 1 8 ([.pointer none])),
 some (.mk (.ptr 314) 1 8 ([.pointer none])),
 some (.mk (.ptr 321) 1 8 ([.pointer none])),
 some (.mk (.struct [(0, 17)]) 1 8 ([.pointer none])),
 some (.mk (.struct [(0, 17)]) 1 8 ([.pointer none])),
 some (.mk .iface 1 16 ([.nilIface])),
 some (.mk (.int .i32) 1 4 ([.int .i32 0])),
 some (.mk (.slice 9) 1 24 ([.slice none 0 0])),
 some (.mk (.slice 55) 1 24 ([.slice none 0 0])),
 some (.mk (.struct [(0, 22), (1, 23)]) 2 48 ([.slice none 0 0, .slice none 0 0])),
 some (.mk (.struct [(0, 22), (1, 23)]) 2 48 ([.slice none 0 0, .slice none 0 0])),
 some (.mk (.slice 5) 1 24 ([.slice none 0 0])),
 some (.mk .func 1 8 ([.nilFunc])),
 some (.mk .func 1 8 ([.nilFunc])),
 some (.mk (.ptr 81) 1 8 ([.pointer none])),
 some (.mk (.int .i64) 1 8 ([.int .i64 0])),
 none,
 some (.mk .func 1 8 ([.nilFunc])),
 some (.mk .func 1 8 ([.nilFunc])),
 some (.mk .func 1 8 ([.nilFunc])),
 none,
 some (.mk .func 1 8 ([.nilFunc])),
 some (.mk .func 1 8 ([.nilFunc])),
 some (.mk .func 1 8 ([.nilFunc])),
 some (.mk .func 1 8 ([.nilFunc])),
 some (.mk .func 1 8 ([.nilFunc])),
 some (.mk .func 1 8 ([.nilFunc])),
 some (.mk (.slice 52) 1 24 ([.slice none 0 0])),
 some (.mk (.struct [(0, 42)]) 1 24 ([.slice none 0 0])),
 some (.mk (.struct [(0, 42)]) 1 24 ([.slice none 0 0])),
 some (.mk .func 1 8 ([.nilFunc])),
 some (.mk .func 1 8 ([.nilFunc])),
 some (.mk .func 1 8 ([.nilFunc])),
 some (.mk (.int .u64) 1 8 ([.int .u64 0])),
 some (.mk (.array 4 48) 4 32 ([.int .u64 0, .int .u64 0, .int .u64 0, .int .u64 0])),
 some (.mk (.array 4 48) 4 32 ([.int .u64 0, .int .u64 0, .int .u64 0, .int .u64 0])),
 some (.mk (.struct [(0, 3), (1, 50), (5, 42), (6, 3), (7, 3), (8, 4)]) 9 88 ([.int .i64 0, .int .u64 0, .int .u64 0, .int .u64 0, .int .u64 0, .slice none 0 0, .int .i64 0, .int .i64 0, .bool false])),
 some (.mk (.struct [(0, 3), (1, 50), (5, 42), (6, 3), (7, 3), (8, 4)]) 9 88 ([.int .i64 0, .int .u64 0, .int .u64 0, .int .u64 0, .int .u64 0, .slice none 0 0, .int .i64 0, .int .i64 0, .bool false])),
 some (.mk (.slice 3) 1 24 ([.slice none 0 0])),
 some (.mk (.struct [(0, 53), (1, 52), (10, 3), (11, 3)]) 12 128 ([.slice none 0 0, .int .i64 0, .int .u64 0, .int .u64 0, .int .u64 0, .int .u64 0, .slice none 0 0, .int .i64 0, .int .i64 0, .bool false, .int .i64 0, .int .i64 0])),
 some (.mk (.struct [(0, 53), (1, 52), (10, 3), (11, 3)]) 12 128 ([.slice none 0 0, .int .i64 0, .int .u64 0, .int .u64 0, .int .u64 0, .int .u64 0, .slice none 0 0, .int .i64 0, .int .i64 0, .bool false, .int .i64 0, .int .i64 0])),
 some (.mk .func 1 8 ([.nilFunc])),
 some (.mk (.ptr 100) 1 8 ([.pointer none])),
 none,
 some (.mk .func 1 8 ([.nilFunc])),
 some (.mk (.map 9 3) 1 8 ([.map none])),
 some (.mk (.map 3 53) 1 8 ([.map none])),
 some (.mk (.slice 84) 1 24 ([.slice none 0 0])),
 some (.mk (.struct []) 0 0 ([])),
 some (.mk (.struct []) 0 0 ([])),
 some (.mk (.struct []) 0 0 ([])),
 some (.mk (.int .u32) 1 4 ([.int .u32 0])),
 some (.mk (.struct [(0, 65), (0, 66)]) 1 4 ([.int .u32 0])),
 some (.mk (.struct [(0, 65), (0, 66)]) 1 4 ([.int .u32 0])),
 some (.mk (.struct [(0, 21), (1, 66)]) 2 8 ([.int .i32 0, .int .u32 0])),
 some (.mk (.struct [(0, 21), (1, 66)]) 2 8 ([.int .i32 0, .int .u32 0])),
 some (.mk (.struct [(0, 64), (0, 70)]) 2 8 ([.int .i32 0, .int .u32 0])),
 some (.mk (.struct [(0, 64), (0, 70)]) 2 8 ([.int .i32 0, .int .u32 0])),
 some (.mk (.struct [(0, 64), (0, 68), (1, 72)]) 3 12 ([.int .u32 0, .int .i32 0, .int .u32 0])),
 some (.mk (.struct [(0, 64), (0, 68), (1, 72)]) 3 12 ([.int .u32 0, .int .i32 0, .int .u32 0])),
 some (.mk (.struct [(0, 74), (3, 26)]) 4 40 ([.int .u32 0, .int .i32 0, .int .u32 0, .slice none 0 0])),
 some (.mk (.struct [(0, 74), (3, 26)]) 4 40 ([.int .u32 0, .int .i32 0, .int .u32 0, .slice none 0 0])),
 some (.mk (.struct []) 0 0 ([])),
 some (.mk (.struct [(0, 65), (0, 77), (0, 2)]) 1 8 ([.int .i64 0])),
 some (.mk (.struct [(0, 65), (0, 77), (0, 2)]) 1 8 ([.int .i64 0])),
 some (.mk (.struct [(0, 57), (1, 3), (2, 60), (3, 62), (4, 53), (5, 61), (6, 76), (10, 79), (11, 79)]) 12 136 ([.pointer none, .int .i64 0, .map none, .slice none 0 0, .slice none 0 0, .map none, .int .u32 0, .int .i32 0, .int .u32 0, .slice none 0 0, .int .i64 0, .int .i64 0])),
 some (.mk (.struct [(0, 57), (1, 3), (2, 60), (3, 62), (4, 53), (5, 61), (6, 76), (10, 79), (11, 79)]) 12 136 ([.pointer none, .int .i64 0, .map none, .slice none 0 0, .slice none 0 0, .map none, .int .u32 0, .int .i32 0, .int .u32 0, .slice none 0 0, .int .i64 0, .int .i64 0])),
 some (.mk .func 1 8 ([.nilFunc])),
 some (.mk (.slice 88) 1 24 ([.slice none 0 0])),
 some (.mk (.slice 88) 1 24 ([.slice none 0 0])),
 some (.mk .func 1 8 ([.nilFunc])),
 some (.mk .func 1 8 ([.nilFunc])),
 some (.mk (.slice 53) 1 24 ([.slice none 0 0])),
 some (.mk (.slice 53) 1 24 ([.slice none 0 0])),
 some (.mk .func 1 8 ([.nilFunc])),
 some (.mk .func 1 8 ([.nilFunc])),
 some (.mk .func 1 8 ([.nilFunc])),
 none,
 some (.mk .func 1 8 ([.nilFunc])),
 some (.mk .func 1 8 ([.nilFunc])),
 some (.mk (.ptr 142) 1 8 ([.pointer none])),
 some (.mk (.array 256 5) 256 256 (List.replicate 256 (.int .u8 0))),
 some (.mk (.struct [(0, 96), (256, 3)]) 257 264 (List.replicate 256 (.int .u8 0) ++ [.int .i64 0])),
 some (.mk (.struct [(0, 96), (256, 3)]) 257 264 (List.replicate 256 (.int .u8 0) ++ [.int .i64 0])),
 some (.mk (.struct [(0, 95), (1, 44), (2, 98), (259, 84), (260, 25)]) 262 368 ([.pointer none, .slice none 0 0] ++ List.replicate 256 (.int .u8 0) ++ [.int .i64 0, .slice none 0 0, .slice none 0 0, .slice none 0 0])),
 some (.mk (.struct [(0, 95), (1, 44), (2, 98), (259, 84), (260, 25)]) 262 368 ([.pointer none, .slice none 0 0] ++ List.replicate 256 (.int .u8 0) ++ [.int .i64 0, .slice none 0 0, .slice none 0 0, .slice none 0 0])),
 some (.mk .func 1 8 ([.nilFunc])),
 some (.mk .func 1 8 ([.nilFunc])),
 some (.mk .func 1 8 ([.nilFunc])),
 some (.mk .func 1 8 ([.nilFunc])),
 some (.mk .func 1 8 ([.nilFunc])),
 some (.mk .func 1 8 ([.nilFunc])),
 some (.mk .func 1 8 ([.nilFunc])),
 some (.mk .func 1 8 ([.nilFunc])),
 none,
 some (.mk .func 1 8 ([.nilFunc])),
 some (.mk .func 1 8 ([.nilFunc])),
 some (.mk .func 1 8 ([.nilFunc])),
 some (.mk (.slice 50) 1 24 ([.slice none 0 0])),
 some (.mk .func 1 8 ([.nilFunc])),
 none,
 some (.mk .func 1 8 ([.nilFunc])),
 some (.mk .func 1 8 ([.nilFunc])),
 some (.mk .func 1 8 ([.nilFunc])),
 some (.mk .func 1 8 ([.nilFunc])),
 none,
 some (.mk .func 1 8 ([.nilFunc])),
 some (.mk .func 1 8 ([.nilFunc])),
 none,
 some (.mk .func 1 8 ([.nilFunc])),
 some (.mk .func 1 8 ([.nilFunc])),
 some (.mk (.ptr 76) 1 8 ([.pointer none])),
 some (.mk .func 1 8 ([.nilFunc])),
 some (.mk (.ptr 79) 1 8 ([.pointer none])),
 some (.mk .func 1 8 ([.nilFunc])),
 some (.mk (.ptr 2) 1 8 ([.pointer none])),
 some (.mk .func 1 8 ([.nilFunc])),
 some (.mk .func 1 8 ([.nilFunc])),
 some (.mk .func 1 8 ([.nilFunc])),
 some (.mk .func 1 8 ([.nilFunc])),
 some (.mk .func 1 8 ([.nilFunc])),
 some (.mk .func 1 8 ([.nilFunc])),
 some (.mk .func 1 8 ([.nilFunc])),
 some (.mk .func 1 8 ([.nilFunc])),
 some (.mk (.map 146 3) 1 8 ([.map none])),
 some (.mk (.slice 146) 1 24 ([.slice none 0 0])),
 some (.mk (.struct [(0, 140), (1, 139)]) 2 32 ([.slice none 0 0, .map none])),
 some (.mk (.struct [(0, 140), (1, 139)]) 2 32 ([.slice none 0 0, .map none])),
 some (.mk .func 1 8 ([.nilFunc])),
 some (.mk .func 1 8 ([.nilFunc])),
 some (.mk (.struct [(0, 3), (1, 50), (5, 3), (6, 3), (7, 4)]) 8 64 ([.int .i64 0, .int .u64 0, .int .u64 0, .int .u64 0, .int .u64 0, .int .i64 0, .int .i64 0, .bool false])),
 some (.mk (.struct [(0, 3), (1, 50), (5, 3), (6, 3), (7, 4)]) 8 64 ([.int .i64 0, .int .u64 0, .int .u64 0, .int .u64 0, .int .u64 0, .int .i64 0, .int .i64 0, .bool false])),
 none,
 some (.mk .func 1 8 ([.nilFunc])),
 some (.mk (.ptr 182) 1 8 ([.pointer none])),
 some (.mk .func 1 8 ([.nilFunc])),
 some (.mk .func 1 8 ([.nilFunc])),
 some (.mk .func 1 8 ([.nilFunc])),
 some (.mk (.slice 4) 1 24 ([.slice none 0 0])),
 some (.mk .func 1 8 ([.nilFunc])),
 some (.mk .func 1 8 ([.nilFunc])),
 some (.mk .func 1 8 ([.nilFunc])),
 some (.mk .func 1 8 ([.nilFunc])),
 some (.mk .func 1 8 ([.nilFunc])),
 some (.mk .func 1 8 ([.nilFunc])),
 some (.mk (.int .u64) 1 8 ([.int .u64 0])),
 none,
 some (.mk .func 1 8 ([.nilFunc])),
 some (.mk .func 1 8 ([.nilFunc])),
 some (.mk .func 1 8 ([.nilFunc])),
 some (.mk (.ptr 74) 1 8 ([.pointer none])),
 none,
 some (.mk .func 1 8 ([.nilFunc])),
 some (.mk .func 1 8 ([.nilFunc])),
 some (.mk .func 1 8 ([.nilFunc])),
 some (.mk .func 1 8 ([.nilFunc])),
 some (.mk .func 1 8 ([.nilFunc])),
 some (.mk .func 1 8 ([.nilFunc])),
 some (.mk .func 1 8 ([.nilFunc])),
 some (.mk (.ptr 44) 1 8 ([.pointer none])),
 some (.mk .func 1 8 ([.nilFunc])),
 some (.mk (.ptr 178) 1 8 ([.pointer none])),
 some (.mk (.struct [(0, 95), (1, 144), (2, 30)]) 3 24 ([.pointer none, .nilFunc, .int .i64 0])),
 some (.mk (.struct [(0, 95), (1, 144), (2, 30)]) 3 24 ([.pointer none, .nilFunc, .int .i64 0])),
 some (.mk .func 1 8 ([.nilFunc])),
 some (.mk (.map 3 88) 1 8 ([.map none])),
 some (.mk (.struct [(0, 95), (1, 5), (2, 5), (3, 30), (4, 180), (5, 180)]) 6 40 ([.pointer none, .int .u8 0, .int .u8 0, .int .i64 0, .map none, .map none])),
 some (.mk (.struct [(0, 95), (1, 5), (2, 5), (3, 30), (4, 180), (5, 180)]) 6 40 ([.pointer none, .int .u8 0, .int .u8 0, .int .i64 0, .map none, .map none])),
 some (.mk .func 1 8 ([.nilFunc])),
 none,
 some (.mk .func 1 8 ([.nilFunc])),
 some (.mk .func 1 8 ([.nilFunc])),
 some (.mk (.map 190 5) 1 8 ([.map none])),
 some (.mk .func 1 8 ([.nilFunc])),
 some (.mk (.struct [(0, 5), (1, 4)]) 2 2 ([.int .u8 0, .bool false])),
 some (.mk (.struct [(0, 5), (1, 4)]) 2 2 ([.int .u8 0, .bool false])),
 some (.mk (.ptr 193) 1 8 ([.pointer none])),
 some (.mk (.struct [(0, 191), (1, 26)]) 2 32 ([.pointer none, .slice none 0 0])),
 some (.mk (.struct [(0, 191), (1, 26)]) 2 32 ([.pointer none, .slice none 0 0])),
 some (.mk .iface 1 16 ([.nilIface])),
 some (.mk .iface 1 16 ([.nilIface])),
 none,
 some (.mk .func 1 8 ([.nilFunc])),
 some (.mk .func 1 8 ([.nilFunc])),
 some (.mk .func 1 8 ([.nilFunc])),
 some (.mk .func 1 8 ([.nilFunc])),
 none,
 some (.mk .func 1 8 ([.nilFunc])),
 none,
 some (.mk .func 1 8 ([.nilFunc])),
 some (.mk .func 1 8 ([.nilFunc])),
 some (.mk .func 1 8 ([.nilFunc])),
 some (.mk .func 1 8 ([.nilFunc])),
 some (.mk (.ptr 68) 1 8 ([.pointer none])),
 some (.mk .func 1 8 ([.nilFunc])),
 some (.mk (.ptr 66) 1 8 ([.pointer none])),
 some (.mk .func 1 8 ([.nilFunc])),
 some (.mk .func 1 8 ([.nilFunc])),
 some (.mk .func 1 8 ([.nilFunc])),
 some (.mk .func 1 8 ([.nilFunc])),
 some (.mk .func 1 8 ([.nilFunc])),
 some (.mk .func 1 8 ([.nilFunc])),
 some (.mk .func 1 8 ([.nilFunc])),
 some (.mk .func 1 8 ([.nilFunc])),
 some (.mk .func 1 8 ([.nilFunc])),
 some (.mk (.map 3 4) 1 8 ([.map none])),
 some (.mk (.struct [(0, 95), (1, 5), (2, 220)]) 3 24 ([.pointer none, .int .u8 0, .map none])),
 some (.mk (.struct [(0, 95), (1, 5), (2, 220)]) 3 24 ([.pointer none, .int .u8 0, .map none])),
 some (.mk .func 1 8 ([.nilFunc])),
 some (.mk .func 1 8 ([.nilFunc])),
 some (.mk .func 1 8 ([.nilFunc])),
 some (.mk .func 1 8 ([.nilFunc])),
 some (.mk .func 1 8 ([.nilFunc])),
 some (.mk .func 1 8 ([.nilFunc])),
 some (.mk .func 1 8 ([.nilFunc])),
 some (.mk .func 1 8 ([.nilFunc])),
 some (.mk .func 1 8 ([.nilFunc])),
 some (.mk (.ptr 5) 1 8 ([.pointer none])),
 some (.mk .func 1 8 ([.nilFunc])),
 some (.mk .func 1 8 ([.nilFunc])),
 some (.mk .func 1 8 ([.nilFunc])),
 some (.mk .func 1 8 ([.nilFunc])),
 some (.mk .func 1 8 ([.nilFunc])),
 some (.mk (.ptr 72) 1 8 ([.pointer none])),
 some (.mk .func 1 8 ([.nilFunc])),
 some (.mk .func 1 8 ([.nilFunc])),
 some (.mk (.array 64 5) 64 64 (List.replicate 64 (.int .u8 0))),
 some (.mk .func 1 8 ([.nilFunc])),
 some (.mk .func 1 8 ([.nilFunc])),
 none,
 some (.mk .func 1 8 ([.nilFunc])),
 some (.mk .func 1 8 ([.nilFunc])),
 some (.mk (.struct [(0, 3), (1, 225), (2, 225), (3, 213)]) 4 32 ([.int .i64 0, .nilFunc, .nilFunc, .nilFunc])),
 some (.mk (.struct [(0, 3), (1, 225), (2, 225), (3, 213)]) 4 32 ([.int .i64 0, .nilFunc, .nilFunc, .nilFunc])),
 some (.mk .func 1 8 ([.nilFunc])),
 some (.mk .func 1 8 ([.nilFunc])),
 some (.mk .func 1 8 ([.nilFunc])),
 some (.mk .other 1 8 ([.pointer none])),
 some (.mk .func 1 8 ([.nilFunc])),
 some (.mk .func 1 8 ([.nilFunc])),
 some (.mk .func 1 8 ([.nilFunc])),
 some (.mk .func 1 8 ([.nilFunc])),
 some (.mk .func 1 8 ([.nilFunc])),
 some (.mk .func 1 8 ([.nilFunc])),
 some (.mk .func 1 8 ([.nilFunc])),
 some (.mk .func 1 8 ([.nilFunc])),
 some (.mk (.ptr 70) 1 8 ([.pointer none])),
 some (.mk .func 1 8 ([.nilFunc])),
 some (.mk (.ptr 21) 1 8 ([.pointer none])),
 some (.mk .func 1 8 ([.nilFunc])),
 some (.mk .func 1 8 ([.nilFunc])),
 some (.mk .func 1 8 ([.nilFunc])),
 some (.mk .func 1 8 ([.nilFunc])),
 some (.mk (.int .i64) 1 8 ([.int .i64 0])),
 none,
 some (.mk .func 1 8 ([.nilFunc])),
 some (.mk .func 1 8 ([.nilFunc])),
 some (.mk .func 1 8 ([.nilFunc])),
 some (.mk .func 1 8 ([.nilFunc])),
 some (.mk .func 1 8 ([.nilFunc])),
 some (.mk .func 1 8 ([.nilFunc])),
 some (.mk .func 1 8 ([.nilFunc])),
 some (.mk .func 1 8 ([.nilFunc])),
 some (.mk .func 1 8 ([.nilFunc])),
 some (.mk (.array 24 5) 24 24 (List.replicate 24 (.int .u8 0))),
 some (.mk .func 1 8 ([.nilFunc])),
 none,
 some (.mk .func 1 8 ([.nilFunc])),
 some (.mk .func 1 8 ([.nilFunc])),
 some (.mk .func 1 8 ([.nilFunc])),
 some (.mk .func 1 8 ([.nilFunc])),
 some (.mk .func 1 8 ([.nilFunc])),
 some (.mk (.int .u64) 1 8 ([.int .u64 0])),
 some (.mk .func 1 8 ([.nilFunc])),
 some (.mk .func 1 8 ([.nilFunc])),
 some (.mk .func 1 8 ([.nilFunc])),
 some (.mk (.ptr 3) 1 8 ([.pointer none])),
 some (.mk .func 1 8 ([.nilFunc])),
 some (.mk .func 1 8 ([.nilFunc])),
 some (.mk .func 1 8 ([.nilFunc])),
 some (.mk (.array 20 48) 20 160 (List.replicate 20 (.int .u64 0))),
 some (.mk (.array 65 5) 65 65 (List.replicate 65 (.int .u8 0))),
 some (.mk .func 1 8 ([.nilFunc])),
 some (.mk (.ptr 287) 1 8 ([.pointer none])),
 none,
 some (.mk .func 1 8 ([.nilFunc])),
 some (.mk .func 1 8 ([.nilFunc])),
 some (.mk .func 1 8 ([.nilFunc])),
 some (.mk .func 1 8 ([.nilFunc])),
 some (.mk .func 1 8 ([.nilFunc])),
 some (.mk .func 1 8 ([.nilFunc])),
 some (.mk (.array 32 5) 32 32 (List.replicate 32 (.int .u8 0))),
 some (.mk .func 1 8 ([.nilFunc])),
 some (.mk .func 1 8 ([.nilFunc])),
 some (.mk .func 1 8 ([.nilFunc])),
 some (.mk (.struct [(0, 17), (1, 17), (2, 17), (3, 9)]) 4 40 ([.pointer none, .pointer none, .pointer none, .string (ByteArray.mk (Array.mk []))])),
 some (.mk (.struct [(0, 17), (1, 17), (2, 17), (3, 9)]) 4 40 ([.pointer none, .pointer none, .pointer none, .string (ByteArray.mk (Array.mk []))])),
 some (.mk (.array 0 16) 0 0 ([])),
 some (.mk (.struct [(0, 312)]) 0 0 ([])),
 some (.mk (.struct [(0, 312)]) 0 0 ([])),
 some (.mk (.int .u8) 1 1 ([.int .u8 0])),
 some (.mk (.int .u8) 1 1 ([.int .u8 0])),
 some (.mk .func 1 8 ([.nilFunc])),
 some (.mk (.int .i32) 1 4 ([.int .i32 0])),
 some (.mk (.int .i32) 1 4 ([.int .i32 0])),
 some (.mk (.struct [(0, 12), (1, 12), (2, 66), (3, 315), (4, 5), (5, 5), (6, 316), (7, 317), (8, 232), (9, 318), (10, 319)]) 11 48 ([.int .u64 0, .int .u64 0, .int .u32 0, .int .u8 0, .int .u8 0, .int .u8 0, .int .u8 0, .nilFunc, .pointer none, .int .i32 0, .int .i32 0])),
 some (.mk (.struct [(0, 12), (1, 12), (2, 66), (3, 315), (4, 5), (5, 5), (6, 316), (7, 317), (8, 232), (9, 318), (10, 319)]) 11 48 ([.int .u64 0, .int .u64 0, .int .u32 0, .int .u8 0, .int .u8 0, .int .u8 0, .int .u8 0, .nilFunc, .pointer none, .int .i32 0, .int .i32 0]))]
def tabG : List Bool := [false, false, true, true, true, true, true, true, true, true, true, true, true, true, true, true, true, true, true, true, true, true, true, true, true, true, true, true, true, true, true, true, true, true, true, true, true, true, true, true, true, true, true, true, true, true, true, true, true, true, true, true, true, true, true, false, true, true, false, true, true, true, true, true, true, true, true, true, true, true, true, true, true, true, true, true, true, true, true, true, true, true, true, true, true, true, true, true, true, true, true, true, true, true, true, true, true, true, true, true, true, true, true, true, true, true, true, true, true, true, true, true, true, true, true, true, true, true, true, true, true, false, true, true, true, true, true, true, true, true, true, true, true, true, true, true, true, true, true, true, true, true, true, true, true, true, true, true, true, true, true, true, true, true, true, true, true, true, true, true, true, true, true, true, true, true, true, true, false, true, true, true, true, true, true, true, true, true, true, true, true, true, true, false, true, false, true, true, true, true, true, true, true, true, true, true, true, false, false, false, false, true, false, false, true, true, true, true, true, true, true, true, true, true, true, true, true, true, true, true, true, true, true, true, true, true, true, true, true, true, false, false, false, false, false, false, false, true, true, true, true, true, true, true, true, true, true, true, true, true, true, true, true, true, true, true, true, true, true, true, true, true, true, false, false, false, false, false, false, false, false, false, false, false, false, false, false, false, false, false, false, false, false, false, false, false, false, true]
def tabE : List Nat := [13, 14, 18, 19, 67, 68, 71, 72, 73, 74, 78, 79, 310, 311, 313, 314, 320, 321]
def X : Tab := ⟨tabT, tabG, tabE⟩
def tE (n : Nat) : Option TI := match look tabT n with | some x => x | none => none
theorem t1 : tiOf Tryz.prog 1 = tE 1 := by kernel_rfl
theorem t2 : tiOf Tryz.prog 2 = tE 2 := by kernel_rfl
theorem t3 : tiOf Tryz.prog 3 = tE 3 := by kernel_rfl
theorem t4 : tiOf Tryz.prog 4 = tE 4 := by kernel_rfl
theorem t5 : tiOf Tryz.prog 5 = tE 5 := by kernel_rfl
theorem t6 : tiOf Tryz.prog 6 = tE 6 := by kernel_rfl
theorem t7 : tiOf Tryz.prog 7 = tE 7 := by kernel_rfl
theorem t8 : tiOf Tryz.prog 8 = tE 8 := by kernel_rfl
theorem t9 : tiOf Tryz.prog 9 = tE 9 := by kernel_rfl
theorem t10 : tiOf Tryz.prog 10 = tE 10 := by kernel_rfl
theorem t11 : tiOf Tryz.prog 11 = tE 11 := by kernel_rfl
theorem t12 : tiOf Tryz.prog 12 = tE 12 := by kernel_rfl
theorem t13 : tiOf Tryz.prog 13 = tE 13 := by kernel_rfl
theorem t14 : tiOf Tryz.prog 14 = tE 14 := by kernel_rfl
theorem t15 : tiOf Tryz.prog 15 = tE 15 := by kernel_rfl
theorem t16 : tiOf Tryz.prog 16 = tE 16 := by kernel_rfl
theorem t17 : tiOf Tryz.prog 17 = tE 17 := by kernel_rfl
theorem t18 : tiOf Tryz.prog 18 = tE 18 := by kernel_rfl
theorem t19 : tiOf Tryz.prog 19 = tE 19 := by kernel_rfl
theorem t20 : tiOf Tryz.prog 20 = tE 20 := by kernel_rfl
theorem t21 : tiOf Tryz.prog 21 = tE 21 := by kernel_rfl
theorem t22 : tiOf Tryz.prog 22 = tE 22 := by kernel_rfl
theorem t23 : tiOf Tryz.prog 23 = tE 23 := by kernel_rfl
theorem t24 : tiOf Tryz.prog 24 = tE 24 := by kernel_rfl
theorem t25 : tiOf Tryz.prog 25 = tE 25 := by kernel_rfl
theorem t26 : tiOf Tryz.prog 26 = tE 26 := by kernel_rfl
theorem t27 : tiOf Tryz.prog 27 = tE 27 := by kernel_rfl
theorem t28 : tiOf Tryz.prog 28 = tE 28 := by kernel_rfl
theorem t29 : tiOf Tryz.prog 29 = tE 29 := by kernel_rfl
theorem t30 : tiOf Tryz.prog 30 = tE 30 := by kernel_rfl
theorem t32 : tiOf Tryz.prog 32 = tE 32 := by kernel_rfl
theorem t33 : tiOf Tryz.prog 33 = tE 33 := by kernel_rfl
theorem t34 : tiOf Tryz.prog 34 = tE 34 := by kernel_rfl
theorem t36 : tiOf Tryz.prog 36 = tE 36 := by kernel_rfl
theorem t37 : tiOf Tryz.prog 37 = tE 37 := by kernel_rfl
theorem t38 : tiOf Tryz.prog 38 = tE 38 := by kernel_rfl
theorem t39 : tiOf Tryz.prog 39 = tE 39 := by kernel_rfl
theorem t40 : tiOf Tryz.prog 40 = tE 40 := by kernel_rfl
theorem t41 : tiOf Tryz.prog 41 = tE 41 := by kernel_rfl
theorem t42 : tiOf Tryz.prog 42 = tE 42 := by kernel_rfl
theorem t43 : tiOf Tryz.prog 43 = tE 43 := by kernel_rfl
theorem t44 : tiOf Tryz.prog 44 = tE 44 := by kernel_rfl
theorem t45 : tiOf Tryz.prog 45 = tE 45 := by kernel_rfl
theorem t46 : tiOf Tryz.prog 46 = tE 46 := by kernel_rfl
theorem t47 : tiOf Tryz.prog 47 = tE 47 := by kernel_rfl
theorem t48 : tiOf Tryz.prog 48 = tE 48 := by kernel_rfl
theorem t49 : tiOf Tryz.prog 49 = tE 49 := by kernel_rfl
theorem t50 : tiOf Tryz.prog 50 = tE 50 := by kernel_rfl
theorem t51 : tiOf Tryz.prog 51 = tE 51 := by kernel_rfl
theorem t52 : tiOf Tryz.prog 52 = tE 52 := by kernel_rfl
theorem t53 : tiOf Tryz.prog 53 = tE 53 := by kernel_rfl
theorem t54 : tiOf Tryz.prog 54 = tE 54 := by kernel_rfl
theorem t55 : tiOf Tryz.prog 55 = tE 55 := by kernel_rfl
theorem t56 : tiOf Tryz.prog 56 = tE 56 := by kernel_rfl
theorem t57 : tiOf Tryz.prog 57 = tE 57 := by kernel_rfl
theorem t59 : tiOf Tryz.prog 59 = tE 59 := by kernel_rfl
theorem t60 : tiOf Tryz.prog 60 = tE 60 := by kernel_rfl
theorem t61 : tiOf Tryz.prog 61 = tE 61 := by kernel_rfl
theorem t62 : tiOf Tryz.prog 62 = tE 62 := by kernel_rfl
theorem t63 : tiOf Tryz.prog 63 = tE 63 := by kernel_rfl
theorem t64 : tiOf Tryz.prog 64 = tE 64 := by kernel_rfl
theorem t65 : tiOf Tryz.prog 65 = tE 65 := by kernel_rfl
theorem t66 : tiOf Tryz.prog 66 = tE 66 := by kernel_rfl
theorem t67 : tiOf Tryz.prog 67 = tE 67 := by kernel_rfl
theorem t68 : tiOf Tryz.prog 68 = tE 68 := by kernel_rfl
theorem t69 : tiOf Tryz.prog 69 = tE 69 := by kernel_rfl
theorem t70 : tiOf Tryz.prog 70 = tE 70 := by kernel_rfl
theorem t71 : tiOf Tryz.prog 71 = tE 71 := by kernel_rfl
theorem t72 : tiOf Tryz.prog 72 = tE 72 := by kernel_rfl
theorem t73 : tiOf Tryz.prog 73 = tE 73 := by kernel_rfl
theorem t74 : tiOf Tryz.prog 74 = tE 74 := by kernel_rfl
theorem t75 : tiOf Tryz.prog 75 = tE 75 := by kernel_rfl
theorem t76 : tiOf Tryz.prog 76 = tE 76 := by kernel_rfl
theorem t77 : tiOf Tryz.prog 77 = tE 77 := by kernel_rfl
theorem t78 : tiOf Tryz.prog 78 = tE 78 := by kernel_rfl
theorem t79 : tiOf Tryz.prog 79 = tE 79 := by kernel_rfl
theorem t80 : tiOf Tryz.prog 80 = tE 80 := by kernel_rfl
theorem t81 : tiOf Tryz.prog 81 = tE 81 := by kernel_rfl
theorem t82 : tiOf Tryz.prog 82 = tE 82 := by kernel_rfl
theorem t83 : tiOf Tryz.prog 83 = tE 83 := by kernel_rfl
theorem t84 : tiOf Tryz.prog 84 = tE 84 := by kernel_rfl
theorem t85 : tiOf Tryz.prog 85 = tE 85 := by kernel_rfl
theorem t86 : tiOf Tryz.prog 86 = tE 86 := by kernel_rfl
theorem t87 : tiOf Tryz.prog 87 = tE 87 := by kernel_rfl
theorem t88 : tiOf Tryz.prog 88 = tE 88 := by kernel_rfl
theorem t89 : tiOf Tryz.prog 89 = tE 89 := by kernel_rfl
theorem t90 : tiOf Tryz.prog 90 = tE 90 := by kernel_rfl
theorem t91 : tiOf Tryz.prog 91 = tE 91 := by kernel_rfl
theorem t93 : tiOf Tryz.prog 93 = tE 93 := by kernel_rfl
theorem t94 : tiOf Tryz.prog 94 = tE 94 := by kernel_rfl
theorem t95 : tiOf Tryz.prog 95 = tE 95 := by kernel_rfl
theorem t96 : tiOf Tryz.prog 96 = tE 96 := by kernel_rfl
theorem t97 : tiOf Tryz.prog 97 = tE 97 := by kernel_rfl
theorem t98 : tiOf Tryz.prog 98 = tE 98 := by kernel_rfl
theorem t99 : tiOf Tryz.prog 99 = tE 99 := by kernel_rfl
theorem t100 : tiOf Tryz.prog 100 = tE 100 := by kernel_rfl
theorem t101 : tiOf Tryz.prog 101 = tE 101 := by kernel_rfl
theorem t102 : tiOf Tryz.prog 102 = tE 102 := by kernel_rfl
theorem t103 : tiOf Tryz.prog 103 = tE 103 := by kernel_rfl
theorem t104 : tiOf Tryz.prog 104 = tE 104 := by kernel_rfl
theorem t105 : tiOf Tryz.prog 105 = tE 105 := by kernel_rfl
theorem t106 : tiOf Tryz.prog 106 = tE 106 := by kernel_rfl
theorem t107 : tiOf Tryz.prog 107 = tE 107 := by kernel_rfl
theorem t108 : tiOf Tryz.prog 108 = tE 108 := by kernel_rfl
theorem t110 : tiOf Tryz.prog 110 = tE 110 := by kernel_rfl
theorem t111 : tiOf Tryz.prog 111 = tE 111 := by kernel_rfl
theorem t112 : tiOf Tryz.prog 112 = tE 112 := by kernel_rfl
theorem t113 : tiOf Tryz.prog 113 = tE 113 := by kernel_rfl
theorem t114 : tiOf Tryz.prog 114 = tE 114 := by kernel_rfl
theorem t116 : tiOf Tryz.prog 116 = tE 116 := by kernel_rfl
theorem t117 : tiOf Tryz.prog 117 = tE 117 := by kernel_rfl
theorem t118 : tiOf Tryz.prog 118 = tE 118 := by kernel_rfl
theorem t119 : tiOf Tryz.prog 119 = tE 119 := by kernel_rfl
theorem t121 : tiOf Tryz.prog 121 = tE 121 := by kernel_rfl
theorem t122 : tiOf Tryz.prog 122 = tE 122 := by kernel_rfl
theorem t124 : tiOf Tryz.prog 124 = tE 124 := by kernel_rfl
theorem t125 : tiOf Tryz.prog 125 = tE 125 := by kernel_rfl
theorem t126 : tiOf Tryz.prog 126 = tE 126 := by kernel_rfl
theorem t127 : tiOf Tryz.prog 127 = tE 127 := by kernel_rfl
theorem t128 : tiOf Tryz.prog 128 = tE 128 := by kernel_rfl
theorem t129 : tiOf Tryz.prog 129 = tE 129 := by kernel_rfl
theorem t130 : tiOf Tryz.prog 130 = tE 130 := by kernel_rfl
theorem t131 : tiOf Tryz.prog 131 = tE 131 := by kernel_rfl
theorem t132 : tiOf Tryz.prog 132 = tE 132 := by kernel_rfl
theorem t133 : tiOf Tryz.prog 133 = tE 133 := by kernel_rfl
theorem t134 : tiOf Tryz.prog 134 = tE 134 := by kernel_rfl
theorem t135 : tiOf Tryz.prog 135 = tE 135 := by kernel_rfl
theorem t136 : tiOf Tryz.prog 136 = tE 136 := by kernel_rfl
theorem t137 : tiOf Tryz.prog 137 = tE 137 := by kernel_rfl
theorem t138 : tiOf Tryz.prog 138 = tE 138 := by kernel_rfl
theorem t139 : tiOf Tryz.prog 139 = tE 139 := by kernel_rfl
theorem t140 : tiOf Tryz.prog 140 = tE 140 := by kernel_rfl
theorem t141 : tiOf Tryz.prog 141 = tE 141 := by kernel_rfl
theorem t142 : tiOf Tryz.prog 142 = tE 142 := by kernel_rfl
theorem t143 : tiOf Tryz.prog 143 = tE 143 := by kernel_rfl
theorem t144 : tiOf Tryz.prog 144 = tE 144 := by kernel_rfl
theorem t145 : tiOf Tryz.prog 145 = tE 145 := by kernel_rfl
theorem t146 : tiOf Tryz.prog 146 = tE 146 := by kernel_rfl
theorem t148 : tiOf Tryz.prog 148 = tE 148 := by kernel_rfl
theorem t149 : tiOf Tryz.prog 149 = tE 149 := by kernel_rfl
theorem t150 : tiOf Tryz.prog 150 = tE 150 := by kernel_rfl
theorem t151 : tiOf Tryz.prog 151 = tE 151 := by kernel_rfl
theorem t152 : tiOf Tryz.prog 152 = tE 152 := by kernel_rfl
theorem t153 : tiOf Tryz.prog 153 = tE 153 := by kernel_rfl
theorem t154 : tiOf Tryz.prog 154 = tE 154 := by kernel_rfl
theorem t155 : tiOf Tryz.prog 155 = tE 155 := by kernel_rfl
theorem t156 : tiOf Tryz.prog 156 = tE 156 := by kernel_rfl
theorem t157 : tiOf Tryz.prog 157 = tE 157 := by kernel_rfl
theorem t158 : tiOf Tryz.prog 158 = tE 158 := by kernel_rfl
theorem t159 : tiOf Tryz.prog 159 = tE 159 := by kernel_rfl
theorem t160 : tiOf Tryz.prog 160 = tE 160 := by kernel_rfl
theorem t162 : tiOf Tryz.prog 162 = tE 162 := by kernel_rfl
theorem t163 : tiOf Tryz.prog 163 = tE 163 := by kernel_rfl
theorem t164 : tiOf Tryz.prog 164 = tE 164 := by kernel_rfl
theorem t165 : tiOf Tryz.prog 165 = tE 165 := by kernel_rfl
theorem t167 : tiOf Tryz.prog 167 = tE 167 := by kernel_rfl
theorem t168 : tiOf Tryz.prog 168 = tE 168 := by kernel_rfl
theorem t169 : tiOf Tryz.prog 169 = tE 169 := by kernel_rfl
theorem t170 : tiOf Tryz.prog 170 = tE 170 := by kernel_rfl
theorem t171 : tiOf Tryz.prog 171 = tE 171 := by kernel_rfl
theorem t172 : tiOf Tryz.prog 172 = tE 172 := by kernel_rfl
theorem t173 : tiOf Tryz.prog 173 = tE 173 := by kernel_rfl
theorem t174 : tiOf Tryz.prog 174 = tE 174 := by kernel_rfl
theorem t175 : tiOf Tryz.prog 175 = tE 175 := by kernel_rfl
theorem t176 : tiOf Tryz.prog 176 = tE 176 := by kernel_rfl
theorem t177 : tiOf Tryz.prog 177 = tE 177 := by kernel_rfl
theorem t178 : tiOf Tryz.prog 178 = tE 178 := by kernel_rfl
theorem t179 : tiOf Tryz.prog 179 = tE 179 := by kernel_rfl
theorem t180 : tiOf Tryz.prog 180 = tE 180 := by kernel_rfl
theorem t181 : tiOf Tryz.prog 181 = tE 181 := by kernel_rfl
theorem t182 : tiOf Tryz.prog 182 = tE 182 := by kernel_rfl
theorem t183 : tiOf Tryz.prog 183 = tE 183 := by kernel_rfl
theorem t185 : tiOf Tryz.prog 185 = tE 185 := by kernel_rfl
theorem t186 : tiOf Tryz.prog 186 = tE 186 := by kernel_rfl
theorem t187 : tiOf Tryz.prog 187 = tE 187 := by kernel_rfl
theorem t188 : tiOf Tryz.prog 188 = tE 188 := by kernel_rfl
theorem t189 : tiOf Tryz.prog 189 = tE 189 := by kernel_rfl
theorem t190 : tiOf Tryz.prog 190 = tE 190 := by kernel_rfl
theorem t191 : tiOf Tryz.prog 191 = tE 191 := by kernel_rfl
theorem t192 : tiOf Tryz.prog 192 = tE 192 := by kernel_rfl
theorem t193 : tiOf Tryz.prog 193 = tE 193 := by kernel_rfl
theorem t194 : tiOf Tryz.prog 194 = tE 194 := by kernel_rfl
theorem t195 : tiOf Tryz.prog 195 = tE 195 := by kernel_rfl
theorem t197 : tiOf Tryz.prog 197 = tE 197 := by kernel_rfl
theorem t198 : tiOf Tryz.prog 198 = tE 198 := by kernel_rfl
theorem t199 : tiOf Tryz.prog 199 = tE 199 := by kernel_rfl
theorem t200 : tiOf Tryz.prog 200 = tE 200 := by kernel_rfl
theorem t202 : tiOf Tryz.prog 202 = tE 202 := by kernel_rfl
theorem t204 : tiOf Tryz.prog 204 = tE 204 := by kernel_rfl
theorem t205 : tiOf Tryz.prog 205 = tE 205 := by kernel_rfl
theorem t206 : tiOf Tryz.prog 206 = tE 206 := by kernel_rfl
theorem t207 : tiOf Tryz.prog 207 = tE 207 := by kernel_rfl
theorem t208 : tiOf Tryz.prog 208 = tE 208 := by kernel_rfl
theorem t209 : tiOf Tryz.prog 209 = tE 209 := by kernel_rfl
theorem t210 : tiOf Tryz.prog 210 = tE 210 := by kernel_rfl
theorem t211 : tiOf Tryz.prog 211 = tE 211 := by kernel_rfl
theorem t212 : tiOf Tryz.prog 212 = tE 212 := by kernel_rfl
theorem t213 : tiOf Tryz.prog 213 = tE 213 := by kernel_rfl
theorem t214 : tiOf Tryz.prog 214 = tE 214 := by kernel_rfl
theorem t215 : tiOf Tryz.prog 215 = tE 215 := by kernel_rfl
theorem t216 : tiOf Tryz.prog 216 = tE 216 := by kernel_rfl
theorem t217 : tiOf Tryz.prog 217 = tE 217 := by kernel_rfl
theorem t218 : tiOf Tryz.prog 218 = tE 218 := by kernel_rfl
theorem t219 : tiOf Tryz.prog 219 = tE 219 := by kernel_rfl
theorem t220 : tiOf Tryz.prog 220 = tE 220 := by kernel_rfl
theorem t221 : tiOf Tryz.prog 221 = tE 221 := by kernel_rfl
theorem t222 : tiOf Tryz.prog 222 = tE 222 := by kernel_rfl
theorem t223 : tiOf Tryz.prog 223 = tE 223 := by kernel_rfl
theorem t224 : tiOf Tryz.prog 224 = tE 224 := by kernel_rfl
theorem t225 : tiOf Tryz.prog 225 = tE 225 := by kernel_rfl
theorem t226 : tiOf Tryz.prog 226 = tE 226 := by kernel_rfl
theorem t227 : tiOf Tryz.prog 227 = tE 227 := by kernel_rfl
theorem t228 : tiOf Tryz.prog 228 = tE 228 := by kernel_rfl
theorem t229 : tiOf Tryz.prog 229 = tE 229 := by kernel_rfl
theorem t230 : tiOf Tryz.prog 230 = tE 230 := by kernel_rfl
theorem t231 : tiOf Tryz.prog 231 = tE 231 := by kernel_rfl
theorem t232 : tiOf Tryz.prog 232 = tE 232 := by kernel_rfl
theorem t233 : tiOf Tryz.prog 233 = tE 233 := by kernel_rfl
theorem t234 : tiOf Tryz.prog 234 = tE 234 := by kernel_rfl
theorem t235 : tiOf Tryz.prog 235 = tE 235 := by kernel_rfl
theorem t236 : tiOf Tryz.prog 236 = tE 236 := by kernel_rfl
theorem t237 : tiOf Tryz.prog 237 = tE 237 := by kernel_rfl
theorem t238 : tiOf Tryz.prog 238 = tE 238 := by kernel_rfl
theorem t239 : tiOf Tryz.prog 239 = tE 239 := by kernel_rfl
theorem t240 : tiOf Tryz.prog 240 = tE 240 := by kernel_rfl
theorem t241 : tiOf Tryz.prog 241 = tE 241 := by kernel_rfl
theorem t242 : tiOf Tryz.prog 242 = tE 242 := by kernel_rfl
theorem t243 : tiOf Tryz.prog 243 = tE 243 := by kernel_rfl
theorem t245 : tiOf Tryz.prog 245 = tE 245 := by kernel_rfl
theorem t246 : tiOf Tryz.prog 246 = tE 246 := by kernel_rfl
theorem t247 : tiOf Tryz.prog 247 = tE 247 := by kernel_rfl
theorem t248 : tiOf Tryz.prog 248 = tE 248 := by kernel_rfl
theorem t249 : tiOf Tryz.prog 249 = tE 249 := by kernel_rfl
theorem t250 : tiOf Tryz.prog 250 = tE 250 := by kernel_rfl
theorem t251 : tiOf Tryz.prog 251 = tE 251 := by kernel_rfl
theorem t252 : tiOf Tryz.prog 252 = tE 252 := by kernel_rfl
theorem t253 : tiOf Tryz.prog 253 = tE 253 := by kernel_rfl
theorem t254 : tiOf Tryz.prog 254 = tE 254 := by kernel_rfl
theorem t255 : tiOf Tryz.prog 255 = tE 255 := by kernel_rfl
theorem t256 : tiOf Tryz.prog 256 = tE 256 := by kernel_rfl
theorem t257 : tiOf Tryz.prog 257 = tE 257 := by kernel_rfl
theorem t258 : tiOf Tryz.prog 258 = tE 258 := by kernel_rfl
theorem t259 : tiOf Tryz.prog 259 = tE 259 := by kernel_rfl
theorem t260 : tiOf Tryz.prog 260 = tE 260 := by kernel_rfl
theorem t261 : tiOf Tryz.prog 261 = tE 261 := by kernel_rfl
theorem t262 : tiOf Tryz.prog 262 = tE 262 := by kernel_rfl
theorem t263 : tiOf Tryz.prog 263 = tE 263 := by kernel_rfl
theorem t264 : tiOf Tryz.prog 264 = tE 264 := by kernel_rfl
theorem t265 : tiOf Tryz.prog 265 = tE 265 := by kernel_rfl
theorem t266 : tiOf Tryz.prog 266 = tE 266 := by kernel_rfl
theorem t267 : tiOf Tryz.prog 267 = tE 267 := by kernel_rfl
theorem t268 : tiOf Tryz.prog 268 = tE 268 := by kernel_rfl
theorem t270 : tiOf Tryz.prog 270 = tE 270 := by kernel_rfl
theorem t271 : tiOf Tryz.prog 271 = tE 271 := by kernel_rfl
theorem t272 : tiOf Tryz.prog 272 = tE 272 := by kernel_rfl
theorem t273 : tiOf Tryz.prog 273 = tE 273 := by kernel_rfl
theorem t274 : tiOf Tryz.prog 274 = tE 274 := by kernel_rfl
theorem t275 : tiOf Tryz.prog 275 = tE 275 := by kernel_rfl
theorem t276 : tiOf Tryz.prog 276 = tE 276 := by kernel_rfl
theorem t277 : tiOf Tryz.prog 277 = tE 277 := by kernel_rfl
theorem t278 : tiOf Tryz.prog 278 = tE 278 := by kernel_rfl
theorem t279 : tiOf Tryz.prog 279 = tE 279 := by kernel_rfl
theorem t280 : tiOf Tryz.prog 280 = tE 280 := by kernel_rfl
theorem t282 : tiOf Tryz.prog 282 = tE 282 := by kernel_rfl
theorem t283 : tiOf Tryz.prog 283 = tE 283 := by kernel_rfl
theorem t284 : tiOf Tryz.prog 284 = tE 284 := by kernel_rfl
theorem t285 : tiOf Tryz.prog 285 = tE 285 := by kernel_rfl
theorem t286 : tiOf Tryz.prog 286 = tE 286 := by kernel_rfl
theorem t287 : tiOf Tryz.prog 287 = tE 287 := by kernel_rfl
theorem t288 : tiOf Tryz.prog 288 = tE 288 := by kernel_rfl
theorem t289 : tiOf Tryz.prog 289 = tE 289 := by kernel_rfl
theorem t290 : tiOf Tryz.prog 290 = tE 290 := by kernel_rfl
theorem t291 : tiOf Tryz.prog 291 = tE 291 := by kernel_rfl
theorem t292 : tiOf Tryz.prog 292 = tE 292 := by kernel_rfl
theorem t293 : tiOf Tryz.prog 293 = tE 293 := by kernel_rfl
theorem t294 : tiOf Tryz.prog 294 = tE 294 := by kernel_rfl
theorem t295 : tiOf Tryz.prog 295 = tE 295 := by kernel_rfl
theorem t296 : tiOf Tryz.prog 296 = tE 296 := by kernel_rfl
theorem t297 : tiOf Tryz.prog 297 = tE 297 := by kernel_rfl
theorem t298 : tiOf Tryz.prog 298 = tE 298 := by kernel_rfl
theorem t300 : tiOf Tryz.prog 300 = tE 300 := by kernel_rfl
theorem t301 : tiOf Tryz.prog 301 = tE 301 := by kernel_rfl
theorem t302 : tiOf Tryz.prog 302 = tE 302 := by kernel_rfl
theorem t303 : tiOf Tryz.prog 303 = tE 303 := by kernel_rfl
theorem t304 : tiOf Tryz.prog 304 = tE 304 := by kernel_rfl
theorem t305 : tiOf Tryz.prog 305 = tE 305 := by kernel_rfl
theorem t306 : tiOf Tryz.prog 306 = tE 306 := by kernel_rfl
theorem t307 : tiOf Tryz.prog 307 = tE 307 := by kernel_rfl
theorem t308 : tiOf Tryz.prog 308 = tE 308 := by kernel_rfl
theorem t309 : tiOf Tryz.prog 309 = tE 309 := by kernel_rfl
theorem t310 : tiOf Tryz.prog 310 = tE 310 := by kernel_rfl
theorem t311 : tiOf Tryz.prog 311 = tE 311 := by kernel_rfl
theorem t312 : tiOf Tryz.prog 312 = tE 312 := by kernel_rfl
theorem t313 : tiOf Tryz.prog 313 = tE 313 := by kernel_rfl
theorem t314 : tiOf Tryz.prog 314 = tE 314 := by kernel_rfl
theorem t315 : tiOf Tryz.prog 315 = tE 315 := by kernel_rfl
theorem t316 : tiOf Tryz.prog 316 = tE 316 := by kernel_rfl
theorem t317 : tiOf Tryz.prog 317 = tE 317 := by kernel_rfl
theorem t318 : tiOf Tryz.prog 318 = tE 318 := by kernel_rfl
theorem t319 : tiOf Tryz.prog 319 = tE 319 := by kernel_rfl
theorem t320 : tiOf Tryz.prog 320 = tE 320 := by kernel_rfl
theorem t321 : tiOf Tryz.prog 321 = tE 321 := by kernel_rfl
theorem tab_all : tabAll Tryz.prog 0 tabT := by
 refine And.intro t1 ?_
 refine And.intro t2 ?_
 refine And.intro t3 ?_
 refine And.intro t4 ?_
 refine And.intro t5 ?_
 refine And.intro t6 ?_
 refine And.intro t7 ?_
 refine And.intro t8 ?_
 refine And.intro t9 ?_
 refine And.intro t10 ?_
 refine And.intro t11 ?_
 refine And.intro t12 ?_
 refine And.intro t13 ?_
 refine And.intro t14 ?_
 refine And.intro t15 ?_
 refine And.intro t16 ?_
 refine And.intro t17 ?_
 refine And.intro t18 ?_
 refine And.intro t19 ?_
 refine And.intro t20 ?_
 refine And.intro t21 ?_
 refine And.intro t22 ?_
 refine And.intro t23 ?_
 refine And.intro t24 ?_
 refine And.intro t25 ?_
 refine And.intro t26 ?_
 refine And.intro t27 ?_
 refine And.intro t28 ?_
 refine And.intro t29 ?_
 refine And.intro t30 ?_
 refine And.intro t32 ?_
 refine And.intro t33 ?_
 refine And.intro t34 ?_
 refine And.intro t36 ?_
 refine And.intro t37 ?_
 refine And.intro t38 ?_
 refine And.intro t39 ?_
 refine And.intro t40 ?_
 refine And.intro t41 ?_
 refine And.intro t42 ?_
 refine And.intro t43 ?_
 refine And.intro t44 ?_
 refine And.intro t45 ?_
 refine And.intro t46 ?_
 refine And.intro t47 ?_
 refine And.intro t48 ?_
 refine And.intro t49 ?_
 refine And.intro t50 ?_
 refine And.intro t51 ?_
 refine And.intro t52 ?_
 refine And.intro t53 ?_
 refine And.intro t54 ?_
 refine And.intro t55 ?_
 refine And.intro t56 ?_
 refine And.intro t57 ?_
 refine And.intro t59 ?_
 refine And.intro t60 ?_
 refine And.intro t61 ?_
 refine And.intro t62 ?_
 refine And.intro t63 ?_
 refine And.intro t64 ?_
 refine And.intro t65 ?_
 refine And.intro t66 ?_
 refine And.intro t67 ?_
 refine And.intro t68 ?_
 refine And.intro t69 ?_
 refine And.intro t70 ?_
 refine And.intro t71 ?_
 refine And.intro t72 ?_
 refine And.intro t73 ?_
 refine And.intro t74 ?_
 refine And.intro t75 ?_
 refine And.intro t76 ?_
 refine And.intro t77 ?_
 refine And.intro t78 ?_
 refine And.intro t79 ?_
 refine And.intro t80 ?_
 refine And.intro t81 ?_
 refine And.intro t82 ?_
 refine And.intro t83 ?_
 refine And.intro t84 ?_
 refine And.intro t85 ?_
 refine And.intro t86 ?_
 refine And.intro t87 ?_
 refine And.intro t88 ?_
 refine And.intro t89 ?_
 refine And.intro t90 ?_
 refine And.intro t91 ?_
 refine And.intro t93 ?_
 refine And.intro t94 ?_
 refine And.intro t95 ?_
 refine And.intro t96 ?_
 refine And.intro t97 ?_
 refine And.intro t98 ?_
 refine And.intro t99 ?_
 refine And.intro t100 ?_
 refine And.intro t101 ?_
 refine And.intro t102 ?_
 refine And.intro t103 ?_
 refine And.intro t104 ?_
 refine And.intro t105 ?_
 refine And.intro t106 ?_
 refine And.intro t107 ?_
 refine And.intro t108 ?_
 refine And.intro t110 ?_
 refine And.intro t111 ?_
 refine And.intro t112 ?_
 refine And.intro t113 ?_
 refine And.intro t114 ?_
 refine And.intro t116 ?_
 refine And.intro t117 ?_
 refine And.intro t118 ?_
 refine And.intro t119 ?_
 refine And.intro t121 ?_
 refine And.intro t122 ?_
 refine And.intro t124 ?_
 refine And.intro t125 ?_
 refine And.intro t126 ?_
 refine And.intro t127 ?_
 refine And.intro t128 ?_
 refine And.intro t129 ?_
 refine And.intro t130 ?_
 refine And.intro t131 ?_
 refine And.intro t132 ?_
 refine And.intro t133 ?_
 refine And.intro t134 ?_
 refine And.intro t135 ?_
 refine And.intro t136 ?_
 refine And.intro t137 ?_
 refine And.intro t138 ?_
 refine And.intro t139 ?_
 refine And.intro t140 ?_
 refine And.intro t141 ?_
 refine And.intro t142 ?_
 refine And.intro t143 ?_
 refine And.intro t144 ?_
 refine And.intro t145 ?_
 refine And.intro t146 ?_
 refine And.intro t148 ?_
 refine And.intro t149 ?_
 refine And.intro t150 ?_
 refine And.intro t151 ?_
 refine And.intro t152 ?_
 refine And.intro t153 ?_
 refine And.intro t154 ?_
 refine And.intro t155 ?_
 refine And.intro t156 ?_
 refine And.intro t157 ?_
 refine And.intro t158 ?_
 refine And.intro t159 ?_
 refine And.intro t160 ?_
 refine And.intro t162 ?_
 refine And.intro t163 ?_
 refine And.intro t164 ?_
 refine And.intro t165 ?_
 refine And.intro t167 ?_
 refine And.intro t168 ?_
 refine And.intro t169 ?_
 refine And.intro t170 ?_
 refine And.intro t171 ?_
 refine And.intro t172 ?_
 refine And.intro t173 ?_
 refine And.intro t174 ?_
 refine And.intro t175 ?_
 refine And.intro t176 ?_
 refine And.intro t177 ?_
 refine And.intro t178 ?_
 refine And.intro t179 ?_
 refine And.intro t180 ?_
 refine And.intro t181 ?_
 refine And.intro t182 ?_
 refine And.intro t183 ?_
 refine And.intro t185 ?_
 refine And.intro t186 ?_
 refine And.intro t187 ?_
 refine And.intro t188 ?_
 refine And.intro t189 ?_
 refine And.intro t190 ?_
 refine And.intro t191 ?_
 refine And.intro t192 ?_
 refine And.intro t193 ?_
 refine And.intro t194 ?_
 refine And.intro t195 ?_
 refine And.intro t197 ?_
 refine And.intro t198 ?_
 refine And.intro t199 ?_
 refine And.intro t200 ?_
 refine And.intro t202 ?_
 refine And.intro t204 ?_
 refine And.intro t205 ?_
 refine And.intro t206 ?_
 refine And.intro t207 ?_
 refine And.intro t208 ?_
 refine And.intro t209 ?_
 refine And.intro t210 ?_
 refine And.intro t211 ?_
 refine And.intro t212 ?_
 refine And.intro t213 ?_
 refine And.intro t214 ?_
 refine And.intro t215 ?_
 refine And.intro t216 ?_
 refine And.intro t217 ?_
 refine And.intro t218 ?_
 refine And.intro t219 ?_
 refine And.intro t220 ?_
 refine And.intro t221 ?_
 refine And.intro t222 ?_
 refine And.intro t223 ?_
 refine And.intro t224 ?_
 refine And.intro t225 ?_
 refine And.intro t226 ?_
 refine And.intro t227 ?_
 refine And.intro t228 ?_
 refine And.intro t229 ?_
 refine And.intro t230 ?_
 refine And.intro t231 ?_
 refine And.intro t232 ?_
 refine And.intro t233 ?_
 refine And.intro t234 ?_
 refine And.intro t235 ?_
 refine And.intro t236 ?_
 refine And.intro t237 ?_
 refine And.intro t238 ?_
 refine And.intro t239 ?_
 refine And.intro t240 ?_
 refine And.intro t241 ?_
 refine And.intro t242 ?_
 refine And.intro t243 ?_
 refine And.intro t245 ?_
 refine And.intro t246 ?_
 refine And.intro t247 ?_
 refine And.intro t248 ?_
 refine And.intro t249 ?_
 refine And.intro t250 ?_
 refine And.intro t251 ?_
 refine And.intro t252 ?_
 refine And.intro t253 ?_
 refine And.intro t254 ?_
 refine And.intro t255 ?_
 refine And.intro t256 ?_
 refine And.intro t257 ?_
 refine And.intro t258 ?_
 refine And.intro t259 ?_
 refine And.intro t260 ?_
 refine And.intro t261 ?_
 refine And.intro t262 ?_
 refine And.intro t263 ?_
 refine And.intro t264 ?_
 refine And.intro t265 ?_
 refine And.intro t266 ?_
 refine And.intro t267 ?_
 refine And.intro t268 ?_
 refine And.intro t270 ?_
 refine And.intro t271 ?_
 refine And.intro t272 ?_
 refine And.intro t273 ?_
 refine And.intro t274 ?_
 refine And.intro t275 ?_
 refine And.intro t276 ?_
 refine And.intro t277 ?_
 refine And.intro t278 ?_
 refine And.intro t279 ?_
 refine And.intro t280 ?_
 refine And.intro t282 ?_
 refine And.intro t283 ?_
 refine And.intro t284 ?_
 refine And.intro t285 ?_
 refine And.intro t286 ?_
 refine And.intro t287 ?_
 refine And.intro t288 ?_
 refine And.intro t289 ?_
 refine And.intro t290 ?_
 refine And.intro t291 ?_
 refine And.intro t292 ?_
 refine And.intro t293 ?_
 refine And.intro t294 ?_
 refine And.intro t295 ?_
 refine And.intro t296 ?_
 refine And.intro t297 ?_
 refine And.intro t298 ?_
 refine And.intro t300 ?_
 refine And.intro t301 ?_
 refine And.intro t302 ?_
 refine And.intro t303 ?_
 refine And.intro t304 ?_
 refine And.intro t305 ?_
 refine And.intro t306 ?_
 refine And.intro t307 ?_
 refine And.intro t308 ?_
 refine And.intro t309 ?_
 refine And.intro t310 ?_
 refine And.intro t311 ?_
 refine And.intro t312 ?_
 refine And.intro t313 ?_
 refine And.intro t314 ?_
 refine And.intro t315 ?_
 refine And.intro t316 ?_
 refine And.intro t317 ?_
 refine And.intro t318 ?_
 refine And.intro t319 ?_
 refine And.intro t320 ?_
 refine And.intro t321 ?_
 exact trivial
theorem tab_ok : TabOk Tryz.prog tabT := fun t ti h => by have := tabAll_ok tabT 0 tab_all t ti h; rwa [Nat.zero_add] at this
theorem fns_all : fnAll Tryz.prog 0 tabG := by
 refine And.intro ⟨Tryz.f2, Tryz.func2, rfl, by kernel_rfl⟩ ?_
 refine And.intro ⟨Tryz.f3, Tryz.func3, rfl, by kernel_rfl⟩ ?_
 refine And.intro ⟨Tryz.f4, Tryz.func4, rfl, by kernel_rfl⟩ ?_
 refine And.intro ⟨Tryz.f5, Tryz.func5, rfl, by kernel_rfl⟩ ?_
 refine And.intro ⟨Tryz.f6, Tryz.func6, rfl, by kernel_rfl⟩ ?_
 refine And.intro ⟨Tryz.f7, Tryz.func7, rfl, by kernel_rfl⟩ ?_
 refine And.intro ⟨Tryz.f8, Tryz.func8, rfl, by kernel_rfl⟩ ?_
 refine And.intro ⟨Tryz.f9, Tryz.func9, rfl, by kernel_rfl⟩ ?_
 refine And.intro ⟨Tryz.f10, Tryz.func10, rfl, by kernel_rfl⟩ ?_
 refine And.intro ⟨Tryz.f11, Tryz.func11, rfl, by kernel_rfl⟩ ?_
 refine And.intro ⟨Tryz.f12, Tryz.func12, rfl, by kernel_rfl⟩ ?_
 refine And.intro ⟨Tryz.f13, Tryz.func13, rfl, by kernel_rfl⟩ ?_
 refine And.intro ⟨Tryz.f14, Tryz.func14, rfl, by kernel_rfl⟩ ?_
 refine And.intro ⟨Tryz.f15, Tryz.func15, rfl, by kernel_rfl⟩ ?_
 refine And.intro ⟨Tryz.f16, Tryz.func16, rfl, by kernel_rfl⟩ ?_
 refine And.intro ⟨Tryz.f17, Tryz.func17, rfl, by kernel_rfl⟩ ?_
 refine And.intro ⟨Tryz.f18, Tryz.func18, rfl, by kernel_rfl⟩ ?_
 refine And.intro ⟨Tryz.f19, Tryz.func19, rfl, by kernel_rfl⟩ ?_
 refine And.intro ⟨Tryz.f20, Tryz.func20, rfl, by kernel_rfl⟩ ?_
 refine And.intro ⟨Tryz.f21, Tryz.func21, rfl, by kernel_rfl⟩ ?_
 refine And.intro ⟨Tryz.f22, Tryz.func22, rfl, by kernel_rfl⟩ ?_
 refine And.intro ⟨Tryz.f23, Tryz.func23, rfl, by kernel_rfl⟩ ?_
 refine And.intro ⟨Tryz.f24, Tryz.func24, rfl, by kernel_rfl⟩ ?_
 refine And.intro ⟨Tryz.f25, Tryz.func25, rfl, by kernel_rfl⟩ ?_
 refine And.intro ⟨Tryz.f26, Tryz.func26, rfl, by kernel_rfl⟩ ?_
 refine And.intro ⟨Tryz.f27, Tryz.func27, rfl, by kernel_rfl⟩ ?_
 refine And.intro ⟨Tryz.f28, Tryz.func28, rfl, by kernel_rfl⟩ ?_
 refine And.intro ⟨Tryz.f29, Tryz.func29, rfl, by kernel_rfl⟩ ?_
 refine And.intro ⟨Tryz.f30, Tryz.func30, rfl, by kernel_rfl⟩ ?_
 refine And.intro ⟨Tryz.f31, Tryz.func31, rfl, by kernel_rfl⟩ ?_
 refine And.intro ⟨Tryz.f32, Tryz.func32, rfl, by kernel_rfl⟩ ?_
 refine And.intro ⟨Tryz.f33, Tryz.func33, rfl, by kernel_rfl⟩ ?_
 refine And.intro ⟨Tryz.f34, Tryz.func34, rfl, by kernel_rfl⟩ ?_
 refine And.intro ⟨Tryz.f35, Tryz.func35, rfl, by kernel_rfl⟩ ?_
 refine And.intro ⟨Tryz.f36, Tryz.func36, rfl, by kernel_rfl⟩ ?_
 refine And.intro ⟨Tryz.f37, Tryz.func37, rfl, by kernel_rfl⟩ ?_
 refine And.intro ⟨Tryz.f38, Tryz.func38, rfl, by kernel_rfl⟩ ?_
 refine And.intro ⟨Tryz.f39, Tryz.func39, rfl, by kernel_rfl⟩ ?_
 refine And.intro ⟨Tryz.f40, Tryz.func40, rfl, by kernel_rfl⟩ ?_
 refine And.intro ⟨Tryz.f41, Tryz.func41, rfl, by kernel_rfl⟩ ?_
 refine And.intro ⟨Tryz.f42, Tryz.func42, rfl, by kernel_rfl⟩ ?_
 refine And.intro ⟨Tryz.f43, Tryz.func43, rfl, by kernel_rfl⟩ ?_
 refine And.intro ⟨Tryz.f44, Tryz.func44, rfl, by kernel_rfl⟩ ?_
 refine And.intro ⟨Tryz.f45, Tryz.func45, rfl, by kernel_rfl⟩ ?_
 refine And.intro ⟨Tryz.f46, Tryz.func46, rfl, by kernel_rfl⟩ ?_
 refine And.intro ⟨Tryz.f47, Tryz.func47, rfl, by kernel_rfl⟩ ?_
 refine And.intro ⟨Tryz.f48, Tryz.func48, rfl, by kernel_rfl⟩ ?_
 refine And.intro ⟨Tryz.f49, Tryz.func49, rfl, by kernel_rfl⟩ ?_
 refine And.intro ⟨Tryz.f50, Tryz.func50, rfl, by kernel_rfl⟩ ?_
 refine And.intro ⟨Tryz.f51, Tryz.func51, rfl, by kernel_rfl⟩ ?_
 refine And.intro ⟨Tryz.f52, Tryz.func52, rfl, by kernel_rfl⟩ ?_
 refine And.intro ⟨Tryz.f53, Tryz.func53, rfl, by kernel_rfl⟩ ?_
 refine And.intro ⟨Tryz.f54, Tryz.func54, rfl, by kernel_rfl⟩ ?_
 refine And.intro ⟨Tryz.f56, Tryz.func56, rfl, by kernel_rfl⟩ ?_
 refine And.intro ⟨Tryz.f57, Tryz.func57, rfl, by kernel_rfl⟩ ?_
 refine And.intro ⟨Tryz.f59, Tryz.func59, rfl, by kernel_rfl⟩ ?_
 refine And.intro ⟨Tryz.f60, Tryz.func60, rfl, by kernel_rfl⟩ ?_
 refine And.intro ⟨Tryz.f61, Tryz.func61, rfl, by kernel_rfl⟩ ?_
 refine And.intro ⟨Tryz.f62, Tryz.func62, rfl, by kernel_rfl⟩ ?_
 refine And.intro ⟨Tryz.f63, Tryz.func63, rfl, by kernel_rfl⟩ ?_
 refine And.intro ⟨Tryz.f64, Tryz.func64, rfl, by kernel_rfl⟩ ?_
 refine And.intro ⟨Tryz.f65, Tryz.func65, rfl, by kernel_rfl⟩ ?_
 refine And.intro ⟨Tryz.f66, Tryz.func66, rfl, by kernel_rfl⟩ ?_
 refine And.intro ⟨Tryz.f67, Tryz.func67, rfl, by kernel_rfl⟩ ?_
 refine And.intro ⟨Tryz.f68, Tryz.func68, rfl, by kernel_rfl⟩ ?_
 refine And.intro ⟨Tryz.f69, Tryz.func69, rfl, by kernel_rfl⟩ ?_
 refine And.intro ⟨Tryz.f70, Tryz.func70, rfl, by kernel_rfl⟩ ?_
 refine And.intro ⟨Tryz.f71, Tryz.func71, rfl, by kernel_rfl⟩ ?_
 refine And.intro ⟨Tryz.f72, Tryz.func72, rfl, by kernel_rfl⟩ ?_
 refine And.intro ⟨Tryz.f73, Tryz.func73, rfl, by kernel_rfl⟩ ?_
 refine And.intro ⟨Tryz.f74, Tryz.func74, rfl, by kernel_rfl⟩ ?_
 refine And.intro ⟨Tryz.f75, Tryz.func75, rfl, by kernel_rfl⟩ ?_
 refine And.intro ⟨Tryz.f76, Tryz.func76, rfl, by kernel_rfl⟩ ?_
 refine And.intro ⟨Tryz.f77, Tryz.func77, rfl, by kernel_rfl⟩ ?_
 refine And.intro ⟨Tryz.f78, Tryz.func78, rfl, by kernel_rfl⟩ ?_
 refine And.intro ⟨Tryz.f79, Tryz.func79, rfl, by kernel_rfl⟩ ?_
 refine And.intro ⟨Tryz.f80, Tryz.func80, rfl, by kernel_rfl⟩ ?_
 refine And.intro ⟨Tryz.f81, Tryz.func81, rfl, by kernel_rfl⟩ ?_
 refine And.intro ⟨Tryz.f82, Tryz.func82, rfl, by kernel_rfl⟩ ?_
 refine And.intro ⟨Tryz.f83, Tryz.func83, rfl, by kernel_rfl⟩ ?_
 refine And.intro ⟨Tryz.f84, Tryz.func84, rfl, by kernel_rfl⟩ ?_
 refine And.intro ⟨Tryz.f85, Tryz.func85, rfl, by kernel_rfl⟩ ?_
 refine And.intro ⟨Tryz.f86, Tryz.func86, rfl, by kernel_rfl⟩ ?_
 refine And.intro ⟨Tryz.f87, Tryz.func87, rfl, by kernel_rfl⟩ ?_
 refine And.intro ⟨Tryz.f88, Tryz.func88, rfl, by kernel_rfl⟩ ?_
 refine And.intro ⟨Tryz.f89, Tryz.func89, rfl, by kernel_rfl⟩ ?_
 refine And.intro ⟨Tryz.f90, Tryz.func90, rfl, by kernel_rfl⟩ ?_
 refine And.intro ⟨Tryz.f91, Tryz.func91, rfl, by kernel_rfl⟩ ?_
 refine And.intro ⟨Tryz.f92, Tryz.func92, rfl, by kernel_rfl⟩ ?_
 refine And.intro ⟨Tryz.f93, Tryz.func93, rfl, by kernel_rfl⟩ ?_
 refine And.intro ⟨Tryz.f94, Tryz.func94, rfl, by kernel_rfl⟩ ?_
 refine And.intro ⟨Tryz.f95, Tryz.func95, rfl, by kernel_rfl⟩ ?_
 refine And.intro ⟨Tryz.f96, Tryz.func96, rfl, by kernel_rfl⟩ ?_
 refine And.intro ⟨Tryz.f97, Tryz.func97, rfl, by kernel_rfl⟩ ?_
 refine And.intro ⟨Tryz.f98, Tryz.func98, rfl, by kernel_rfl⟩ ?_
 refine And.intro ⟨Tryz.f99, Tryz.func99, rfl, by kernel_rfl⟩ ?_
 refine And.intro ⟨Tryz.f100, Tryz.func100, rfl, by kernel_rfl⟩ ?_
 refine And.intro ⟨Tryz.f101, Tryz.func101, rfl, by kernel_rfl⟩ ?_
 refine And.intro ⟨Tryz.f102, Tryz.func102, rfl, by kernel_rfl⟩ ?_
 refine And.intro ⟨Tryz.f103, Tryz.func103, rfl, by kernel_rfl⟩ ?_
 refine And.intro ⟨Tryz.f104, Tryz.func104, rfl, by kernel_rfl⟩ ?_
 refine And.intro ⟨Tryz.f105, Tryz.func105, rfl, by kernel_rfl⟩ ?_
 refine And.intro ⟨Tryz.f106, Tryz.func106, rfl, by kernel_rfl⟩ ?_
 refine And.intro ⟨Tryz.f107, Tryz.func107, rfl, by kernel_rfl⟩ ?_
 refine And.intro ⟨Tryz.f108, Tryz.func108, rfl, by kernel_rfl⟩ ?_
 refine And.intro ⟨Tryz.f109, Tryz.func109, rfl, by kernel_rfl⟩ ?_
 refine And.intro ⟨Tryz.f110, Tryz.func110, rfl, by kernel_rfl⟩ ?_
 refine And.intro ⟨Tryz.f111, Tryz.func111, rfl, by kernel_rfl⟩ ?_
 refine And.intro ⟨Tryz.f112, Tryz.func112, rfl, by kernel_rfl⟩ ?_
 refine And.intro ⟨Tryz.f113, Tryz.func113, rfl, by kernel_rfl⟩ ?_
 refine And.intro ⟨Tryz.f114, Tryz.func114, rfl, by kernel_rfl⟩ ?_
 refine And.intro ⟨Tryz.f115, Tryz.func115, rfl, by kernel_rfl⟩ ?_
 refine And.intro ⟨Tryz.f116, Tryz.func116, rfl, by kernel_rfl⟩ ?_
 refine And.intro ⟨Tryz.f117, Tryz.func117, rfl, by kernel_rfl⟩ ?_
 refine And.intro ⟨Tryz.f118, Tryz.func118, rfl, by kernel_rfl⟩ ?_
 refine And.intro ⟨Tryz.f119, Tryz.func119, rfl, by kernel_rfl⟩ ?_
 refine And.intro ⟨Tryz.f120, Tryz.func120, rfl, by kernel_rfl⟩ ?_
 refine And.intro ⟨Tryz.f122, Tryz.func122, rfl, by kernel_rfl⟩ ?_
 refine And.intro ⟨Tryz.f123, Tryz.func123, rfl, by kernel_rfl⟩ ?_
 refine And.intro ⟨Tryz.f124, Tryz.func124, rfl, by kernel_rfl⟩ ?_
 refine And.intro ⟨Tryz.f125, Tryz.func125, rfl, by kernel_rfl⟩ ?_
 refine And.intro ⟨Tryz.f126, Tryz.func126, rfl, by kernel_rfl⟩ ?_
 refine And.intro ⟨Tryz.f127, Tryz.func127, rfl, by kernel_rfl⟩ ?_
 refine And.intro ⟨Tryz.f128, Tryz.func128, rfl, by kernel_rfl⟩ ?_
 refine And.intro ⟨Tryz.f129, Tryz.func129, rfl, by kernel_rfl⟩ ?_
 refine And.intro ⟨Tryz.f130, Tryz.func130, rfl, by kernel_rfl⟩ ?_
 refine And.intro ⟨Tryz.f131, Tryz.func131, rfl, by kernel_rfl⟩ ?_
 refine And.intro ⟨Tryz.f132, Tryz.func132, rfl, by kernel_rfl⟩ ?_
 refine And.intro ⟨Tryz.f133, Tryz.func133, rfl, by kernel_rfl⟩ ?_
 refine And.intro ⟨Tryz.f134, Tryz.func134, rfl, by kernel_rfl⟩ ?_
 refine And.intro ⟨Tryz.f135, Tryz.func135, rfl, by kernel_rfl⟩ ?_
 refine And.intro ⟨Tryz.f136, Tryz.func136, rfl, by kernel_rfl⟩ ?_
 refine And.intro ⟨Tryz.f137, Tryz.func137, rfl, by kernel_rfl⟩ ?_
 refine And.intro ⟨Tryz.f138, Tryz.func138, rfl, by kernel_rfl⟩ ?_
 refine And.intro ⟨Tryz.f139, Tryz.func139, rfl, by kernel_rfl⟩ ?_
 refine And.intro ⟨Tryz.f140, Tryz.func140, rfl, by kernel_rfl⟩ ?_
 refine And.intro ⟨Tryz.f141, Tryz.func141, rfl, by kernel_rfl⟩ ?_
 refine And.intro ⟨Tryz.f142, Tryz.func142, rfl, by kernel_rfl⟩ ?_
 refine And.intro ⟨Tryz.f143, Tryz.func143, rfl, by kernel_rfl⟩ ?_
 refine And.intro ⟨Tryz.f144, Tryz.func144, rfl, by kernel_rfl⟩ ?_
 refine And.intro ⟨Tryz.f145, Tryz.func145, rfl, by kernel_rfl⟩ ?_
 refine And.intro ⟨Tryz.f146, Tryz.func146, rfl, by kernel_rfl⟩ ?_
 refine And.intro ⟨Tryz.f147, Tryz.func147, rfl, by kernel_rfl⟩ ?_
 refine And.intro ⟨Tryz.f148, Tryz.func148, rfl, by kernel_rfl⟩ ?_
 refine And.intro ⟨Tryz.f149, Tryz.func149, rfl, by kernel_rfl⟩ ?_
 refine And.intro ⟨Tryz.f150, Tryz.func150, rfl, by kernel_rfl⟩ ?_
 refine And.intro ⟨Tryz.f151, Tryz.func151, rfl, by kernel_rfl⟩ ?_
 refine And.intro ⟨Tryz.f152, Tryz.func152, rfl, by kernel_rfl⟩ ?_
 refine And.intro ⟨Tryz.f153, Tryz.func153, rfl, by kernel_rfl⟩ ?_
 refine And.intro ⟨Tryz.f154, Tryz.func154, rfl, by kernel_rfl⟩ ?_
 refine And.intro ⟨Tryz.f155, Tryz.func155, rfl, by kernel_rfl⟩ ?_
 refine And.intro ⟨Tryz.f156, Tryz.func156, rfl, by kernel_rfl⟩ ?_
 refine And.intro ⟨Tryz.f157, Tryz.func157, rfl, by kernel_rfl⟩ ?_
 refine And.intro ⟨Tryz.f158, Tryz.func158, rfl, by kernel_rfl⟩ ?_
 refine And.intro ⟨Tryz.f159, Tryz.func159, rfl, by kernel_rfl⟩ ?_
 refine And.intro ⟨Tryz.f160, Tryz.func160, rfl, by kernel_rfl⟩ ?_
 refine And.intro ⟨Tryz.f161, Tryz.func161, rfl, by kernel_rfl⟩ ?_
 refine And.intro ⟨Tryz.f162, Tryz.func162, rfl, by kernel_rfl⟩ ?_
 refine And.intro ⟨Tryz.f163, Tryz.func163, rfl, by kernel_rfl⟩ ?_
 refine And.intro ⟨Tryz.f164, Tryz.func164, rfl, by kernel_rfl⟩ ?_
 refine And.intro ⟨Tryz.f165, Tryz.func165, rfl, by kernel_rfl⟩ ?_
 refine And.intro ⟨Tryz.f166, Tryz.func166, rfl, by kernel_rfl⟩ ?_
 refine And.intro ⟨Tryz.f167, Tryz.func167, rfl, by kernel_rfl⟩ ?_
 refine And.intro ⟨Tryz.f169, Tryz.func169, rfl, by kernel_rfl⟩ ?_
 refine And.intro ⟨Tryz.f170, Tryz.func170, rfl, by kernel_rfl⟩ ?_
 refine And.intro ⟨Tryz.f171, Tryz.func171, rfl, by kernel_rfl⟩ ?_
 refine And.intro ⟨Tryz.f172, Tryz.func172, rfl, by kernel_rfl⟩ ?_
 refine And.intro ⟨Tryz.f173, Tryz.func173, rfl, by kernel_rfl⟩ ?_
 refine And.intro ⟨Tryz.f174, Tryz.func174, rfl, by kernel_rfl⟩ ?_
 refine And.intro ⟨Tryz.f175, Tryz.func175, rfl, by kernel_rfl⟩ ?_
 refine And.intro ⟨Tryz.f176, Tryz.func176, rfl, by kernel_rfl⟩ ?_
 refine And.intro ⟨Tryz.f177, Tryz.func177, rfl, by kernel_rfl⟩ ?_
 refine And.intro ⟨Tryz.f178, Tryz.func178, rfl, by kernel_rfl⟩ ?_
 refine And.intro ⟨Tryz.f179, Tryz.func179, rfl, by kernel_rfl⟩ ?_
 refine And.intro ⟨Tryz.f180, Tryz.func180, rfl, by kernel_rfl⟩ ?_
 refine And.intro ⟨Tryz.f181, Tryz.func181, rfl, by kernel_rfl⟩ ?_
 refine And.intro ⟨Tryz.f182, Tryz.func182, rfl, by kernel_rfl⟩ ?_
 refine And.intro ⟨Tryz.f184, Tryz.func184, rfl, by kernel_rfl⟩ ?_
 refine And.intro ⟨Tryz.f186, Tryz.func186, rfl, by kernel_rfl⟩ ?_
 refine And.intro ⟨Tryz.f187, Tryz.func187, rfl, by kernel_rfl⟩ ?_
 refine And.intro ⟨Tryz.f188, Tryz.func188, rfl, by kernel_rfl⟩ ?_
 refine And.intro ⟨Tryz.f189, Tryz.func189, rfl, by kernel_rfl⟩ ?_
 refine And.intro ⟨Tryz.f190, Tryz.func190, rfl, by kernel_rfl⟩ ?_
 refine And.intro ⟨Tryz.f191, Tryz.func191, rfl, by kernel_rfl⟩ ?_
 refine And.intro ⟨Tryz.f192, Tryz.func192, rfl, by kernel_rfl⟩ ?_
 refine And.intro ⟨Tryz.f193, Tryz.func193, rfl, by kernel_rfl⟩ ?_
 refine And.intro ⟨Tryz.f194, Tryz.func194, rfl, by kernel_rfl⟩ ?_
 refine And.intro ⟨Tryz.f195, Tryz.func195, rfl, by kernel_rfl⟩ ?_
 refine And.intro ⟨Tryz.f196, Tryz.func196, rfl, by kernel_rfl⟩ ?_
 refine And.intro ⟨Tryz.f201, Tryz.func201, rfl, by kernel_rfl⟩ ?_
 refine And.intro ⟨Tryz.f204, Tryz.func204, rfl, by kernel_rfl⟩ ?_
 refine And.intro ⟨Tryz.f205, Tryz.func205, rfl, by kernel_rfl⟩ ?_
 refine And.intro ⟨Tryz.f206, Tryz.func206, rfl, by kernel_rfl⟩ ?_
 refine And.intro ⟨Tryz.f207, Tryz.func207, rfl, by kernel_rfl⟩ ?_
 refine And.intro ⟨Tryz.f208, Tryz.func208, rfl, by kernel_rfl⟩ ?_
 refine And.intro ⟨Tryz.f209, Tryz.func209, rfl, by kernel_rfl⟩ ?_
 refine And.intro ⟨Tryz.f210, Tryz.func210, rfl, by kernel_rfl⟩ ?_
 refine And.intro ⟨Tryz.f211, Tryz.func211, rfl, by kernel_rfl⟩ ?_
 refine And.intro ⟨Tryz.f212, Tryz.func212, rfl, by kernel_rfl⟩ ?_
 refine And.intro ⟨Tryz.f213, Tryz.func213, rfl, by kernel_rfl⟩ ?_
 refine And.intro ⟨Tryz.f214, Tryz.func214, rfl, by kernel_rfl⟩ ?_
 refine And.intro ⟨Tryz.f215, Tryz.func215, rfl, by kernel_rfl⟩ ?_
 refine And.intro ⟨Tryz.f216, Tryz.func216, rfl, by kernel_rfl⟩ ?_
 refine And.intro ⟨Tryz.f217, Tryz.func217, rfl, by kernel_rfl⟩ ?_
 refine And.intro ⟨Tryz.f218, Tryz.func218, rfl, by kernel_rfl⟩ ?_
 refine And.intro ⟨Tryz.f219, Tryz.func219, rfl, by kernel_rfl⟩ ?_
 refine And.intro ⟨Tryz.f220, Tryz.func220, rfl, by kernel_rfl⟩ ?_
 refine And.intro ⟨Tryz.f221, Tryz.func221, rfl, by kernel_rfl⟩ ?_
 refine And.intro ⟨Tryz.f222, Tryz.func222, rfl, by kernel_rfl⟩ ?_
 refine And.intro ⟨Tryz.f223, Tryz.func223, rfl, by kernel_rfl⟩ ?_
 refine And.intro ⟨Tryz.f224, Tryz.func224, rfl, by kernel_rfl⟩ ?_
 refine And.intro ⟨Tryz.f225, Tryz.func225, rfl, by kernel_rfl⟩ ?_
 refine And.intro ⟨Tryz.f226, Tryz.func226, rfl, by kernel_rfl⟩ ?_
 refine And.intro ⟨Tryz.f227, Tryz.func227, rfl, by kernel_rfl⟩ ?_
 refine And.intro ⟨Tryz.f228, Tryz.func228, rfl, by kernel_rfl⟩ ?_
 refine And.intro ⟨Tryz.f229, Tryz.func229, rfl, by kernel_rfl⟩ ?_
 refine And.intro ⟨Tryz.f237, Tryz.func237, rfl, by kernel_rfl⟩ ?_
 refine And.intro ⟨Tryz.f238, Tryz.func238, rfl, by kernel_rfl⟩ ?_
 refine And.intro ⟨Tryz.f239, Tryz.func239, rfl, by kernel_rfl⟩ ?_
 refine And.intro ⟨Tryz.f240, Tryz.func240, rfl, by kernel_rfl⟩ ?_
 refine And.intro ⟨Tryz.f241, Tryz.func241, rfl, by kernel_rfl⟩ ?_
 refine And.intro ⟨Tryz.f242, Tryz.func242, rfl, by kernel_rfl⟩ ?_
 refine And.intro ⟨Tryz.f243, Tryz.func243, rfl, by kernel_rfl⟩ ?_
 refine And.intro ⟨Tryz.f244, Tryz.func244, rfl, by kernel_rfl⟩ ?_
 refine And.intro ⟨Tryz.f245, Tryz.func245, rfl, by kernel_rfl⟩ ?_
 refine And.intro ⟨Tryz.f246, Tryz.func246, rfl, by kernel_rfl⟩ ?_
 refine And.intro ⟨Tryz.f247, Tryz.func247, rfl, by kernel_rfl⟩ ?_
 refine And.intro ⟨Tryz.f248, Tryz.func248, rfl, by kernel_rfl⟩ ?_
 refine And.intro ⟨Tryz.f249, Tryz.func249, rfl, by kernel_rfl⟩ ?_
 refine And.intro ⟨Tryz.f250, Tryz.func250, rfl, by kernel_rfl⟩ ?_
 refine And.intro ⟨Tryz.f251, Tryz.func251, rfl, by kernel_rfl⟩ ?_
 refine And.intro ⟨Tryz.f252, Tryz.func252, rfl, by kernel_rfl⟩ ?_
 refine And.intro ⟨Tryz.f253, Tryz.func253, rfl, by kernel_rfl⟩ ?_
 refine And.intro ⟨Tryz.f254, Tryz.func254, rfl, by kernel_rfl⟩ ?_
 refine And.intro ⟨Tryz.f255, Tryz.func255, rfl, by kernel_rfl⟩ ?_
 refine And.intro ⟨Tryz.f256, Tryz.func256, rfl, by kernel_rfl⟩ ?_
 refine And.intro ⟨Tryz.f257, Tryz.func257, rfl, by kernel_rfl⟩ ?_
 refine And.intro ⟨Tryz.f258, Tryz.func258, rfl, by kernel_rfl⟩ ?_
 refine And.intro ⟨Tryz.f259, Tryz.func259, rfl, by kernel_rfl⟩ ?_
 refine And.intro ⟨Tryz.f260, Tryz.func260, rfl, by kernel_rfl⟩ ?_
 refine And.intro ⟨Tryz.f261, Tryz.func261, rfl, by kernel_rfl⟩ ?_
 refine And.intro ⟨Tryz.f262, Tryz.func262, rfl, by kernel_rfl⟩ ?_
 refine And.intro ⟨Tryz.f287, Tryz.func287, rfl, by kernel_rfl⟩ ?_
 exact trivial
theorem fns_ok : FnsOk Tryz.prog tabG := fun f h => by have := fnAll_ok tabG 0 fns_all f h; rwa [Nat.zero_add] at this
theorem exE {p : Prop} {i : Nat} (h : inE tabE i = true) : inE tabE i = false → p := fun h2 => by rw [h] at h2; cases h2
theorem ex13 {p : Prop} : inE tabE 13 = false → p := exE (by kernel_rfl)
theorem ex14 {p : Prop} : inE tabE 14 = false → p := exE (by kernel_rfl)
theorem ex18 {p : Prop} : inE tabE 18 = false → p := exE (by kernel_rfl)
theorem ex19 {p : Prop} : inE tabE 19 = false → p := exE (by kernel_rfl)
theorem ex67 {p : Prop} : inE tabE 67 = false → p := exE (by kernel_rfl)
theorem ex68 {p : Prop} : inE tabE 68 = false → p := exE (by kernel_rfl)
theorem ex71 {p : Prop} : inE tabE 71 = false → p := exE (by kernel_rfl)
theorem ex72 {p : Prop} : inE tabE 72 = false → p := exE (by kernel_rfl)
theorem ex73 {p : Prop} : inE tabE 73 = false → p := exE (by kernel_rfl)
theorem ex74 {p : Prop} : inE tabE 74 = false → p := exE (by kernel_rfl)
theorem ex78 {p : Prop} : inE tabE 78 = false → p := exE (by kernel_rfl)
theorem ex79 {p : Prop} : inE tabE 79 = false → p := exE (by kernel_rfl)
theorem ex310 {p : Prop} : inE tabE 310 = false → p := exE (by kernel_rfl)
theorem ex311 {p : Prop} : inE tabE 311 = false → p := exE (by kernel_rfl)
theorem ex313 {p : Prop} : inE tabE 313 = false → p := exE (by kernel_rfl)
theorem ex314 {p : Prop} : inE tabE 314 = false → p := exE (by kernel_rfl)
theorem ex320 {p : Prop} : inE tabE 320 = false → p := exE (by kernel_rfl)
theorem ex321 {p : Prop} : inE tabE 321 = false → p := exE (by kernel_rfl)
theorem held_all : heldAll Tryz.prog tabE 0 tabT := by
 iterate 6 refine And.intro (fun _ => trivial) ?_
 refine And.intro (fun _ => ⟨Tryz.stoodInHeld7, by kernel_rfl⟩) ?_
 refine And.intro (fun _ => ⟨Tryz.stoodInHeld8, by kernel_rfl⟩) ?_
 iterate 4 refine And.intro (fun _ => trivial) ?_
 refine And.intro ex13 ?_
 refine And.intro ex14 ?_
 iterate 3 refine And.intro (fun _ => trivial) ?_
 refine And.intro ex18 ?_
 refine And.intro ex19 ?_
 iterate 4 refine And.intro (fun _ => trivial) ?_
 refine And.intro (fun _ => ⟨Tryz.stoodInHeld24, by kernel_rfl⟩) ?_
 refine And.intro (fun _ => ⟨Tryz.stoodInHeld25, by kernel_rfl⟩) ?_
 iterate 15 refine And.intro (fun _ => trivial) ?_
 refine And.intro (fun _ => ⟨Tryz.stoodInHeld43, by kernel_rfl⟩) ?_
 refine And.intro (fun _ => ⟨Tryz.stoodInHeld44, by kernel_rfl⟩) ?_
 iterate 6 refine And.intro (fun _ => trivial) ?_
 refine And.intro (fun _ => ⟨Tryz.stoodInHeld51, by kernel_rfl⟩) ?_
 refine And.intro (fun _ => ⟨Tryz.stoodInHeld52, by kernel_rfl⟩) ?_
 refine And.intro (fun _ => trivial) ?_
 refine And.intro (fun _ => ⟨Tryz.stoodInHeld54, by kernel_rfl⟩) ?_
 refine And.intro (fun _ => ⟨Tryz.stoodInHeld55, by kernel_rfl⟩) ?_
 iterate 6 refine And.intro (fun _ => trivial) ?_
 refine And.intro (fun _ => ⟨Tryz.stoodInHeld63, by kernel_rfl⟩) ?_
 refine And.intro (fun _ => ⟨Tryz.stoodInHeld64, by kernel_rfl⟩) ?_
 refine And.intro (fun _ => ⟨Tryz.stoodInHeld65, by kernel_rfl⟩) ?_
 refine And.intro (fun _ => trivial) ?_
 refine And.intro ex67 ?_
 refine And.intro ex68 ?_
 refine And.intro (fun _ => ⟨Tryz.stoodInHeld69, by kernel_rfl⟩) ?_
 refine And.intro (fun _ => ⟨Tryz.stoodInHeld70, by kernel_rfl⟩) ?_
 refine And.intro ex71 ?_
 refine And.intro ex72 ?_
 refine And.intro ex73 ?_
 refine And.intro ex74 ?_
 refine And.intro (fun _ => ⟨Tryz.stoodInHeld75, by kernel_rfl⟩) ?_
 refine And.intro (fun _ => ⟨Tryz.stoodInHeld76, by kernel_rfl⟩) ?_
 refine And.intro (fun _ => ⟨Tryz.stoodInHeld77, by kernel_rfl⟩) ?_
 refine And.intro ex78 ?_
 refine And.intro ex79 ?_
 refine And.intro (fun _ => ⟨Tryz.stoodInHeld80, by kernel_rfl⟩) ?_
 refine And.intro (fun _ => ⟨Tryz.stoodInHeld81, by kernel_rfl⟩) ?_
 iterate 14 refine And.intro (fun _ => trivial) ?_
 refine And.intro (fun _ => ⟨Tryz.stoodInHeld97, by kernel_rfl⟩) ?_
 refine And.intro (fun _ => ⟨Tryz.stoodInHeld98, by kernel_rfl⟩) ?_
 refine And.intro (fun _ => ⟨Tryz.stoodInHeld99, by kernel_rfl⟩) ?_
 refine And.intro (fun _ => ⟨Tryz.stoodInHeld100, by kernel_rfl⟩) ?_
 iterate 36 refine And.intro (fun _ => trivial) ?_
 refine And.intro (fun _ => ⟨Tryz.stoodInHeld141, by kernel_rfl⟩) ?_
 refine And.intro (fun _ => ⟨Tryz.stoodInHeld142, by kernel_rfl⟩) ?_
 refine And.intro (fun _ => trivial) ?_
 refine And.intro (fun _ => trivial) ?_
 refine And.intro (fun _ => ⟨Tryz.stoodInHeld145, by kernel_rfl⟩) ?_
 refine And.intro (fun _ => ⟨Tryz.stoodInHeld146, by kernel_rfl⟩) ?_
 iterate 27 refine And.intro (fun _ => trivial) ?_
 refine And.intro (fun _ => ⟨Tryz.stoodInHeld177, by kernel_rfl⟩) ?_
 refine And.intro (fun _ => ⟨Tryz.stoodInHeld178, by kernel_rfl⟩) ?_
 refine And.intro (fun _ => trivial) ?_
 refine And.intro (fun _ => trivial) ?_
 refine And.intro (fun _ => ⟨Tryz.stoodInHeld181, by kernel_rfl⟩) ?_
 refine And.intro (fun _ => ⟨Tryz.stoodInHeld182, by kernel_rfl⟩) ?_
 iterate 5 refine And.intro (fun _ => trivial) ?_
 refine And.intro (fun _ => ⟨Tryz.stoodInHeld189, by kernel_rfl⟩) ?_
 refine And.intro (fun _ => ⟨Tryz.stoodInHeld190, by kernel_rfl⟩) ?_
 refine And.intro (fun _ => trivial) ?_
 refine And.intro (fun _ => ⟨Tryz.stoodInHeld192, by kernel_rfl⟩) ?_
 refine And.intro (fun _ => ⟨Tryz.stoodInHeld193, by kernel_rfl⟩) ?_
 iterate 24 refine And.intro (fun _ => trivial) ?_
 refine And.intro (fun _ => ⟨Tryz.stoodInHeld221, by kernel_rfl⟩) ?_
 refine And.intro (fun _ => ⟨Tryz.stoodInHeld222, by kernel_rfl⟩) ?_
 iterate 23 refine And.intro (fun _ => trivial) ?_
 refine And.intro (fun _ => ⟨Tryz.stoodInHeld247, by kernel_rfl⟩) ?_
 refine And.intro (fun _ => ⟨Tryz.stoodInHeld248, by kernel_rfl⟩) ?_
 iterate 58 refine And.intro (fun _ => trivial) ?_
 refine And.intro ex310 ?_
 refine And.intro ex311 ?_
 refine And.intro (fun _ => trivial) ?_
 refine And.intro ex313 ?_
 refine And.intro ex314 ?_
 iterate 5 refine And.intro (fun _ => trivial) ?_
 refine And.intro ex320 ?_
 refine And.intro ex321 ?_
 exact trivial
theorem hX : TabsOk Tryz.prog X := ⟨tab_ok, fns_ok, fun t ti h he => (by have := heldAll_ok tabT 0 held_all t ti h (by rwa [Nat.zero_add]); rwa [Nat.zero_add] at this), by kernel_rfl⟩
end Go.Ev
namespace Go.Proofs.YtaooenndoopgdaaGreatDoor.lz
open Go Go.Ev Go.Proofs
def isL (n : Nat) : Bool := decide ((97 ≤ n ∧ n ≤ 122) ∨ (65 ≤ n ∧ n ≤ 90))
def isD (n : Nat) : Bool := decide (48 ≤ n ∧ n ≤ 57)
def nmB (c : UInt8) : Bool := isL c.toNat || isD c.toNat || decide (c.toNat = 95)
def namedT (s : List UInt8) : Bool := s.all nmB && decide (s.length ≤ 20) && (match s with | [] => false | c :: _ => isL c.toNat)
theorem letter_fn (m : Mem) (n : Nat) (h : n < 256) : FnV Tryz.prog 59 [.int .u8 n] m (.bool (isL n)) := by
 refine Fn.enter (N := 17) hX Tryz.func59 rfl rfl (by show _ ≤ _; simp) (fun w0 hL => ?_)
 conv => whnf
 conv => whnf
 repeat' (first | ((first | refine zT ?_ | refine zF ?_ | refine zL hX hL ?_ | refine zB hX hL ?_ | (refine zS hX hL ?_; clear hL; intro w hL) | refine zI ?_ | refine zG hX ?_ | refine zO ?_); conv => whnf) | (refine BrReq.dec (fun _ => ?_) (fun _ => ?_) <;> (conv => whnf)) | (refine BrReq.not ?_; refine BrReq.dec (fun _ => ?_) (fun _ => ?_) <;> (conv => whnf)) | (refine BrReq.bool (fun _ => ?_) (fun _ => ?_) <;> (conv => whnf)))
 all_goals (refine RetReq.bool hL ?_; unfold isL; first | exact decide_eq_decide.2 (by omega) | exact (decide_eq_true (by omega)).symm | exact (decide_eq_false (by omega)).symm)
theorem digit_fn (m : Mem) (n : Nat) (h : n < 256) : FnV Tryz.prog 60 [.int .u8 n] m (.bool (isD n)) := by
 refine Fn.enter (N := 9) hX Tryz.func60 rfl rfl (by show _ ≤ _; simp) (fun w0 hL => ?_)
 conv => whnf
 conv => whnf
 repeat' (first | ((first | refine zT ?_ | refine zF ?_ | refine zL hX hL ?_ | refine zB hX hL ?_ | (refine zS hX hL ?_; clear hL; intro w hL) | refine zI ?_ | refine zG hX ?_ | refine zO ?_); conv => whnf) | (refine BrReq.dec (fun _ => ?_) (fun _ => ?_) <;> (conv => whnf)) | (refine BrReq.not ?_; refine BrReq.dec (fun _ => ?_) (fun _ => ?_) <;> (conv => whnf)) | (refine BrReq.bool (fun _ => ?_) (fun _ => ?_) <;> (conv => whnf)))
 all_goals (refine RetReq.bool hL ?_; unfold isD; first | exact decide_eq_decide.2 (by omega) | exact (decide_eq_true (by omega)).symm | exact (decide_eq_false (by omega)).symm)
theorem bs_get (l : List UInt8) (i : Nat) : (bs l).data[i]? = l[i]? := by simp
theorem named_fn (m : Mem) (s : List UInt8) (hl : s.length ≤ 1000000) : FnV Tryz.prog 35 [.string (bs s)] m (.bool (namedT s)) := by
 have hsz := bs_size s
 refine Fn.enter (N := 40) hX Tryz.func35 rfl rfl (by show _ ≤ _; simp) (fun w0 hL => ?_)
 conv => whnf
 refine go ?_;try(clear hL;intro w hL)
 refine LoopReq.inv hX (fun j : Nat => [(6, .int .i64 j)]) [0, 5]
  (fun j w => (j ≤ s.length ∧ (s.take j).all nmB = true) ∧ Ev.Loc m [] w0 m [] w) (fun j => s.length - j) 0
  ⟨⟨by omega, rfl⟩, hL⟩ ⟨rfl, trivial⟩ ?_
 clear hL
 rintro j w e ⟨⟨hj, hall⟩, hL⟩
 refine go ?_;try(clear hL;intro w hL)
 refine BrReq.dec (fun hlt => ?_) (fun hlt => ?_)
 ·have hj1 : j < s.length := by omega
  have hc := (s[j]).toNat_lt
  have htk : (s.take (j + 1)).all nmB = nmB s[j] := by rw [List.take_succ_eq_append_getElem hj1, List.all_append, hall]; simp
  have hg : (bs s).data[j]? = some s[j] := by rw [bs_get, List.getElem?_eq_getElem hj1]
  have hno : nmB s[j] = false → namedT s = false := fun h => by
   unfold namedT
   have : s.all nmB = false := by
    rw [List.all_eq_false]
    exact ⟨s[j], List.getElem_mem hj1, by simp [h]⟩
   rw [this]; rfl
  have hnm : nmB s[j] = (isL (s[j]).toNat || isD (s[j]).toNat || decide ((s[j]).toNat = 95)) := rfl
  rw [hnm] at htk hno
  clear hnm
  generalize s[j] = c at hc htk hg hno
  have h1 := letter_fn m c.toNat hc
  have h2 := digit_fn m c.toNat hc
  conv => whnf
  repeat ((first | refine StrIdxReq.mk j c rfl hg ?_ | (refine go1 ?_;try(clear hL;intro w hL))); conv => whnf)
  refine CallReq.val h1 hL ?_
  clear hL
  intro w hL
  cases e1 : isL c.toNat with
  | true =>
    refine go ?_;try(clear hL;intro w hL)
    exact rnd (j + 1) ⟨⟨by omega, by rw [htk, e1]; rfl⟩, hL⟩
  | false =>
    conv => whnf
    repeat ((first | refine StrIdxReq.mk j c rfl hg ?_ | (refine go1 ?_;try(clear hL;intro w hL))); conv => whnf)
    refine CallReq.val h2 hL ?_
    clear hL
    intro w hL
    cases e2 : isD c.toNat with
    | true =>
      refine go ?_;try(clear hL;intro w hL)
      exact rnd (j + 1) ⟨⟨by omega, by rw [htk, e1, e2]; rfl⟩, hL⟩
    | false =>
      conv => whnf
      repeat ((first | refine StrIdxReq.mk j c rfl hg ?_ | (refine go1 ?_;try(clear hL;intro w hL))); conv => whnf)
      refine BrReq.dec (fun h95 => ?_) (fun h95 => ?_)
      ·refine go ?_;try(clear hL;intro w hL)
       exact RetReq.bool hL (hno (by rw [e1, e2, decide_eq_false (by omega)]; rfl)).symm
      ·refine go ?_;try(clear hL;intro w hL)
       exact rnd (j + 1) ⟨⟨by omega, by rw [htk, e1, e2, decide_eq_true (by omega)]; rfl⟩, hL⟩
 ·have ej : j = s.length := by omega
  subst ej
  rw [List.take_length] at hall
  unfold namedT
  cases s with
  | nil =>
    conv => whnf
    repeat ((first | refine UGenReq.strNe rfl rfl rfl ?_ | (refine go1 ?_;try(clear hL;intro w hL))); conv => whnf)
    exact RetReq.bool hL (by simp)
  | cons c r =>
    have hc := c.toNat_lt
    have h1 := letter_fn m c.toNat hc
    have e0 : (bs (c :: r) == (⟨#[]⟩ : ByteArray)) = false := by rw [show (⟨#[]⟩ : ByteArray) = bs [] from rfl, bs_beq]; simp
    conv => whnf
    repeat ((first | refine UGenReq.strNe rfl rfl rfl ?_ | (refine go1 ?_;try(clear hL;intro w hL))); conv => whnf)
    rw [e0]
    refine go ?_;try(clear hL;intro w hL)
    refine BrReq.dec (fun h20 => ?_) (fun h20 => ?_)
    ·conv => whnf
     repeat ((first | refine StrIdxReq.mk 0 c rfl rfl ?_ | (refine go1 ?_;try(clear hL;intro w hL))); conv => whnf)
     refine CallReq.val h1 hL ?_
     clear hL
     intro w hL
     refine go ?_;try(clear hL;intro w hL)
     refine RetReq.bool hL ?_
     rw [hall, decide_eq_true (by omega)]; rfl
    ·refine go ?_;try(clear hL;intro w hL)
     refine RetReq.bool hL ?_
     rw [decide_eq_false (by omega)]; simp
end Go.Proofs.YtaooenndoopgdaaGreatDoor.lz
namespace Go.Proofs.YtaooenndoopgdaaGreatDoor.bd
open Go Go.Ev Go.Proofs
def isS (cs : List Value) (s : List UInt8) : Prop := cs = [.string (bs s)]
def jn (sep : List UInt8) : List (List UInt8) → List UInt8
 | [] => []
 | [a] => a
 | a :: b :: r => a ++ sep ++ jn sep (b :: r)
def jnT (sep : List UInt8) (l : List (List UInt8)) : List UInt8 := (l.map fun s => sep ++ s).flatten
theorem jn_cons (sep a : List UInt8) : ∀ (r : List (List UInt8)), jn sep (a :: r) = a ++ jnT sep r
 | [] => by simp [jn, jnT]
 | b :: r => by rw [jn, jn_cons sep b r]; simp [jnT]
def totL (l : List (List UInt8)) : Nat := (l.map List.length).sum
theorem totL_take {l : List (List UInt8)} {j : Nat} (h : j < l.length) : totL (l.take (j + 1)) = totL (l.take j) + l[j].length := by
 rw [List.take_succ_eq_append_getElem h]; unfold totL; rw [List.map_append, List.sum_append]; simp
theorem jnT_take (sep : List UInt8) {l : List (List UInt8)} {j : Nat} (h : j < l.length) : jnT sep (l.take (j + 1)) = jnT sep (l.take j) ++ sep ++ l[j] := by
 rw [List.take_succ_eq_append_getElem h]; unfold jnT; rw [List.map_append, List.flatten_append]; simp
theorem jnT_len (sep : List UInt8) : ∀ (l : List (List UInt8)), (jnT sep l).length = l.length * sep.length + totL l
 | [] => by simp [jnT, totL]
 | a :: l => by
   have := jnT_len sep l
   simp only [jnT, totL, List.map_cons, List.flatten_cons, List.length_append, List.length_cons, List.sum_cons] at this ⊢
   rw [this, Nat.succ_mul]; omega
theorem totL_le : ∀ {l : List (List UInt8)} (j : Nat), totL (l.take j) ≤ totL l
 | [], j => by simp
 | a :: l, 0 => by simp [totL]
 | a :: l, j + 1 => by have := totL_le (l := l) j; simp only [totL, List.take_succ_cons, List.map_cons, List.sum_cons] at this ⊢; omega
theorem tot_one {l : List (List UInt8)} {i : Nat} (h : i < l.length) : l[i].length ≤ totL l := by
 have := totL_take h
 have := totL_le (l := l) (i + 1)
 omega
theorem Sl.one {m : Mem} {A : Option Addr} {n c : Nat} {l : List (List UInt8)} (h : Sl m 1 isS (.slice A n c) l) {i : Nat} (hi : i < l.length) : ∃ a, A = some a ∧ mcell m (a.add (scale i 1)) = some (.string (bs l[i])) := by
 obtain ⟨a, cs, e1, e2, e3, rfl⟩ := Sl.elem h i _ (List.getElem?_eq_getElem hi)
 have := e3 0 _ rfl
 have add0 : ∀ x : Addr, x.add 0 = x := fun x => by cases x; rfl
 rw [add0] at this
 exact ⟨a, e1, this⟩
end Go.Proofs.YtaooenndoopgdaaGreatDoor.bd
namespace Go.Proofs.YtaooenndoopgdaaGreatDoor.tree
open Go Go.Ev Go.Proofs
inductive Re where
 | mk (kind s0 s1 s2 s3 : Int) (parts : List Re) (lo hi : Int) (neg : Bool)
def Re.kind : Re → Int | .mk k _ _ _ _ _ _ _ _ => k
def Re.parts : Re → List Re | .mk _ _ _ _ _ p _ _ _ => p
def Re.lo : Re → Int | .mk _ _ _ _ _ _ l _ _ => l
def Re.hi : Re → Int | .mk _ _ _ _ _ _ _ h _ => h
def Re.neg : Re → Bool | .mk _ _ _ _ _ _ _ _ n => n
def reC (k s0 s1 s2 s3 : Int) (v : Value) (lo hi : Int) (neg : Bool) : List Value :=
 [.int .i64 k, .int .u64 s0, .int .u64 s1, .int .u64 s2, .int .u64 s3, v, .int .i64 lo, .int .i64 hi, .bool neg]
def inI (z : Int) : Prop := -9223372036854775808 ≤ z ∧ z ≤ 9223372036854775807
def inU (z : Int) : Prop := 0 ≤ z ∧ z ≤ 18446744073709551615
inductive RepRe (m : Mem) : List Value → Re → Prop
 | mk (k s0 s1 s2 s3 lo hi : Int) (neg : Bool) (A : Option Addr) (n c : Nat) (rs : List Re) (css : Nat → List Value)
   (hk : inI k) (h0 : inU s0) (h1 : inU s1) (h2 : inU s2) (h3 : inU s3) (hlo : inI lo) (hhi : inI hi)
   (hn : n = rs.length) (hc : n ≤ c) (hm : c ≤ maxLen)
   (hcell : ∀ i, i < n → ∃ a, A = some a ∧ (css i).length = 9 ∧ Cells m (a.add (scale i 9)) (css i))
   (hrep : ∀ i r, rs[i]? = some r → RepRe m (css i) r) :
   RepRe m (reC k s0 s1 s2 s3 (.slice A n c) lo hi neg) (.mk k s0 s1 s2 s3 rs lo hi neg)
theorem RepRe.len {m : Mem} {cs : List Value} {r : Re} (h : RepRe m cs r) : cs.length = 9 := by cases h; rfl
theorem RepRe.le {m m' : Mem} (hm : Mem.Le m m') {cs : List Value} {r : Re} (h : RepRe m cs r) : RepRe m' cs r := by
 induction h with
 | mk k s0 s1 s2 s3 lo hi neg A n c rs css hk h0 h1 h2 h3 hlo hhi hn hc hmx hcell _ ih =>
   exact .mk k s0 s1 s2 s3 lo hi neg A n c rs css hk h0 h1 h2 h3 hlo hhi hn hc hmx (fun i hi => by obtain ⟨a, g1, g2, g3⟩ := hcell i hi; exact ⟨a, g1, g2, g3.le hm⟩) ih
theorem RepRe.open {m : Mem} {cs : List Value} {k s0 s1 s2 s3 lo hi : Int} {neg : Bool} {rs : List Re} (h : RepRe m cs (.mk k s0 s1 s2 s3 rs lo hi neg)) :
  ∃ A n c, cs = reC k s0 s1 s2 s3 (.slice A n c) lo hi neg ∧ Sl m 9 (RepRe m) (.slice A n c) rs ∧ (inI k ∧ inU s0 ∧ inU s1 ∧ inU s2 ∧ inU s3 ∧ inI lo ∧ inI hi) := by
 cases h with
 | mk _ _ _ _ _ _ _ _ A n c _ css hk h0 h1 h2 h3 hlo hhi hn hc hmx hcell hrep =>
   refine ⟨A, n, c, rfl, ⟨A, n, c, rfl, hn, hc, hmx, fun i x hx => ?_⟩, hk, h0, h1, h2, h3, hlo, hhi⟩
   have hi : i < n := by rw [hn]; exact (List.getElem?_eq_some_iff.1 hx).1
   obtain ⟨a, g1, g2, g3⟩ := hcell i hi
   exact ⟨a, css i, g1, g2, g3, hrep i x hx⟩
theorem RepRe.form {m : Mem} {cs : List Value} {r : Re} (h : RepRe m cs r) : ∃ k s0 s1 s2 s3 A n c lo hi neg, cs = reC k s0 s1 s2 s3 (.slice A n c) lo hi neg := by
 cases h; exact ⟨_, _, _, _, _, _, _, _, _, _, _, rfl⟩
theorem RepRe.shut {m : Mem} {k s0 s1 s2 s3 lo hi : Int} {neg : Bool} {rs : List Re} {A : Option Addr} {n c : Nat} (h : Sl m 9 (RepRe m) (.slice A n c) rs)
  (hr : inI k ∧ inU s0 ∧ inU s1 ∧ inU s2 ∧ inU s3 ∧ inI lo ∧ inI hi) : RepRe m (reC k s0 s1 s2 s3 (.slice A n c) lo hi neg) (.mk k s0 s1 s2 s3 rs lo hi neg) := by
 obtain ⟨hn, hc, hmx⟩ := h.lens
 have he := h.elem
 obtain ⟨hk, h0, h1, h2, h3, hlo, hhi⟩ := hr
 have : ∃ css : Nat → List Value, ∀ i x, rs[i]? = some x → ∃ a, A = some a ∧ (css i).length = 9 ∧ Cells m (a.add (scale i 9)) (css i) ∧ RepRe m (css i) x := by
  refine ⟨fun i => if hi : i < rs.length then Classical.choose (Classical.choose_spec (he i rs[i] (List.getElem?_eq_getElem hi))) else [], fun i x hx => ?_⟩
  obtain ⟨hi, rfl⟩ := List.getElem?_eq_some_iff.1 hx
  have := Classical.choose_spec (Classical.choose_spec (he i rs[i] (List.getElem?_eq_getElem hi)))
  simp only [dif_pos hi]
  exact ⟨_, this⟩
 obtain ⟨css, hcss⟩ := this
 refine .mk k s0 s1 s2 s3 lo hi neg A n c rs css hk h0 h1 h2 h3 hlo hhi hn hc hmx (fun i hi => ?_) (fun i r hr => (hcss i r hr).choose_spec.2.2.2)
 obtain ⟨a, g1, g2, g3, _⟩ := hcss i _ (List.getElem?_eq_getElem (by omega))
 exact ⟨a, g1, g2, g3⟩
theorem re_of {m : Mem} : ∀ (n : Nat) (cs : List Value), Rdf X m n 52 cs → ∃ r, RepRe m cs r := by
 intro n
 induction n using Nat.strongRecOn with
 | ind n ih =>
   intro cs h
   obtain ⟨hl, n', hn', hf⟩ := rdf_structL (ti := ⟨.struct [(0, 3), (1, 50), (5, 42), (6, 3), (7, 3), (8, 4)], 9, 88, [.int .i64 0, .int .u64 0, .int .u64 0, .int .u64 0, .int .u64 0, .slice none 0 0, .int .i64 0, .int .i64 0, .bool false]⟩) rfl rfl h
   match cs, hl with
   | [x0, x1, x2, x3, x4, x5, x6, x7, x8], _ =>
     obtain ⟨k, e0, hk⟩ := rdf_int (k := .i64) rfl rfl (hf 0 _ _ rfl rfl)
     obtain ⟨lo, e6, hlo⟩ := rdf_int (k := .i64) rfl rfl (hf 3 _ _ rfl rfl)
     obtain ⟨hi, e7, hhi⟩ := rdf_int (k := .i64) rfl rfl (hf 4 _ _ rfl rfl)
     obtain ⟨neg, e8⟩ := rdf_bool rfl rfl (hf 5 _ _ rfl rfl)
     obtain ⟨_, n2, _, ha⟩ := rdf_arrayL (k := 4) (e := 48) (te := ⟨.int .u64, 1, 8, [.int .u64 0]⟩) rfl rfl rfl (hf 1 _ _ rfl rfl)
     obtain ⟨s0, e1, h0⟩ := rdf_int (k := .u64) rfl rfl (ha 0 (by omega))
     obtain ⟨s1, e2, h1⟩ := rdf_int (k := .u64) rfl rfl (ha 1 (by omega))
     obtain ⟨s2, e3, h2⟩ := rdf_int (k := .u64) rfl rfl (ha 2 (by omega))
     obtain ⟨s3, e4, h3⟩ := rdf_int (k := .u64) rfl rfl (ha 3 (by omega))
     obtain ⟨A, len, c, l, e5, hs, _⟩ := rdf_sliceL (R := RepRe m) (te := ⟨.struct [(0, 3), (1, 50), (5, 42), (6, 3), (7, 3), (8, 4)], 9, 88, [.int .i64 0, .int .u64 0, .int .u64 0, .int .u64 0, .int .u64 0, .slice none 0 0, .int .i64 0, .int .i64 0, .bool false]⟩)
      rfl rfl rfl (fun n3 cs h3 _ h => ih n3 (by omega) cs h) (hf 2 _ _ rfl rfl)
     have e0 : [x0] = [Value.int .i64 k] := e0
     have e1 : [x1] = [Value.int .u64 s0] := e1
     have e2 : [x2] = [Value.int .u64 s1] := e2
     have e3 : [x3] = [Value.int .u64 s2] := e3
     have e4 : [x4] = [Value.int .u64 s3] := e4
     have e5 : [x5] = [Value.slice A len c] := e5
     have e6 : [x6] = [Value.int .i64 lo] := e6
     have e7 : [x7] = [Value.int .i64 hi] := e7
     have e8 : [x8] = [Value.bool neg] := e8
     cases e0; cases e1; cases e2; cases e3; cases e4; cases e5; cases e6; cases e7; cases e8
     exact ⟨_, RepRe.shut hs ⟨hk, h0, h1, h2, h3, hlo, hhi⟩⟩
def deepR : Nat → Re → Nat
 | 0, _ => 1
 | k + 1, r => (r.parts.map (deepR k)).foldl max 0 + 1
theorem foldl_max_le {B : Nat} : ∀ (l : List Nat) (a : Nat), a ≤ B → (∀ x ∈ l, x ≤ B) → l.foldl max a ≤ B := by
 intro l
 induction l with
 | nil => intro a h _; exact h
 | cons x l ih => intro a h hx; exact ih _ (Nat.max_le.2 ⟨h, hx x (by simp)⟩) fun y hy => hx y (by simp [hy])
theorem deepR_le : ∀ (k : Nat) (r : Re), deepR k r ≤ k + 1 := by
 intro k
 induction k with
 | zero => intro r; simp [deepR]
 | succ k ih =>
   intro r
   simp only [deepR]
   have := foldl_max_le (B := k + 1) (r.parts.map (deepR k)) 0 (by omega) (by intro x hx; obtain ⟨p, _, rfl⟩ := List.mem_map.1 hx; exact ih p)
   omega
def maxTo (f : Re → Nat) (rs : List Re) (k : Nat) : Nat := ((rs.take k).map f).foldl max 0
theorem maxTo_succ (f : Re → Nat) (rs : List Re) (k : Nat) (h : k < rs.length) : maxTo f rs (k + 1) = max (maxTo f rs k) (f rs[k]) := by
 unfold maxTo
 rw [List.take_succ_eq_append_getElem h]
 simp only [List.map_append, List.foldl_append, List.map_cons, List.map_nil, List.foldl_cons, List.foldl_nil]
theorem maxTo_le {f : Re → Nat} {B : Nat} (rs : List Re) (k : Nat) (h : ∀ r, f r ≤ B) : maxTo f rs k ≤ B :=
 foldl_max_le _ _ (Nat.zero_le _) (by intro x hx; obtain ⟨p, _, rfl⟩ := List.mem_map.1 hx; exact h p)
theorem deep_fn : ∀ (k : Nat) (m : Mem) (r : Re) (cs : List Value), RepRe m cs r → k ≤ 1000 → FnV Tryz.prog 137 [.agg (toArr cs), .int .i64 k] m (.int .i64 (deepR k r : Nat)) := by
 intro k
 induction k with
 | zero =>
   intro m r cs h _
   obtain ⟨kd, s0, s1, s2, s3, rs, lo, hi, neg⟩ := r
   obtain ⟨A, n, c, rfl, hs, _⟩ := h.open
   refine Fn.enter (N := 26) hX Tryz.func137 rfl rfl (by show _ ≤ _; simp) (fun w0 hL => ?_)
   conv => whnf
   refine NewReq.mk hL ?_
   clear hL
   intro b2 w hL
   conv => whnf
   refine go ?_;try(clear hL;intro w hL)
   exact RetReq.mk hL.drop ⟨rfl, rfl⟩
 | succ k ih =>
   intro m r cs h hk
   obtain ⟨kd, s0, s1, s2, s3, rs, lo, hi, neg⟩ := r
   obtain ⟨A, n, c, rfl, hs, _⟩ := h.open
   obtain ⟨hn, hc, hm⟩ := hs.lens
   have hmx : maxLen = 9223372036854775807 := rfl
   have he := hs.elem
   refine Fn.enter (N := 26) hX Tryz.func137 rfl rfl (by show _ ≤ _; simp) (fun w0 hL => ?_)
   conv => whnf
   refine NewReq.mk hL ?_
   clear hL
   intro b2 w hL
   conv => whnf
   refine go ?_;try(clear hL;intro w hL)
   refine LoopReq.inv hX (fun j : Nat => [(5, .int .i64 (maxTo (deepR k) rs j : Nat)), (13, .int .i64 j)]) [1, 11, 12]
    (fun j w => j ≤ n ∧ Ev.Loc m [] w0 m [] w) (fun j => n - j) 0 ⟨by omega, hL.drop⟩ ⟨rfl, rfl, trivial⟩ ?_
   clear hL
   rintro j w f ⟨hj, hL⟩
   have hmax := maxTo_le (B := k + 1) rs j (deepR_le k)
   refine go ?_;try(clear hL;intro w hL)
   refine BrReq.dec (fun hlt => ?_) (fun hlt => ?_)
   ·have hlt' : j < rs.length := by omega
    obtain ⟨a, cs', rfl, hl9, hcells, hrep⟩ := he j _ (List.getElem?_eq_getElem hlt')
    obtain ⟨k1, u0, u1, u2, u3, A1, n1, c1, lo1, hi1, neg1, rfl⟩ := hrep.form
    conv => whnf
    repeat ((first | refine Idx2Req.mk j a rfl (by omega) rfl ?_ | refine LdReq.agg hX rfl rfl hL hl9 hcells ?_ | (refine go1 ?_;try(clear hL;intro w hL))); conv => whnf)
    refine NewReq.mk hL ?_
    clear hL
    intro b7 w hL
    conv => whnf
    refine go ?_;try(clear hL;intro w hL)
    rw [show ((k + 1 : Nat) : Int) - 1 = (k : Int) by omega]
    refine CallReq.val (ih m _ _ hrep (by omega)) hL ?_
    clear hL
    intro w hL
    refine go ?_;try(clear hL;intro w hL)
    have hsc := maxTo_succ (deepR k) rs j hlt'
    refine ⟨j + 1, ⟨by omega, hL.drop⟩, by first | omega | (simp only; omega) | (simp only [List.length_cons, List.length_append]; omega), ?_, ?_⟩
    ·repeat (first | exact trivial | (refine And.intro (by (conv => lhs; whnf) <;> (conv => rhs; whnf) <;> (first | rfl | (rw [hsc]; congr 1; omega))) ?_))
    ·repeat (first | exact trivial | (refine And.intro (by (conv => lhs; whnf) <;> (conv => rhs; whnf) <;> (first | rfl | (rw [hsc]; congr 1; omega))) ?_))
   refine go ?_;try(clear hL;intro w hL)
   have hjn : j = rs.length := by omega
   subst hjn
   have e : deepR (k + 1) (.mk kd s0 s1 s2 s3 rs lo hi neg) = maxTo (deepR k) rs rs.length + 1 := by simp [maxTo, deepR, Re.parts]
   exact RetReq.mk hL ⟨rfl, by rw [e]; rfl⟩
def loopC (f : Re → Nat) : List Re → Nat → Nat
 | [], n => n
 | p :: l, n => if 2000 < n + f p then n + f p else loopC f l (n + f p)
def cR : Nat → Re → Nat
 | 0, _ => 5000
 | k + 1, r => loopC (cR k) r.parts 1
theorem loopC_ge (f : Re → Nat) : ∀ (l : List Re) (n : Nat), n ≤ loopC f l n := by
 intro l
 induction l with
 | nil => intro n; exact Nat.le_refl n
 | cons p l ih => intro n; simp only [loopC]; split; · omega
                  ·have := ih (n + f p); omega
theorem loopC_le {f : Re → Nat} {B : Nat} (hf : ∀ p, f p ≤ B) : ∀ (l : List Re) (n : Nat), n ≤ 2000 → loopC f l n ≤ 2000 + B := by
 intro l
 induction l with
 | nil => intro n h; simp only [loopC]; omega
 | cons p l ih => intro n h; have := hf p; simp only [loopC]; split; · omega
                  ·exact ih _ (by omega)
theorem cR_le : ∀ (k : Nat) (r : Re), cR k r ≤ 5000 + 2000 * k := by
 intro k
 induction k with
 | zero => intro r; simp [cR]
 | succ k ih => intro r; simp only [cR]; have := loopC_le ih r.parts 1 (by omega); omega
theorem cR_pos (k : Nat) (r : Re) : 1 ≤ cR k r := by
 cases k with
 | zero => simp [cR]
 | succ k => exact loopC_ge _ _ _
theorem loopC_small {f : Re → Nat} (hf : ∀ p, 1 ≤ f p) : ∀ (l : List Re) (n : Nat), loopC f l n ≤ 2000 → n + l.length ≤ 2000 ∧ ∀ p ∈ l, f p ≤ 2000 := by
 intro l
 induction l with
 | nil => intro n h; simpa [loopC] using h
 | cons p l ih =>
   intro n h
   simp only [loopC] at h
   have h1 := hf p
   split at h
   ·omega
   ·obtain ⟨h2, h3⟩ := ih _ h
    refine ⟨by simp; omega, fun q hq => ?_⟩
    rcases List.mem_cons.1 hq with rfl | hq
    ·omega
    ·exact h3 q hq
inductive Small : Re → Prop
 | mk (k s0 s1 s2 s3 : Int) (rs : List Re) (lo hi : Int) (neg : Bool) (h : rs.length ≤ 2000) (hp : ∀ p ∈ rs, Small p) : Small (.mk k s0 s1 s2 s3 rs lo hi neg)
theorem small_of : ∀ (k : Nat) (r : Re), cR k r ≤ 2000 → Small r := by
 intro k
 induction k with
 | zero => intro r h; simp [cR] at h
 | succ k ih =>
   intro r h
   obtain ⟨kd, s0, s1, s2, s3, rs, lo, hi, neg⟩ := r
   obtain ⟨h1, h2⟩ := loopC_small (cR_pos k) _ _ h
   exact .mk _ _ _ _ _ _ _ _ _ (by simp only [Re.parts] at h1; omega) fun p hp => ih p (h2 p hp)
theorem count_fn : ∀ (k : Nat) (m : Mem) (r : Re) (cs : List Value), RepRe m cs r → k ≤ 1000 → FnV Tryz.prog 34 [.agg (toArr cs), .int .i64 k] m (.int .i64 (cR k r : Nat)) := by
 intro k
 induction k with
 | zero =>
   intro m r cs h _
   obtain ⟨kd, s0, s1, s2, s3, rs, lo, hi, neg⟩ := r
   obtain ⟨A, n, c, rfl, hs, _⟩ := h.open
   refine Fn.enter (N := 30) hX Tryz.func34 rfl rfl (by show _ ≤ _; simp) (fun w0 hL => ?_)
   conv => whnf
   refine NewReq.mk hL ?_
   clear hL
   intro b2 w hL
   conv => whnf
   refine go ?_;try(clear hL;intro w hL)
   exact RetReq.mk hL.drop ⟨rfl, rfl⟩
 | succ k ih =>
   intro m r cs h hk
   obtain ⟨kd, s0, s1, s2, s3, rs, lo, hi, neg⟩ := r
   obtain ⟨A, n, c, rfl, hs, _⟩ := h.open
   obtain ⟨hn, hc, hm⟩ := hs.lens
   have hmx : maxLen = 9223372036854775807 := rfl
   have he := hs.elem
   refine Fn.enter (N := 30) hX Tryz.func34 rfl rfl (by show _ ≤ _; simp) (fun w0 hL => ?_)
   conv => whnf
   refine NewReq.mk hL ?_
   clear hL
   intro b2 w hL
   conv => whnf
   refine go ?_;try(clear hL;intro w hL)
   refine LoopReq.inv hX (fun q : Nat × Nat => [(5, .int .i64 q.1), (12, .int .i64 q.2)]) [1, 2, 11]
    (fun q w => (q.2 ≤ n ∧ q.1 ≤ 2000 ∧ loopC (cR k) (rs.drop q.2) q.1 = cR (k + 1) (.mk kd s0 s1 s2 s3 rs lo hi neg)) ∧ Ev.Loc m [] w0 m [(b2, .cells (toArr (reC kd s0 s1 s2 s3 (.slice A n c) lo hi neg)) 52 (0, 0))] w) (fun q => n - q.2) (1, 0)
    ⟨⟨by simp, by simp, rfl⟩, hL⟩ ⟨rfl, rfl, trivial⟩ ?_
   clear hL
   rintro ⟨q, j⟩ w f ⟨⟨hj, hq, hcnt⟩, hL⟩
   simp only at hj hq hcnt
   refine go ?_;try(clear hL;intro w hL)
   refine BrReq.dec (fun hlt => ?_) (fun hlt => ?_)
   ·have hlt' : j < rs.length := by omega
    rw [List.drop_eq_getElem_cons hlt'] at hcnt
    simp only [loopC] at hcnt
    have hb := cR_le k rs[j]
    obtain ⟨a, cs', rfl, hl9, hcells, hrep⟩ := he j _ (List.getElem?_eq_getElem hlt')
    obtain ⟨k1, u0, u1, u2, u3, A1, n1, c1, lo1, hi1, neg1, rfl⟩ := hrep.form
    conv => whnf
    repeat ((first | refine Idx2Req.mk j a rfl (by omega) rfl ?_ | refine LdReq.agg hX rfl rfl hL hl9 hcells ?_ | (refine go1 ?_;try(clear hL;intro w hL))); conv => whnf)
    rw [show ((k + 1 : Nat) : Int) - 1 = (k : Int) by omega]
    refine CallReq.val (ih m _ _ hrep (by omega)) hL ?_
    clear hL
    intro w hL
    refine go ?_;try(clear hL;intro w hL)
    refine BrReq.dec (fun h => ?_) (fun h => ?_)
    ·rw [if_pos (by omega)] at hcnt
     refine go ?_;try(clear hL;intro w hL)
     exact RetReq.mk hL.drop ⟨rfl, by rw [← hcnt]; rfl⟩
    ·rw [if_neg (by omega)] at hcnt
     refine go ?_;try(clear hL;intro w hL)
     exact rnd (q + cR k rs[j], j + 1) ⟨⟨by simp only; omega, by simp only; omega, hcnt⟩, hL⟩
   refine go ?_;try(clear hL;intro w hL)
   have hjn : j = rs.length := by omega
   subst hjn
   rw [List.drop_length] at hcnt
   exact RetReq.mk hL.drop ⟨rfl, by rw [← hcnt]; rfl⟩
def OwnRe (m : Mem) (L : Own) (u : Value) (r : Re) : Prop := match r with
 | .mk k s0 s1 s2 s3 rs lo hi neg => ∃ g blk, u = .agg (toArr (reC k s0 s1 s2 s3 (.slice (some ⟨g, 0, none⟩) rs.length rs.length) lo hi neg)) ∧ L = [(g, .cells (toArr (List.flatten blk)) 52 (0, 0))] ∧
   blk.length = rs.length ∧ (∀ r ∈ blk, r.length = 9) ∧ rs.length ≤ maxLen ∧ (∀ (i : Nat) (x : Re), rs[i]? = some x → ∃ cs, blk[i]? = some cs ∧ RepRe m cs x) ∧
   (inI k ∧ inU s0 ∧ inU s1 ∧ inU s2 ∧ inU s3 ∧ inI lo ∧ inI hi)
theorem OwnRe.freeze {m0 m : Mem} {S : List Nat} {w0 w : World} {L1 L2 : Own} {u : Value} {r : Re} (h : OwnRe m L1 u r) (hL : Ev.Loc m0 S w0 m (L1 ++ L2) w) :
  ∃ m' cs, Ev.Loc m0 S w0 m' L2 w ∧ Mem.Le m m' ∧ u = .agg (toArr cs) ∧ RepRe m' cs r := by
 obtain ⟨k, s0, s1, s2, s3, rs, lo, hi, neg⟩ := r
 obtain ⟨g, blk, rfl, rfl, h1, h2, h3, h4, h5⟩ := h
 obtain ⟨m', h6, h7, h8⟩ := rows_freeze (L := L2) (R := RepRe m) hL rfl (Nat.le_refl _) h3 h2 h4
 exact ⟨m', _, h6, h7, rfl, RepRe.shut (h8.le (Mem.Le.refl m') fun cs x _ hx => hx.le h7) h5⟩
set_option maxHeartbeats 1000000 in
theorem clone_fn' : ∀ (N : Nat) (m : Mem) (r : Re) (cs : List Value), SizeOf.sizeOf r ≤ N → RepRe m cs r → Small r → Ev.Fn Tryz.prog 140 [.agg (toArr cs)] m [] fun m' L' u => OwnRe m' L' u r := by
 intro N
 induction N with
 | zero => intro m r cs hN; obtain ⟨kd, s0, s1, s2, s3, rs, lo, hi, neg⟩ := r; simp at hN
 | succ N ih =>
   intro m r cs hN h hsm
   obtain ⟨kd, s0, s1, s2, s3, rs, lo, hi, neg⟩ := r
   obtain ⟨A, n, c, rfl, hs, hrng⟩ := h.open
   obtain ⟨hn, hc, hm⟩ := hs.lens
   have hmx : maxLen = 9223372036854775807 := rfl
   have he := hs.elem
   have hsub : rs.length ≤ 2000 ∧ ∀ p ∈ rs, Small p := by cases hsm; exact ⟨by assumption, by assumption⟩
   refine Fn.enter (N := 27) hX Tryz.func140 rfl rfl (by show _ ≤ _; simp) (fun w0 hL => ?_)
   conv => whnf
   refine NewReq.mk hL ?_
   clear hL
   intro b1 w hL
   conv => whnf
   refine NewReq.mk hL ?_
   clear hL
   intro b2 w hL
   conv => whnf
   refine go ?_;try(clear hL;intro w hL)
   refine RunReq.make hX rfl rfl rfl rfl n n rfl rfl (Nat.le_refl _) (by omega) rfl hL ?_
   clear hL
   intro g w hL
   rw [zeros_rows] at hL
   refine go ?_;try(clear hL;intro w hL)
   refine LoopReq.inv hX (fun j : Nat => [(13, .int .i64 j)]) [1, 2, 3, 11, 12]
    (fun j w => j ≤ n ∧ ∃ m1 blk, Mem.Le m m1 ∧ List.length blk = n ∧ (∀ r ∈ blk, r.length = 9) ∧ (∀ (i : Nat) (x : Re), rs[i]? = some x → i < j → ∃ cs, blk[i]? = some cs ∧ RepRe m1 cs x) ∧
     Ev.Loc m [] w0 m1 [(g, .cells (toArr (List.flatten blk)) 52 (0, 0)), (b2, .cells (toArr (reC 0 0 0 0 0 (.slice none 0 0) 0 0 false)) 52 (0, 0)), (b1, .cells (toArr (reC kd s0 s1 s2 s3 (.slice A n c) lo hi neg)) 52 (0, 0))] w) (fun j => n - j) 0
    ⟨by omega, m, _, Mem.Le.refl m, by simp, by intro r hr; rw [(List.mem_replicate.1 hr).2]; rfl, fun i x _ h => absurd h (by omega), hL⟩ ⟨rfl, trivial⟩ ?_
   clear hL
   rintro j w f ⟨hj, m1, blk, hm1, hbl, hrows, hdone, hL⟩
   refine go ?_;try(clear hL;intro w hL)
   refine BrReq.dec (fun hlt => ?_) (fun hlt => ?_)
   ·have hlt' : j < rs.length := by omega
    obtain ⟨a, cs', rfl, hl9, hcells, hrep⟩ := he j _ (List.getElem?_eq_getElem hlt')
    obtain ⟨k1, u0, u1, u2, u3, A1, n1, c1, lo1, hi1, neg1, rfl⟩ := hrep.form
    have hsz : SizeOf.sizeOf rs[j] ≤ N := by
     have := List.sizeOf_lt_of_mem (List.getElem_mem hlt')
     simp at hN
     omega
    conv => whnf
    repeat ((first | refine Idx2Req.mk j a rfl (by omega) rfl ?_ | refine LdReq.agg hX rfl rfl hL hl9 (hcells.le hm1) ?_ | (refine go1 ?_;try(clear hL;intro w hL))); conv => whnf)
    refine NewReq.mk hL ?_
    clear hL
    intro b5 w hL
    conv => whnf
    refine go ?_;try(clear hL;intro w hL)
    refine CallReq.mk (L1 := []) (ih m1 rs[j] _ hsz (hrep.le hm1) (hsub.2 _ (List.getElem_mem hlt'))) hL ?_
    clear hL
    intro v m2 L1 w hL hm2 ho
    obtain ⟨m3, cs3, hL, hm3, rfl, hrep3⟩ := ho.freeze hL
    obtain ⟨k3, v0, v1, v2, v3, A3, n3, c3, lo3, hi3, neg3, rfl⟩ := hrep3.form
    conv => whnf
    repeat ((first | refine Idx2Req.mk j _ rfl (by omega) rfl ?_ | (refine go1 ?_;try(clear hL;intro w hL))); conv => whnf)
    refine rows_store hX rfl 1 hL rfl hrows (by omega) rfl rfl ?_
    clear hL
    intro w hL
    have hL : Ev.Loc m [] w0 m3 [_, _, _, _] w := hL
    have hrows' : ∀ r ∈ blk.set j (reC k3 v0 v1 v2 v3 (.slice A3 n3 c3) lo3 hi3 neg3), r.length = 9 := by
     intro r hr
     rcases List.mem_or_eq_of_mem_set hr with h | rfl
     ·exact hrows _ h
     ·rfl
    have hdone' : ∀ (i : Nat) (x : Re), rs[i]? = some x → i < j + 1 → ∃ cs, (blk.set j (reC k3 v0 v1 v2 v3 (.slice A3 n3 c3) lo3 hi3 neg3))[i]? = some cs ∧ RepRe m3 cs x := by
     intro i x hx hi
     by_cases e : i = j
     ·subst e
      obtain ⟨_, rfl⟩ := List.getElem?_eq_some_iff.1 hx
      exact ⟨_, List.getElem?_set_self (by omega), hrep3⟩
     ·obtain ⟨cs, g1, g2⟩ := hdone i x hx (by omega)
      exact ⟨cs, by rw [List.getElem?_set_ne (Ne.symm e)]; exact g1, g2.le (hm2.trans hm3)⟩
    refine go ?_;try(clear hL;intro w hL)
    exact rnd (j + 1) ⟨by omega, m3, _, hm1.trans (hm2.trans hm3), by rw [List.length_set]; exact hbl, hrows', hdone', hL.drop⟩
   refine go ?_;try(clear hL;intro w hL)
   subst hn
   have hjn : j = rs.length := by omega
   exact RetReq.mk (hL.one 0 rfl) ⟨g, blk, rfl, rfl, hbl, hrows, by omega, fun i x hx => hdone i x hx (by rw [hjn]; exact (List.getElem?_eq_some_iff.1 hx).1), hrng⟩
theorem clone_fn (m : Mem) (r : Re) (cs : List Value) (h : RepRe m cs r) (hs : Small r) : Ev.Fn Tryz.prog 140 [.agg (toArr cs)] m [] fun m' L' u => OwnRe m' L' u r :=
 clone_fn' _ m r cs (Nat.le_refl _) h hs
end Go.Proofs.YtaooenndoopgdaaGreatDoor.tree
namespace Go.Proofs.YtaooenndoopgdaaGreatDoor.tree
open Go Go.Ev Go.Proofs
def headEq : Re → Re → Bool
 | .mk k s0 s1 s2 s3 rs lo hi neg, .mk k' t0 t1 t2 t3 rs' lo' hi' neg' =>
   decide (k = k' ∧ (s0 = t0 ∧ s1 = t1 ∧ s2 = t2 ∧ s3 = t3) ∧ lo = lo' ∧ hi = hi' ∧ neg = neg' ∧ rs.length = rs'.length)
def sameR : Nat → Re → Re → Bool
 | 0, _, _ => false
 | k + 1, a, b => headEq a b && (List.zipWith (sameR k) a.parts b.parts).all id
theorem all_zip {f : Re → Re → Bool} : ∀ (l r : List Re), l.length = r.length → ((List.zipWith f l r).all id = true ↔ ∀ (i : Nat) (x y : Re), l[i]? = some x → r[i]? = some y → f x y = true) := by
 intro l
 induction l with
 | nil => intro r h; simp
 | cons a l ih =>
   intro r h
   cases r with
   | nil => simp at h
   | cons b r =>
     simp only [List.zipWith_cons_cons, List.all_cons, id_eq, Bool.and_eq_true]
     rw [ih r (by simpa using h)]
     constructor
     ·rintro ⟨h1, h2⟩ i x y hx hy
      cases i with
      | zero => simp at hx hy; subst hx hy; exact h1
      | succ i => exact h2 i x y (by simpa using hx) (by simpa using hy)
     ·intro h1
      exact ⟨h1 0 a b rfl rfl, fun i x y hx hy => h1 (i + 1) x y (by simpa using hx) (by simpa using hy)⟩
end Go.Proofs.YtaooenndoopgdaaGreatDoor.tree
namespace Go.Proofs.YtaooenndoopgdaaGreatDoor.tree
open Go Go.Ev Go.Proofs
def partsK (k : Int) : Int := if k = 3 ∨ k = 4 ∨ k = 5 then -1 else if k = 6 ∨ k = 7 ∨ k = 8 ∨ k = 9 then 1 else 0
theorem parts_fn (m : Mem) (k : Int) : FnV Tryz.prog 174 [.int .i64 k] m (.int .i64 (partsK k)) := by
 refine Fn.enter (N := 13) hX Tryz.func174 rfl rfl (by show _ ≤ _; simp) (fun w0 hL => ?_)
 conv => whnf
 conv => whnf
 repeat' (first | ((first | refine zT ?_ | refine zF ?_ | refine zL hX hL ?_ | refine zB hX hL ?_ | (refine zS hX hL ?_; clear hL; intro w hL) | refine zI ?_ | refine zG hX ?_ | refine zO ?_); conv => whnf) | (refine BrReq.dec (fun _ => ?_) (fun _ => ?_) <;> (conv => whnf)) | (refine BrReq.not ?_; refine BrReq.dec (fun _ => ?_) (fun _ => ?_) <;> (conv => whnf)) | (refine BrReq.bool (fun _ => ?_) (fun _ => ?_) <;> (conv => whnf)))
 all_goals (refine RetReq.mk hL ⟨rfl, ?_⟩; refine congrArg (Value.int .i64) ?_; unfold partsK; split <;> first | omega | (split <;> omega))
def Own (k s0 s1 s2 s3 : Int) (len : Nat) (lo hi : Int) (neg : Bool) : Prop :=
 (0 ≤ k ∧ k ≤ 11) ∧ (0 ≤ partsK k → (len : Int) = partsK k) ∧ (k = 2 ∨ (s0 = 0 ∧ s1 = 0 ∧ s2 = 0 ∧ s3 = 0)) ∧ (neg = true → k = 8 ∨ k = 9) ∧
  (k = 7 → 0 ≤ lo ∧ lo ≤ 20 ∧ (hi = -1 ∨ (lo ≤ hi ∧ 1 ≤ hi ∧ hi ≤ 20))) ∧ (k ≠ 7 → lo = 0 ∧ hi = 0)
instance (k s0 s1 s2 s3 : Int) (len : Nat) (lo hi : Int) (neg : Bool) : Decidable (Own k s0 s1 s2 s3 len lo hi neg) := by unfold Own; infer_instance
theorem own_fn (m : Mem) (k s0 s1 s2 s3 : Int) (A : Option Addr) (n c : Nat) (lo hi : Int) (neg : Bool) :
  FnV Tryz.prog 138 [.agg (toArr (reC k s0 s1 s2 s3 (.slice A n c) lo hi neg))] m (.bool (decide (Own k s0 s1 s2 s3 n lo hi neg))) := by
 refine Fn.enter (N := 88) hX Tryz.func138 rfl rfl (by show _ ≤ _; simp) (fun w0 hL => ?_)
 conv => whnf
 refine NewReq.mk hL ?_
 clear hL
 intro b1 w hL
 conv => whnf
 refine gos ?_;try(clear hL;intro w hL)
 refine SeqReq.cut hX (fun _ : Unit => []) [1] (fun _ w => (0 ≤ k ∧ k ≤ 11) ∧ Ev.Loc m [] w0 m [(b1, .cells (toArr (reC k s0 s1 s2 s3 (.slice A n c) lo hi neg)) 52 (0, 0))] w) ?_ ?_
 ·conv => whnf
  repeat' (first | ((first | refine zT ?_ | refine zF ?_ | refine zL hX hL ?_ | refine zB hX hL ?_ | (refine zS hX hL ?_; clear hL; intro w hL) | refine zI ?_ | refine zG hX ?_ | refine zO ?_); conv => whnf) | (refine BrReq.dec (fun _ => ?_) (fun _ => ?_) <;> (conv => whnf)) | (refine BrReq.not ?_; refine BrReq.dec (fun _ => ?_) (fun _ => ?_) <;> (conv => whnf)) | (refine BrReq.bool (fun _ => ?_) (fun _ => ?_) <;> (conv => whnf)))
  ·exact RetReq.mk hL.drop ⟨rfl, congrArg Value.bool (decide_eq_false (fun h => by have := h.1; omega)).symm⟩
  ·exact RetReq.mk hL.drop ⟨rfl, congrArg Value.bool (decide_eq_false (fun h => by have := h.1; omega)).symm⟩
  ·exact ⟨(), ⟨by omega, hL⟩, trivial, rfl, trivial⟩
 clear hL
 rintro _ w f ⟨hk, hL⟩
 refine gos ?_;try(clear hL;intro w hL)
 refine SeqReq.cut hX (fun _ : Unit => []) [1] (fun _ w => (0 ≤ partsK k → (n : Int) = partsK k) ∧ Ev.Loc m [] w0 m [(b1, .cells (toArr (reC k s0 s1 s2 s3 (.slice A n c) lo hi neg)) 52 (0, 0))] w) ?_ ?_
 ·refine go ?_;try(clear hL;intro w hL)
  refine CallReq.val (parts_fn m k) hL ?_
  clear hL
  intro w hL
  conv => whnf
  repeat' (first | ((first | refine zT ?_ | refine zF ?_ | refine zL hX hL ?_ | refine zB hX hL ?_ | (refine zS hX hL ?_; clear hL; intro w hL) | refine zI ?_ | refine zG hX ?_ | refine zO ?_); conv => whnf) | (refine BrReq.dec (fun _ => ?_) (fun _ => ?_) <;> (conv => whnf)) | (refine BrReq.not ?_; refine BrReq.dec (fun _ => ?_) (fun _ => ?_) <;> (conv => whnf)) | (refine BrReq.bool (fun _ => ?_) (fun _ => ?_) <;> (conv => whnf)))
  ·exact RetReq.mk hL.drop ⟨rfl, congrArg Value.bool (decide_eq_false (fun h => by have := h.2.1; omega)).symm⟩
  ·exact ⟨(), ⟨by omega, hL⟩, trivial, rfl, trivial⟩
  ·exact ⟨(), ⟨by omega, hL⟩, trivial, rfl, trivial⟩
 clear hL
 rintro _ w f ⟨hn, hL⟩
 refine gos ?_;try(clear hL;intro w hL)
 refine SeqReq.cut hX (fun _ : Unit => []) [1] (fun _ w => ((k = 2 ∨ (s0 = 0 ∧ s1 = 0 ∧ s2 = 0 ∧ s3 = 0)) ∧ (neg = true → k = 8 ∨ k = 9)) ∧ Ev.Loc m [] w0 m [(b1, .cells (toArr (reC k s0 s1 s2 s3 (.slice A n c) lo hi neg)) 52 (0, 0))] w) ?_ ?_
 ·conv => whnf
  repeat' (first | ((first | refine UGenReq.neA hX rfl rfl rfl Tryz.eqGuardType50 rfl rfl rfl ?_ | refine zT ?_ | refine zF ?_ | refine zL hX hL ?_ | refine zB hX hL ?_ | (refine zS hX hL ?_; clear hL; intro w hL) | refine zI ?_ | refine zG hX ?_ | refine zO ?_); conv => whnf) | (refine BrReq.dec (fun _ => ?_) (fun _ => ?_) <;> (conv => whnf)) | (refine BrReq.not ?_; refine BrReq.dec (fun _ => ?_) (fun _ => ?_) <;> (conv => whnf)) | (refine BrReq.bool (fun _ => ?_) (fun _ => ?_) <;> (conv => whnf)))
  all_goals first
   | (refine RetReq.mk hL.drop ⟨rfl, congrArg Value.bool (decide_eq_false (fun h => ?_)).symm⟩; obtain ⟨_, _, h3, h4, _⟩ := h; first | (simp_all; done) | (simp_all; omega))
   | (refine ⟨(), ⟨⟨?_, ?_⟩, hL⟩, trivial, rfl, trivial⟩ <;> first | (simp_all; done) | (simp_all; omega))
 clear hL
 rintro _ w f ⟨⟨hs, hg⟩, hL⟩
 have hO : Own k s0 s1 s2 s3 n lo hi neg ↔ ((k = 7 → 0 ≤ lo ∧ lo ≤ 20 ∧ (hi = -1 ∨ (lo ≤ hi ∧ 1 ≤ hi ∧ hi ≤ 20))) ∧ (k ≠ 7 → lo = 0 ∧ hi = 0)) :=
  ⟨fun h => ⟨h.2.2.2.2.1, h.2.2.2.2.2⟩, fun h => ⟨hk, hn, hs, hg, h.1, h.2⟩⟩
 have hOd : decide (Own k s0 s1 s2 s3 n lo hi neg) = decide ((k = 7 → 0 ≤ lo ∧ lo ≤ 20 ∧ (hi = -1 ∨ (lo ≤ hi ∧ 1 ≤ hi ∧ hi ≤ 20))) ∧ (k ≠ 7 → lo = 0 ∧ hi = 0)) := decide_eq_decide.2 hO
 rw [hOd]
 conv => whnf
 repeat' (first | ((first | refine zT ?_ | refine zF ?_ | refine zL hX hL ?_ | refine zB hX hL ?_ | (refine zS hX hL ?_; clear hL; intro w hL) | refine zI ?_ | refine zG hX ?_ | refine zO ?_); conv => whnf) | (refine BrReq.dec (fun _ => ?_) (fun _ => ?_) <;> (conv => whnf)) | (refine BrReq.not ?_; refine BrReq.dec (fun _ => ?_) (fun _ => ?_) <;> (conv => whnf)) | (refine BrReq.bool (fun _ => ?_) (fun _ => ?_) <;> (conv => whnf)))
 all_goals (refine RetReq.bool hL.drop ?_; first | exact decide_eq_decide.2 (by omega) | exact (decide_eq_true (by omega)).symm | exact (decide_eq_false (by omega)).symm)
theorem Re.ind {Q : Re → Prop} (h : ∀ k s0 s1 s2 s3 rs lo hi neg, (∀ p ∈ rs, Q p) → Q (.mk k s0 s1 s2 s3 rs lo hi neg)) : ∀ r, Q r := by
 have : ∀ (n : Nat) (r : Re), SizeOf.sizeOf r ≤ n → Q r := by
  intro n
  induction n with
  | zero => intro r hr; obtain ⟨k, s0, s1, s2, s3, rs, lo, hi, neg⟩ := r; simp at hr
  | succ n ih =>
    intro r hr
    obtain ⟨k, s0, s1, s2, s3, rs, lo, hi, neg⟩ := r
    refine h _ _ _ _ _ _ _ _ _ fun p hp => ih p ?_
    have := List.sizeOf_lt_of_mem hp
    simp at hr
    omega
 intro r
 exact this _ r (Nat.le_refl _)
def timesR (k lo hi : Int) : Int := if k = 7 then max (min (max lo hi) 1001) 1 else 1
def capR (k lo hi : Int) (s : Nat) : Nat := if 1000 < s then 1001 else (min ((s : Int) * timesR k lo hi + 1) 1001).toNat
mutual
def sizeR : Re → Nat
 | .mk k _ _ _ _ rs lo hi _ => capR k lo hi (sizeL rs)
def sizeL : List Re → Nat
 | [] => 0
 | p :: l => sizeR p + sizeL l
end
mutual
def allR : Re → Bool
 | .mk k s0 s1 s2 s3 rs lo hi neg => decide (Own k s0 s1 s2 s3 rs.length lo hi neg) && allL rs
def allL : List Re → Bool
 | [] => true
 | p :: l => allR p && allL l
end
theorem allL_eq (l : List Re) : allL l = l.all allR := by
 induction l with
 | nil => rfl
 | cons p l ih => simp only [allL, List.all_cons, ih]
theorem sizeL_eq (l : List Re) : sizeL l = (l.map sizeR).sum := by
 induction l with
 | nil => rfl
 | cons p l ih => simp only [sizeL, List.map_cons, List.sum_cons, ih]
theorem timesR_pos (k lo hi : Int) : 1 ≤ timesR k lo hi ∧ timesR k lo hi ≤ 1001 := by unfold timesR; split <;> omega
theorem capR_le (k lo hi : Int) (s : Nat) : capR k lo hi s ≤ 1001 := by unfold capR; split <;> omega
theorem sizeR_le (r : Re) : sizeR r ≤ 1001 := by obtain ⟨k, s0, s1, s2, s3, rs, lo, hi, neg⟩ := r; simp only [sizeR]; exact capR_le _ _ _ _
theorem sizeL_take_succ (rs : List Re) (j : Nat) (h : j < rs.length) : sizeL (rs.take (j + 1)) = sizeL (rs.take j) + sizeR rs[j] := by
 rw [List.take_succ_eq_append_getElem h, sizeL_eq, sizeL_eq, List.map_append, List.sum_append]
 simp
theorem sizeL_take_le (rs : List Re) (j : Nat) : sizeL (rs.take j) ≤ sizeL rs := by
 rw [sizeL_eq, sizeL_eq]
 conv => rhs; rw [← List.take_append_drop j rs]
 rw [List.map_append, List.sum_append]
 omega
theorem size_fn (r : Re) : ∀ (m : Mem) (cs : List Value), RepRe m cs r → FnV Tryz.prog 94 [.agg (toArr cs)] m (.int .i64 (sizeR r : Nat)) := by
 induction r using Re.ind with
 | h kd s0 s1 s2 s3 rs lo hi neg ih =>
   intro m cs h
   obtain ⟨A, n, c, rfl, hs, hk, -, -, -, -, hlo, hhi⟩ := h.open
   obtain ⟨hn, hc, hm⟩ := hs.lens
   have hmx : maxLen = 9223372036854775807 := rfl
   have he := hs.elem
   have ht := timesR_pos kd lo hi
   refine Fn.enter (N := 35) hX Tryz.func94 rfl rfl (by show _ ≤ _; simp) (fun w0 hL => ?_)
   conv => whnf
   refine NewReq.mk hL ?_
   clear hL
   intro b1 w hL
   conv => whnf
   refine go ?_;try(clear hL;intro w hL)
   refine LoopReq.inv hX (fun q : Nat × Nat => [(3, .int .i64 q.1), (9, .int .i64 q.2)]) [1, 7, 8]
    (fun q w => (q.2 ≤ n ∧ q.1 ≤ 1000 ∧ q.1 = sizeL (rs.take q.2)) ∧ Ev.Loc m [] w0 m [(b1, .cells (toArr (reC kd s0 s1 s2 s3 (.slice A n c) lo hi neg)) 52 (0, 0))] w) (fun q => n - q.2) (0, 0)
    ⟨⟨by simp, by simp, rfl⟩, hL⟩ ⟨rfl, rfl, trivial⟩ ?_
   clear hL
   rintro ⟨q, j⟩ w f ⟨⟨hj, hq, hsum⟩, hL⟩
   simp only at hj hq hsum
   refine go ?_;try(clear hL;intro w hL)
   refine BrReq.dec (fun hlt => ?_) (fun hlt => ?_)
   ·have hlt' : j < rs.length := by omega
    have hstep := sizeL_take_succ rs j hlt'
    have hle := sizeL_take_le rs (j + 1)
    have hpl := sizeR_le rs[j]
    obtain ⟨a, cs', rfl, hl9, hcells, hrep⟩ := he j _ (List.getElem?_eq_getElem hlt')
    obtain ⟨k1, u0, u1, u2, u3, A1, n1, c1, lo1, hi1, neg1, rfl⟩ := hrep.form
    conv => whnf
    repeat ((first | refine Idx2Req.mk j a rfl (by omega) rfl ?_ | refine LdReq.agg hX rfl rfl hL hl9 hcells ?_ | (refine go1 ?_;try(clear hL;intro w hL))); conv => whnf)
    refine NewReq.mk hL ?_
    clear hL
    intro b5 w hL
    conv => whnf
    refine go ?_;try(clear hL;intro w hL)
    refine CallReq.val (ih _ (List.getElem_mem hlt') m _ hrep) hL ?_
    clear hL
    intro w hL
    refine go ?_;try(clear hL;intro w hL)
    refine BrReq.dec (fun h => ?_) (fun h => ?_)
    ·refine go ?_;try(clear hL;intro w hL)
     refine RetReq.int hL.drop.drop ?_
     have : sizeR (.mk kd s0 s1 s2 s3 rs lo hi neg) = 1001 := by simp only [sizeR, capR]; rw [if_pos (by omega)]
     rw [this]; rfl
    ·refine go ?_;try(clear hL;intro w hL)
     exact rnd (q + sizeR rs[j], j + 1) ⟨⟨by simp only; omega, by simp only; omega, by simp only; omega⟩, hL.drop⟩
   have hjn : j = rs.length := by omega
   rw [hjn, List.take_length] at hsum
   have hmul : (q : Int) * timesR kd lo hi ≤ 1000 * 1001 := Int.mul_le_mul (by omega) (by omega) (by omega) (by omega)
   have hmul0 : 0 ≤ (q : Int) * timesR kd lo hi := Int.mul_nonneg (by omega) (by omega)
   have hval : (sizeR (.mk kd s0 s1 s2 s3 rs lo hi neg) : Int) = min ((q : Int) * timesR kd lo hi + 1) 1001 := by
    simp only [sizeR, capR]; rw [if_neg (by omega), hsum]; rw [hsum] at hmul0; omega
   refine go ?_;try(clear hL;intro w hL)
   refine BrReq.dec (fun h7 => ?_) (fun h7 => ?_)
   ·have ht7 : timesR kd lo hi = max (min (max lo hi) 1001) 1 := by unfold timesR; rw [if_pos h7]
    rw [ht7] at hmul hmul0 hval
    refine go ?_;try(clear hL;intro w hL)
    refine ArReq.i64 (by simp only; omega) (by simp only; omega) ?_
    refine go ?_;try(clear hL;intro w hL)
    refine ArReq.i64 (by simp only; omega) (by simp only; omega) ?_
    refine go ?_;try(clear hL;intro w hL)
    exact RetReq.int hL.drop (by rw [hval])
   ·have ht7 : timesR kd lo hi = 1 := by unfold timesR; rw [if_neg h7]
    rw [ht7, Int.mul_one] at hval
    refine go ?_;try(clear hL;intro w hL)
    exact RetReq.int hL.drop (by rw [hval])
end Go.Proofs.YtaooenndoopgdaaGreatDoor.tree
namespace Go.Proofs.YtaooenndoopgdaaGreatDoor.tree
open Go Go.Ev Go.Proofs
def formedR (r : Re) : Bool := decide (deepR 40 r ≤ 40) && allR r && decide (sizeR r ≤ 1000)
end Go.Proofs.YtaooenndoopgdaaGreatDoor.tree
namespace Go.Proofs.YtaooenndoopgdaaGreatDoor.tree
open Go Go.Ev Go.Proofs
theorem indexAll_fn (m : Mem) (v : Value) (rs : List Re) (f : Re → Bool) (hs : Sl m 9 (RepRe m) v rs) (hf : ∀ p ∈ rs, ∀ cs, RepRe m cs p → FnV Tryz.prog 139 [.agg (toArr cs)] m (.bool (f p))) :
  Fn0 Tryz.prog 95 [v, .func (.func 139) #[] #[]] m fun _ u => ∃ z : Int, u = .int .i64 z ∧ (0 ≤ z ↔ rs.any f = true) := by
 have hs' := hs
 obtain ⟨A, n, c, rfl, hn, hc, hm, -⟩ := hs
 have he := hs'.elem
 have hmx : maxLen = 9223372036854775807 := rfl
 refine Fn.enter (N := 19) hX Tryz.func95 rfl rfl (by show _ ≤ _; simp) (fun w0 hL => ?_)
 conv => whnf
 refine go ?_;try(clear hL;intro w hL)
 refine LoopReq.inv hX (fun j : Nat => [(8, .int .i64 j)]) [0, 1, 7]
  (fun j w => (j ≤ n ∧ ∀ (i : Nat) (x : Re), i < j → rs[i]? = some x → f x = false) ∧ Ev.Loc m [] w0 m [] w) (fun j => n - j) 0
  ⟨⟨by omega, fun i x h => absurd h (by omega)⟩, hL⟩ ⟨rfl, trivial⟩ ?_
 clear hL
 rintro j w g ⟨⟨hj, hdone⟩, hL⟩
 refine go ?_;try(clear hL;intro w hL)
 refine BrReq.dec (fun hlt => ?_) (fun hlt => ?_)
 ·have hlt' : j < rs.length := by omega
  obtain ⟨a, cs', rfl, hl9, hcells, hrep⟩ := he j _ (List.getElem?_eq_getElem hlt')
  obtain ⟨k1, u0, u1, u2, u3, A1, n1, c1, lo1, hi1, neg1, rfl⟩ := hrep.form
  conv => whnf
  repeat ((first | refine Idx2Req.mk j a rfl (by omega) rfl ?_ | refine LdReq.agg hX rfl rfl hL hl9 hcells ?_ | (refine go1 ?_;try(clear hL;intro w hL))); conv => whnf)
  refine CallReq.val (hf _ (List.getElem_mem hlt') _ hrep) hL ?_
  clear hL
  intro w hL
  refine go ?_;try(clear hL;intro w hL)
  refine BrReq.bool (fun hb => ?_) (fun hb => ?_)
  ·refine go ?_;try(clear hL;intro w hL)
   refine RetReq.mk hL ⟨rfl, j, rfl, fun _ => ?_, fun _ => by omega⟩
   exact List.any_eq_true.2 ⟨_, List.getElem_mem hlt', hb⟩
  ·have hd : ∀ (i : Nat) (x : Re), i < j + 1 → rs[i]? = some x → f x = false := by
    intro i x hi hx
    by_cases e : i = j
    ·subst e
     rw [List.getElem?_eq_getElem hlt'] at hx
     cases hx; exact hb
    ·exact hdone i x (by omega) hx
   refine go ?_;try(clear hL;intro w hL)
   exact rnd (j + 1) ⟨⟨by omega, hd⟩, hL⟩
 ·refine go ?_;try(clear hL;intro w hL)
  refine RetReq.mk hL ⟨rfl, -1, rfl, fun h => absurd h (by omega), fun h => ?_⟩
  obtain ⟨x, hx, hfx⟩ := List.any_eq_true.1 h
  obtain ⟨i, hi, rfl⟩ := List.getElem_of_mem hx
  rw [hdone i _ (by omega) (List.getElem?_eq_getElem hi)] at hfx
  cases hfx
theorem containsAll_fn (m : Mem) (v : Value) (rs : List Re) (f : Re → Bool) (hs : Sl m 9 (RepRe m) v rs) (hf : ∀ p ∈ rs, ∀ cs, RepRe m cs p → FnV Tryz.prog 139 [.agg (toArr cs)] m (.bool (f p))) :
  FnV Tryz.prog 64 [v, .func (.func 139) #[] #[]] m (.bool (rs.any f)) := by
 have hs' := hs
 obtain ⟨A, n, c, rfl, -⟩ := hs
 refine Fn.enter (N := 9) hX Tryz.func64 rfl rfl (by show _ ≤ _; simp) (fun w0 hL => ?_)
 conv => whnf
 refine go ?_;try(clear hL;intro w hL)
 refine CallReq.pure (indexAll_fn m _ rs f hs' hf) hL ?_
 clear hL
 rintro u m' w hL - ⟨z, rfl, hz⟩
 refine go ?_;try(clear hL;intro w hL)
 refine RetReq.bool hL ?_
 rw [Bool.eq_iff_iff, decide_eq_true_iff]
 exact hz
theorem all_fn (r : Re) : ∀ (m : Mem) (cs : List Value), RepRe m cs r → FnV Tryz.prog 93 [.agg (toArr cs)] m (.bool (allR r)) := by
 induction r using Re.ind with
 | h kd s0 s1 s2 s3 rs lo hi neg ih =>
   intro m cs h
   obtain ⟨A, n, c, rfl, hs, hk, -, -, -, -, hlo, hhi⟩ := h.open
   obtain ⟨hn, hc, hm⟩ := hs.lens
   have hit : ∀ p ∈ rs, ∀ cs, RepRe m cs p → FnV Tryz.prog 139 [.agg (toArr cs)] m (.bool (!allR p)) := by
    intro p hp cs hr
    obtain ⟨k1, u0, u1, u2, u3, A1, n1, c1, lo1, hi1, neg1, rfl⟩ := hr.form
    refine Fn.enter (N := 6) hX Tryz.func139 rfl rfl (by show _ ≤ _; simp) (fun w0 hL => ?_)
    conv => whnf
    refine NewReq.mk hL ?_
    clear hL
    intro b1 w hL
    conv => whnf
    refine go ?_;try(clear hL;intro w hL)
    refine CallReq.val (ih p hp m _ hr) hL ?_
    clear hL
    intro w hL
    refine go ?_;try(clear hL;intro w hL)
    exact RetReq.bool hL.drop rfl
   refine Fn.enter (N := 11) hX Tryz.func93 rfl rfl (by show _ ≤ _; simp) (fun w0 hL => ?_)
   conv => whnf
   refine NewReq.mk hL ?_
   clear hL
   intro b1 w hL
   conv => whnf
   refine go ?_;try(clear hL;intro w hL)
   refine CallReq.val (own_fn m kd s0 s1 s2 s3 A n c lo hi neg) hL ?_
   clear hL
   intro w hL
   refine go ?_;try(clear hL;intro w hL)
   refine BrReq.dec (fun hd => ?_) (fun hd => ?_)
   ·refine go ?_;try(clear hL;intro w hL)
    refine CallReq.val (containsAll_fn m _ rs (fun p => !allR p) hs hit) hL ?_
    clear hL
    intro w hL
    refine go ?_;try(clear hL;intro w hL)
    refine RetReq.bool hL.drop ?_
    simp only [allR]
    rw [← hn, decide_eq_true hd, Bool.true_and, allL_eq, List.all_eq_not_any_not]
   ·refine go ?_;try(clear hL;intro w hL)
    refine RetReq.bool hL.drop ?_
    simp only [allR]
    rw [← hn, decide_eq_false hd, Bool.false_and]
theorem Deep_fn (m : Mem) (r : Re) (cs : List Value) (h : RepRe m cs r) : FnV Tryz.prog 92 [.agg (toArr cs)] m (.int .i64 (deepR 40 r : Nat)) := by
 obtain ⟨k1, u0, u1, u2, u3, A1, n1, c1, lo1, hi1, neg1, rfl⟩ := h.form
 refine Fn.enter (N := 5) hX Tryz.func92 rfl rfl (by show _ ≤ _; simp) (fun w0 hL => ?_)
 conv => whnf
 refine NewReq.mk hL ?_
 clear hL
 intro b1 w hL
 conv => whnf
 refine go ?_;try(clear hL;intro w hL)
 refine CallReq.val (deep_fn 40 m r _ h (by omega)) hL ?_
 clear hL
 intro w hL
 refine go ?_;try(clear hL;intro w hL)
 exact RetReq.int hL.drop rfl
theorem Formed_fn (m : Mem) (r : Re) (cs : List Value) (h : RepRe m cs r) : FnV Tryz.prog 63 [.agg (toArr cs)] m (.bool (formedR r)) := by
 obtain ⟨k1, u0, u1, u2, u3, A1, n1, c1, lo1, hi1, neg1, rfl⟩ := h.form
 refine Fn.enter (N := 15) hX Tryz.func63 rfl rfl (by show _ ≤ _; simp) (fun w0 hL => ?_)
 conv => whnf
 refine NewReq.mk hL ?_
 clear hL
 intro b1 w hL
 conv => whnf
 refine go ?_;try(clear hL;intro w hL)
 refine CallReq.val (Deep_fn m r _ h) hL ?_
 clear hL
 intro w hL
 refine go ?_;try(clear hL;intro w hL)
 refine BrReq.dec (fun hd => ?_) (fun hd => ?_)
 ·refine go ?_;try(clear hL;intro w hL)
  refine CallReq.val (all_fn r m _ h) hL ?_
  clear hL
  intro w hL
  refine go ?_;try(clear hL;intro w hL)
  refine BrReq.bool (fun ha => ?_) (fun ha => ?_)
  ·refine go ?_;try(clear hL;intro w hL)
   refine CallReq.val (size_fn r m _ h) hL ?_
   clear hL
   intro w hL
   refine go ?_;try(clear hL;intro w hL)
   refine RetReq.bool hL.drop ?_
   unfold formedR
   rw [decide_eq_true (by omega : deepR 40 r ≤ 40), ha, Bool.true_and, Bool.true_and]
   exact decide_eq_decide.2 (by omega)
  ·refine go ?_;try(clear hL;intro w hL)
   refine RetReq.bool hL.drop ?_
   unfold formedR
   rw [ha, Bool.and_false, Bool.false_and]
 ·refine go ?_;try(clear hL;intro w hL)
  refine RetReq.bool hL.drop ?_
  unfold formedR
  rw [decide_eq_false (by omega : ¬ deepR 40 r ≤ 40), Bool.false_and, Bool.false_and]
theorem Few_fn (m : Mem) (r : Re) (cs : List Value) (h : RepRe m cs r) (k : Nat) (hk : k ≤ 1000) : FnV Tryz.prog 19 [.agg (toArr cs), .int .i64 k] m (.bool (decide (cR k r ≤ 2000))) := by
 obtain ⟨k1, u0, u1, u2, u3, A1, n1, c1, lo1, hi1, neg1, rfl⟩ := h.form
 refine Fn.enter (N := 9) hX Tryz.func19 rfl rfl (by show _ ≤ _; simp) (fun w0 hL => ?_)
 conv => whnf
 refine NewReq.mk hL ?_
 clear hL
 intro b1 w hL
 conv => whnf
 refine go ?_;try(clear hL;intro w hL)
 refine CallReq.val (count_fn k m r _ h hk) hL ?_
 clear hL
 intro w hL
 refine go ?_;try(clear hL;intro w hL)
 exact RetReq.bool hL.drop (decide_eq_decide.2 (by omega))
def leafR (k : Int) : Re := .mk k 0 0 0 0 [] 0 0 false
theorem leaf_rep (m : Mem) (k : Int) (hk : inI k) : RepRe m (reC k 0 0 0 0 (.slice none 0 0) 0 0 false) (leafR k) :=
 .mk k 0 0 0 0 0 0 false none 0 0 [] (fun _ => []) hk (by simp [inU]) (by simp [inU]) (by simp [inU]) (by simp [inU]) (by simp [inI]) (by simp [inI]) rfl (Nat.le_refl _) (Nat.zero_le _)
  (fun i hi => absurd hi (Nat.not_lt_zero _)) (fun i r h => by simp at h)
end Go.Proofs.YtaooenndoopgdaaGreatDoor.tree
