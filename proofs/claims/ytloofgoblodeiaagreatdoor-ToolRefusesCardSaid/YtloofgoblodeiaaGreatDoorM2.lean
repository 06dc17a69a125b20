/- ToolRefuses: part 2 of 10 of the proof. Conditions: none. -/
import Derived.Test.YtloofgoblodeiaaGreatDoorM1
import Derived.Test.YtloofgoblodeiaaGreatDoorProg
import Derived.KernelRfl
import Derived.Test.YtloofgoblodeiaaGreatDoorCards
import Derived.Test.YtloofgoblodeiaaGreatDoorTie
import Derived.LaidMore
import Derived.Stop.LaidErr
import Derived.Lib.LaidTab
import Derived.SevenTiedAt
import Derived.Test.YtloofgoblodeiaaGreatDoorRows
import Derived.JoinedOf
namespace Go.Ev
open Go Go.Proofs
def tabT : List (Option TI) := [
  none,
  some (.mk .func 1 8 ([.nilFunc])),
  some (.mk (.int .i64) 1 8 ([.int .i64 0])),
  some (.mk (.int .i64) 1 8 ([.int .i64 0])),
  some (.mk .bool 1 1 ([.bool false])),
  some (.mk (.int .u8) 1 1 ([.int .u8 0])),
  some (.mk (.int .u8) 1 1 ([.int .u8 0])),
  some (.mk (.struct [(0, 2), (1, 3), (2, 4), (3, 6)]) 4 24 ([.int .i64 0, .int .i64 0, .bool false, .int .u8 0])),
  some (.mk (.struct [(0, 2), (1, 3), (2, 4), (3, 6)]) 4 24 ([.int .i64 0, .int .i64 0, .bool false, .int .u8 0])),
  some (.mk .str 1 16 ([.string (ByteArray.mk (Array.mk []))])),
  some (.mk .str 1 16 ([.string (ByteArray.mk (Array.mk []))])),
  some (.mk .str 1 16 ([.string (ByteArray.mk (Array.mk []))])),
  some (.mk (.int .u64) 1 8 ([.int .u64 0])),
  some (.mk (.struct [(0, 9), (1, 12)]) 2 24 ([.string (ByteArray.mk (Array.mk [])), .int .u64 0])),
  some (.mk (.struct [(0, 9), (1, 12)]) 2 24 ([.string (ByteArray.mk (Array.mk [])), .int .u64 0])),
  some (.mk (.ptr 517) 1 8 ([.pointer none])),
  some (.mk (.ptr 520) 1 8 ([.pointer none])),
  some (.mk (.ptr 527) 1 8 ([.pointer none])),
  some (.mk (.struct [(0, 17)]) 1 8 ([.pointer none])),
  some (.mk (.struct [(0, 17)]) 1 8 ([.pointer none])),
  some (.mk .iface 1 16 ([.nilIface])),
  some (.mk (.int .i32) 1 4 ([.int .i32 0])),
  some (.mk .func 1 8 ([.nilFunc])),
  some (.mk (.ptr 50) 1 8 ([.pointer none])),
  some (.mk (.int .i64) 1 8 ([.int .i64 0])),
  none,
  some (.mk .func 1 8 ([.nilFunc])),
  some (.mk (.slice 5) 1 24 ([.slice none 0 0])),
  some (.mk .func 1 8 ([.nilFunc])),
  some (.mk (.slice 9) 1 24 ([.slice none 0 0])),
  some (.mk (.slice 61) 1 24 ([.slice none 0 0])),
  some (.mk (.struct [(0, 29), (1, 30)]) 2 48 ([.slice none 0 0, .slice none 0 0])),
  some (.mk (.struct [(0, 29), (1, 30)]) 2 48 ([.slice none 0 0, .slice none 0 0])),
  some (.mk .func 1 8 ([.nilFunc])),
  none,
  some (.mk .func 1 8 ([.nilFunc])),
  some (.mk .func 1 8 ([.nilFunc])),
  some (.mk .func 1 8 ([.nilFunc])),
  some (.mk .func 1 8 ([.nilFunc])),
  some (.mk (.slice 59) 1 24 ([.slice none 0 0])),
  some (.mk (.struct [(0, 39)]) 1 24 ([.slice none 0 0])),
  some (.mk (.struct [(0, 39)]) 1 24 ([.slice none 0 0])),
  some (.mk (.array 256 5) 256 256 (List.replicate 256 (.int .u8 0))),
  some (.mk (.struct [(0, 42), (256, 3)]) 257 264 (List.replicate 256 (.int .u8 0) ++ [.int .i64 0])),
  some (.mk (.struct [(0, 42), (256, 3)]) 257 264 (List.replicate 256 (.int .u8 0) ++ [.int .i64 0])),
  some (.mk (.slice 123) 1 24 ([.slice none 0 0])),
  some (.mk (.slice 3) 1 24 ([.slice none 0 0])),
  some (.mk (.struct [(0, 44), (257, 3), (258, 45), (259, 46)]) 260 320 (List.replicate 256 (.int .u8 0) ++ [.int .i64 0, .int .i64 0, .slice none 0 0, .slice none 0 0])),
  some (.mk (.struct [(0, 44), (257, 3), (258, 45), (259, 46)]) 260 320 (List.replicate 256 (.int .u8 0) ++ [.int .i64 0, .int .i64 0, .slice none 0 0, .slice none 0 0])),
  some (.mk (.struct [(0, 32), (2, 41), (3, 48), (263, 3), (264, 3), (265, 27)]) 266 432 ([.slice none 0 0, .slice none 0 0, .slice none 0 0] ++ List.replicate 256 (.int .u8 0) ++ [.int .i64 0, .int .i64 0, .slice none 0 0, .slice none 0 0, .int .i64 0, .int .i64 0, .slice none 0 0])),
  some (.mk (.struct [(0, 32), (2, 41), (3, 48), (263, 3), (264, 3), (265, 27)]) 266 432 ([.slice none 0 0, .slice none 0 0, .slice none 0 0] ++ List.replicate 256 (.int .u8 0) ++ [.int .i64 0, .int .i64 0, .slice none 0 0, .slice none 0 0, .int .i64 0, .int .i64 0, .slice none 0 0])),
  some (.mk .func 1 8 ([.nilFunc])),
  some (.mk .func 1 8 ([.nilFunc])),
  none,
  some (.mk .func 1 8 ([.nilFunc])),
  some (.mk (.int .u64) 1 8 ([.int .u64 0])),
  some (.mk (.array 4 55) 4 32 ([.int .u64 0, .int .u64 0, .int .u64 0, .int .u64 0])),
  some (.mk (.array 4 55) 4 32 ([.int .u64 0, .int .u64 0, .int .u64 0, .int .u64 0])),
  some (.mk (.struct [(0, 3), (1, 57), (5, 39), (6, 3), (7, 3), (8, 4)]) 9 88 ([.int .i64 0, .int .u64 0, .int .u64 0, .int .u64 0, .int .u64 0, .slice none 0 0, .int .i64 0, .int .i64 0, .bool false])),
  some (.mk (.struct [(0, 3), (1, 57), (5, 39), (6, 3), (7, 3), (8, 4)]) 9 88 ([.int .i64 0, .int .u64 0, .int .u64 0, .int .u64 0, .int .u64 0, .slice none 0 0, .int .i64 0, .int .i64 0, .bool false])),
  some (.mk (.struct [(0, 46), (1, 59), (10, 3), (11, 3)]) 12 128 ([.slice none 0 0, .int .i64 0, .int .u64 0, .int .u64 0, .int .u64 0, .int .u64 0, .slice none 0 0, .int .i64 0, .int .i64 0, .bool false, .int .i64 0, .int .i64 0])),
  some (.mk (.struct [(0, 46), (1, 59), (10, 3), (11, 3)]) 12 128 ([.slice none 0 0, .int .i64 0, .int .u64 0, .int .u64 0, .int .u64 0, .int .u64 0, .slice none 0 0, .int .i64 0, .int .i64 0, .bool false, .int .i64 0, .int .i64 0])),
  some (.mk .func 1 8 ([.nilFunc])),
  none,
  some (.mk .func 1 8 ([.nilFunc])),
  none,
  some (.mk .func 1 8 ([.nilFunc])),
  none,
  some (.mk .func 1 8 ([.nilFunc])),
  none,
  some (.mk .func 1 8 ([.nilFunc])),
  some (.mk .func 1 8 ([.nilFunc])),
  some (.mk (.slice 76) 1 24 ([.slice none 0 0])),
  none,
  some (.mk .func 1 8 ([.nilFunc])),
  some (.mk (.struct [(0, 4), (1, 4), (2, 27), (3, 27)]) 4 56 ([.bool false, .bool false, .slice none 0 0, .slice none 0 0])),
  some (.mk (.struct [(0, 4), (1, 4), (2, 27), (3, 27)]) 4 56 ([.bool false, .bool false, .slice none 0 0, .slice none 0 0])),
  some (.mk .func 1 8 ([.nilFunc])),
  some (.mk (.slice 82) 1 24 ([.slice none 0 0])),
  none,
  some (.mk .func 1 8 ([.nilFunc])),
  some (.mk (.struct [(0, 3), (1, 3), (2, 27)]) 3 40 ([.int .i64 0, .int .i64 0, .slice none 0 0])),
  some (.mk (.struct [(0, 3), (1, 3), (2, 27)]) 3 40 ([.int .i64 0, .int .i64 0, .slice none 0 0])),
  some (.mk .func 1 8 ([.nilFunc])),
  some (.mk .func 1 8 ([.nilFunc])),
  some (.mk .func 1 8 ([.nilFunc])),
  none,
  some (.mk .func 1 8 ([.nilFunc])),
  some (.mk (.slice 94) 1 24 ([.slice none 0 0])),
  some (.mk (.struct [(0, 46), (1, 3)]) 2 32 ([.slice none 0 0, .int .i64 0])),
  some (.mk (.struct [(0, 46), (1, 3)]) 2 32 ([.slice none 0 0, .int .i64 0])),
  none,
  some (.mk .func 1 8 ([.nilFunc])),
  some (.mk (.struct [(0, 3), (1, 3), (2, 3), (3, 3), (4, 3)]) 5 40 ([.int .i64 0, .int .i64 0, .int .i64 0, .int .i64 0, .int .i64 0])),
  some (.mk (.struct [(0, 3), (1, 3), (2, 3), (3, 3), (4, 3)]) 5 40 ([.int .i64 0, .int .i64 0, .int .i64 0, .int .i64 0, .int .i64 0])),
  some (.mk .func 1 8 ([.nilFunc])),
  some (.mk .func 1 8 ([.nilFunc])),
  some (.mk (.ptr 101) 1 8 ([.pointer none])),
  some (.mk (.slice 273) 1 24 ([.slice none 0 0])),
  some (.mk (.slice 193) 1 24 ([.slice none 0 0])),
  some (.mk (.struct [(0, 29), (1, 4), (2, 98), (3, 46), (4, 99)]) 5 104 ([.slice none 0 0, .bool false, .slice none 0 0, .slice none 0 0, .slice none 0 0])),
  some (.mk (.struct [(0, 29), (1, 4), (2, 98), (3, 46), (4, 99)]) 5 104 ([.slice none 0 0, .bool false, .slice none 0 0, .slice none 0 0, .slice none 0 0])),
  some (.mk .func 1 8 ([.nilFunc])),
  some (.mk .func 1 8 ([.nilFunc])),
  some (.mk .func 1 8 ([.nilFunc])),
  some (.mk .func 1 8 ([.nilFunc])),
  some (.mk (.ptr 115) 1 8 ([.pointer none])),
  none,
  some (.mk .func 1 8 ([.nilFunc])),
  some (.mk (.ptr 118) 1 8 ([.pointer none])),
  some (.mk (.map 9 3) 1 8 ([.map none])),
  some (.mk (.ptr 301) 1 8 ([.pointer none])),
  some (.mk (.slice 203) 1 24 ([.slice none 0 0])),
  some (.mk (.slice 203) 1 24 ([.slice none 0 0])),
  some (.mk (.struct [(0, 111), (1, 41), (2, 44), (259, 113), (260, 32)]) 262 368 ([.pointer none, .slice none 0 0] ++ List.replicate 256 (.int .u8 0) ++ [.int .i64 0, .slice none 0 0, .slice none 0 0, .slice none 0 0])),
  some (.mk (.struct [(0, 111), (1, 41), (2, 44), (259, 113), (260, 32)]) 262 368 ([.pointer none, .slice none 0 0] ++ List.replicate 256 (.int .u8 0) ++ [.int .i64 0, .slice none 0 0, .slice none 0 0, .slice none 0 0])),
  some (.mk (.slice 113) 1 24 ([.slice none 0 0])),
  some (.mk (.struct [(0, 106), (1, 3), (2, 110), (3, 116), (4, 48)]) 264 368 ([.pointer none, .int .i64 0, .map none, .slice none 0 0] ++ List.replicate 256 (.int .u8 0) ++ [.int .i64 0, .int .i64 0, .slice none 0 0, .slice none 0 0])),
  some (.mk (.struct [(0, 106), (1, 3), (2, 110), (3, 116), (4, 48)]) 264 368 ([.pointer none, .int .i64 0, .map none, .slice none 0 0] ++ List.replicate 256 (.int .u8 0) ++ [.int .i64 0, .int .i64 0, .slice none 0 0, .slice none 0 0])),
  none,
  some (.mk .func 1 8 ([.nilFunc])),
  some (.mk .func 1 8 ([.nilFunc])),
  some (.mk (.struct [(0, 46), (1, 46)]) 2 48 ([.slice none 0 0, .slice none 0 0])),
  some (.mk (.struct [(0, 46), (1, 46)]) 2 48 ([.slice none 0 0, .slice none 0 0])),
  none,
  some (.mk .func 1 8 ([.nilFunc])),
  some (.mk .func 1 8 ([.nilFunc])),
  some (.mk .func 1 8 ([.nilFunc])),
  some (.mk .func 1 8 ([.nilFunc])),
  none,
  some (.mk .func 1 8 ([.nilFunc])),
  some (.mk (.map 3 3) 1 8 ([.map none])),
  some (.mk .func 1 8 ([.nilFunc])),
  some (.mk .func 1 8 ([.nilFunc])),
  some (.mk .func 1 8 ([.nilFunc])),
  some (.mk (.int .u32) 1 4 ([.int .u32 0])),
  some (.mk .func 1 8 ([.nilFunc])),
  some (.mk (.ptr 139) 1 8 ([.pointer none])),
  some (.mk (.struct [(0, 137), (1, 27)]) 2 32 ([.pointer none, .slice none 0 0])),
  some (.mk (.struct [(0, 137), (1, 27)]) 2 32 ([.pointer none, .slice none 0 0])),
  some (.mk .func 1 8 ([.nilFunc])),
  some (.mk .iface 1 16 ([.nilIface])),
  some (.mk .iface 1 16 ([.nilIface])),
  none,
  some (.mk .func 1 8 ([.nilFunc])),
  some (.mk .func 1 8 ([.nilFunc])),
  some (.mk .func 1 8 ([.nilFunc])),
  some (.mk (.slice 148) 1 24 ([.slice none 0 0])),
  some (.mk (.ptr 235) 1 8 ([.pointer none])),
  some (.mk .func 1 8 ([.nilFunc])),
  none,
  some (.mk .func 1 8 ([.nilFunc])),
  some (.mk .func 1 8 ([.nilFunc])),
  some (.mk .func 1 8 ([.nilFunc])),
  some (.mk .func 1 8 ([.nilFunc])),
  some (.mk .func 1 8 ([.nilFunc])),
  some (.mk .func 1 8 ([.nilFunc])),
  some (.mk (.int .u64) 1 8 ([.int .u64 0])),
  some (.mk .func 1 8 ([.nilFunc])),
  some (.mk .func 1 8 ([.nilFunc])),
  some (.mk .func 1 8 ([.nilFunc])),
  some (.mk .func 1 8 ([.nilFunc])),
  some (.mk .func 1 8 ([.nilFunc])),
  some (.mk .func 1 8 ([.nilFunc])),
  some (.mk .func 1 8 ([.nilFunc])),
  some (.mk .func 1 8 ([.nilFunc])),
  some (.mk .func 1 8 ([.nilFunc])),
  some (.mk .func 1 8 ([.nilFunc])),
  some (.mk .func 1 8 ([.nilFunc])),
  some (.mk (.ptr 177) 1 8 ([.pointer none])),
  some (.mk (.struct [(0, 3), (1, 3), (2, 3)]) 3 24 ([.int .i64 0, .int .i64 0, .int .i64 0])),
  some (.mk (.struct [(0, 3), (1, 3), (2, 3)]) 3 24 ([.int .i64 0, .int .i64 0, .int .i64 0])),
  some (.mk .func 1 8 ([.nilFunc])),
  none,
  some (.mk .func 1 8 ([.nilFunc])),
  some (.mk .func 1 8 ([.nilFunc])),
  some (.mk (.struct [(0, 32), (2, 90), (4, 171), (7, 175)]) 8 112 ([.slice none 0 0, .slice none 0 0, .slice none 0 0, .int .i64 0, .int .i64 0, .int .i64 0, .int .i64 0, .nilFunc])),
  some (.mk (.struct [(0, 32), (2, 90), (4, 171), (7, 175)]) 8 112 ([.slice none 0 0, .slice none 0 0, .slice none 0 0, .int .i64 0, .int .i64 0, .int .i64 0, .int .i64 0, .nilFunc])),
  some (.mk .func 1 8 ([.nilFunc])),
  some (.mk .func 1 8 ([.nilFunc])),
  some (.mk .func 1 8 ([.nilFunc])),
  some (.mk .func 1 8 ([.nilFunc])),
  some (.mk (.array 256 4) 256 256 (List.replicate 256 (.bool false))),
  some (.mk (.array 256 4) 256 256 (List.replicate 256 (.bool false))),
  none,
  some (.mk .func 1 8 ([.nilFunc])),
  some (.mk .func 1 8 ([.nilFunc])),
  some (.mk (.ptr 183) 1 8 ([.pointer none])),
  some (.mk .func 1 8 ([.nilFunc])),
  some (.mk (.slice 368) 1 24 ([.slice none 0 0])),
  none,
  some (.mk .func 1 8 ([.nilFunc])),
  some (.mk (.struct [(0, 3), (1, 61), (13, 9)]) 14 152 ([.int .i64 0, .slice none 0 0, .int .i64 0, .int .u64 0, .int .u64 0, .int .u64 0, .int .u64 0, .slice none 0 0, .int .i64 0, .int .i64 0, .bool false, .int .i64 0, .int .i64 0, .string (ByteArray.mk (Array.mk []))])),
  some (.mk (.struct [(0, 3), (1, 61), (13, 9)]) 14 152 ([.int .i64 0, .slice none 0 0, .int .i64 0, .int .u64 0, .int .u64 0, .int .u64 0, .int .u64 0, .slice none 0 0, .int .i64 0, .int .i64 0, .bool false, .int .i64 0, .int .i64 0, .string (ByteArray.mk (Array.mk []))])),
  none,
  some (.mk .func 1 8 ([.nilFunc])),
  none,
  some (.mk .func 1 8 ([.nilFunc])),
  some (.mk .func 1 8 ([.nilFunc])),
  some (.mk .func 1 8 ([.nilFunc])),
  some (.mk (.slice 57) 1 24 ([.slice none 0 0])),
  some (.mk .func 1 8 ([.nilFunc])),
  some (.mk (.slice 46) 1 24 ([.slice none 0 0])),
  some (.mk (.slice 46) 1 24 ([.slice none 0 0])),
  none,
  some (.mk .func 1 8 ([.nilFunc])),
  some (.mk .func 1 8 ([.nilFunc])),
  some (.mk .func 1 8 ([.nilFunc])),
  none,
  some (.mk .func 1 8 ([.nilFunc])),
  some (.mk .func 1 8 ([.nilFunc])),
  none,
  some (.mk .func 1 8 ([.nilFunc])),
  some (.mk .func 1 8 ([.nilFunc])),
  some (.mk .func 1 8 ([.nilFunc])),
  some (.mk .func 1 8 ([.nilFunc])),
  some (.mk .func 1 8 ([.nilFunc])),
  some (.mk .func 1 8 ([.nilFunc])),
  some (.mk .func 1 8 ([.nilFunc])),
  some (.mk .func 1 8 ([.nilFunc])),
  none,
  some (.mk .func 1 8 ([.nilFunc])),
  some (.mk (.map 3 4) 1 8 ([.map none])),
  some (.mk .func 1 8 ([.nilFunc])),
  some (.mk (.ptr 227) 1 8 ([.pointer none])),
  some (.mk (.slice 230) 1 24 ([.slice none 0 0])),
  some (.mk (.struct [(0, 225), (1, 46), (2, 46)]) 3 72 ([.slice none 0 0, .slice none 0 0, .slice none 0 0])),
  some (.mk (.struct [(0, 225), (1, 46), (2, 46)]) 3 72 ([.slice none 0 0, .slice none 0 0, .slice none 0 0])),
  some (.mk .func 1 8 ([.nilFunc])),
  some (.mk (.struct [(0, 3), (1, 3)]) 2 16 ([.int .i64 0, .int .i64 0])),
  some (.mk (.struct [(0, 3), (1, 3)]) 2 16 ([.int .i64 0, .int .i64 0])),
  some (.mk (.ptr 5) 1 8 ([.pointer none])),
  some (.mk .func 1 8 ([.nilFunc])),
  some (.mk .func 1 8 ([.nilFunc])),
  some (.mk (.struct [(0, 48), (260, 46), (261, 46), (262, 46)]) 263 392 (List.replicate 256 (.int .u8 0) ++ [.int .i64 0, .int .i64 0, .slice none 0 0, .slice none 0 0, .slice none 0 0, .slice none 0 0, .slice none 0 0])),
  some (.mk (.struct [(0, 48), (260, 46), (261, 46), (262, 46)]) 263 392 (List.replicate 256 (.int .u8 0) ++ [.int .i64 0, .int .i64 0, .slice none 0 0, .slice none 0 0, .slice none 0 0, .slice none 0 0, .slice none 0 0])),
  some (.mk .func 1 8 ([.nilFunc])),
  some (.mk .func 1 8 ([.nilFunc])),
  some (.mk .func 1 8 ([.nilFunc])),
  some (.mk .func 1 8 ([.nilFunc])),
  some (.mk .func 1 8 ([.nilFunc])),
  some (.mk (.ptr 245) 1 8 ([.pointer none])),
  some (.mk (.map 9 4) 1 8 ([.map none])),
  some (.mk (.slice 27) 1 24 ([.slice none 0 0])),
  some (.mk (.struct [(0, 106), (1, 3), (2, 242), (3, 116), (4, 243)]) 5 72 ([.pointer none, .int .i64 0, .map none, .slice none 0 0, .slice none 0 0])),
  some (.mk (.struct [(0, 106), (1, 3), (2, 242), (3, 116), (4, 243)]) 5 72 ([.pointer none, .int .i64 0, .map none, .slice none 0 0, .slice none 0 0])),
  some (.mk .func 1 8 ([.nilFunc])),
  some (.mk .func 1 8 ([.nilFunc])),
  some (.mk .func 1 8 ([.nilFunc])),
  some (.mk .func 1 8 ([.nilFunc])),
  some (.mk .func 1 8 ([.nilFunc])),
  some (.mk .func 1 8 ([.nilFunc])),
  some (.mk .func 1 8 ([.nilFunc])),
  some (.mk .func 1 8 ([.nilFunc])),
  some (.mk .func 1 8 ([.nilFunc])),
  some (.mk (.ptr 347) 1 8 ([.pointer none])),
  none,
  some (.mk .func 1 8 ([.nilFunc])),
  some (.mk .func 1 8 ([.nilFunc])),
  some (.mk .func 1 8 ([.nilFunc])),
  some (.mk (.struct [(0, 48)]) 260 320 (List.replicate 256 (.int .u8 0) ++ [.int .i64 0, .int .i64 0, .slice none 0 0, .slice none 0 0])),
  some (.mk (.struct [(0, 48)]) 260 320 (List.replicate 256 (.int .u8 0) ++ [.int .i64 0, .int .i64 0, .slice none 0 0, .slice none 0 0])),
  none,
  some (.mk .func 1 8 ([.nilFunc])),
  some (.mk .func 1 8 ([.nilFunc])),
  some (.mk .func 1 8 ([.nilFunc])),
  none,
  some (.mk .func 1 8 ([.nilFunc])),
  some (.mk .func 1 8 ([.nilFunc])),
  some (.mk .func 1 8 ([.nilFunc])),
  none,
  some (.mk .func 1 8 ([.nilFunc])),
  some (.mk (.struct [(0, 9), (1, 9)]) 2 32 ([.string (ByteArray.mk (Array.mk [])), .string (ByteArray.mk (Array.mk []))])),
  some (.mk (.struct [(0, 9), (1, 9)]) 2 32 ([.string (ByteArray.mk (Array.mk [])), .string (ByteArray.mk (Array.mk []))])),
  none,
  some (.mk .func 1 8 ([.nilFunc])),
  none,
  some (.mk .func 1 8 ([.nilFunc])),
  none,
  some (.mk .func 1 8 ([.nilFunc])),
  some (.mk (.ptr 284) 1 8 ([.pointer none])),
  some (.mk (.slice 363) 1 24 ([.slice none 0 0])),
  some (.mk (.slice 4) 1 24 ([.slice none 0 0])),
  some (.mk (.struct [(0, 281), (1, 282), (2, 189), (3, 3), (4, 3), (5, 24)]) 6 96 ([.slice none 0 0, .slice none 0 0, .slice none 0 0, .int .i64 0, .int .i64 0, .int .i64 0])),
  some (.mk (.struct [(0, 281), (1, 282), (2, 189), (3, 3), (4, 3), (5, 24)]) 6 96 ([.slice none 0 0, .slice none 0 0, .slice none 0 0, .int .i64 0, .int .i64 0, .int .i64 0])),
  some (.mk .func 1 8 ([.nilFunc])),
  some (.mk (.slice 1) 1 24 ([.slice none 0 0])),
  some (.mk (.slice 365) 1 24 ([.slice none 0 0])),
  none,
  some (.mk .func 1 8 ([.nilFunc])),
  some (.mk (.ptr 292) 1 8 ([.pointer none])),
  some (.mk (.struct [(0, 287), (1, 3), (2, 189), (3, 3), (4, 3), (5, 24)]) 6 80 ([.slice none 0 0, .int .i64 0, .slice none 0 0, .int .i64 0, .int .i64 0, .int .i64 0])),
  some (.mk (.struct [(0, 287), (1, 3), (2, 189), (3, 3), (4, 3), (5, 24)]) 6 80 ([.slice none 0 0, .int .i64 0, .slice none 0 0, .int .i64 0, .int .i64 0, .int .i64 0])),
  some (.mk .func 1 8 ([.nilFunc])),
  some (.mk .func 1 8 ([.nilFunc])),
  some (.mk .func 1 8 ([.nilFunc])),
  some (.mk .func 1 8 ([.nilFunc])),
  some (.mk .func 1 8 ([.nilFunc])),
  some (.mk (.map 304 3) 1 8 ([.map none])),
  some (.mk (.slice 304) 1 24 ([.slice none 0 0])),
  some (.mk (.struct [(0, 299), (1, 298)]) 2 32 ([.slice none 0 0, .map none])),
  some (.mk (.struct [(0, 299), (1, 298)]) 2 32 ([.slice none 0 0, .map none])),
  some (.mk .func 1 8 ([.nilFunc])),
  some (.mk (.struct [(0, 3), (1, 57), (5, 3), (6, 3), (7, 4)]) 8 64 ([.int .i64 0, .int .u64 0, .int .u64 0, .int .u64 0, .int .u64 0, .int .i64 0, .int .i64 0, .bool false])),
  some (.mk (.struct [(0, 3), (1, 57), (5, 3), (6, 3), (7, 4)]) 8 64 ([.int .i64 0, .int .u64 0, .int .u64 0, .int .u64 0, .int .u64 0, .int .i64 0, .int .i64 0, .bool false])),
  none,
  some (.mk .func 1 8 ([.nilFunc])),
  some (.mk (.ptr 383) 1 8 ([.pointer none])),
  some (.mk .func 1 8 ([.nilFunc])),
  some (.mk .func 1 8 ([.nilFunc])),
  some (.mk .func 1 8 ([.nilFunc])),
  some (.mk .func 1 8 ([.nilFunc])),
  some (.mk .func 1 8 ([.nilFunc])),
  some (.mk .func 1 8 ([.nilFunc])),
  some (.mk .func 1 8 ([.nilFunc])),
  some (.mk .func 1 8 ([.nilFunc])),
  some (.mk .func 1 8 ([.nilFunc])),
  some (.mk .func 1 8 ([.nilFunc])),
  some (.mk .func 1 8 ([.nilFunc])),
  some (.mk .func 1 8 ([.nilFunc])),
  none,
  some (.mk .func 1 8 ([.nilFunc])),
  some (.mk .func 1 8 ([.nilFunc])),
  some (.mk .func 1 8 ([.nilFunc])),
  some (.mk .func 1 8 ([.nilFunc])),
  some (.mk .func 1 8 ([.nilFunc])),
  some (.mk .func 1 8 ([.nilFunc])),
  some (.mk .other 1 8 ([.pointer none])),
  some (.mk .func 1 8 ([.nilFunc])),
  some (.mk (.array 24 5) 24 24 (List.replicate 24 (.int .u8 0))),
  some (.mk .func 1 8 ([.nilFunc])),
  some (.mk .func 1 8 ([.nilFunc])),
  none,
  some (.mk .func 1 8 ([.nilFunc])),
  none,
  some (.mk .func 1 8 ([.nilFunc])),
  some (.mk .func 1 8 ([.nilFunc])),
  some (.mk .func 1 8 ([.nilFunc])),
  some (.mk .func 1 8 ([.nilFunc])),
  some (.mk (.slice 341) 1 24 ([.slice none 0 0])),
  some (.mk .func 1 8 ([.nilFunc])),
  some (.mk (.array 2 5) 2 2 ([.int .u8 0, .int .u8 0])),
  some (.mk .func 1 8 ([.nilFunc])),
  some (.mk .func 1 8 ([.nilFunc])),
  some (.mk .func 1 8 ([.nilFunc])),
  some (.mk .func 1 8 ([.nilFunc])),
  some (.mk (.struct [(0, 111), (1, 203), (2, 203)]) 3 56 ([.pointer none, .slice none 0 0, .slice none 0 0])),
  some (.mk (.struct [(0, 111), (1, 203), (2, 203)]) 3 56 ([.pointer none, .slice none 0 0, .slice none 0 0])),
  some (.mk .func 1 8 ([.nilFunc])),
  some (.mk .iface 1 16 ([.nilIface])),
  some (.mk .iface 1 16 ([.nilIface])),
  some (.mk .func 1 8 ([.nilFunc])),
  some (.mk .func 1 8 ([.nilFunc])),
  some (.mk .func 1 8 ([.nilFunc])),
  none,
  some (.mk .func 1 8 ([.nilFunc])),
  some (.mk .func 1 8 ([.nilFunc])),
  some (.mk .func 1 8 ([.nilFunc])),
  some (.mk .func 1 8 ([.nilFunc])),
  some (.mk .func 1 8 ([.nilFunc])),
  some (.mk .func 1 8 ([.nilFunc])),
  some (.mk .func 1 8 ([.nilFunc])),
  some (.mk (.struct [(0, 273), (2, 46)]) 3 56 ([.string (ByteArray.mk (Array.mk [])), .string (ByteArray.mk (Array.mk [])), .slice none 0 0])),
  some (.mk (.struct [(0, 273), (2, 46)]) 3 56 ([.string (ByteArray.mk (Array.mk [])), .string (ByteArray.mk (Array.mk [])), .slice none 0 0])),
  some (.mk (.struct [(0, 3), (1, 3), (2, 57), (6, 9), (7, 3), (8, 3)]) 9 80 ([.int .i64 0, .int .i64 0, .int .u64 0, .int .u64 0, .int .u64 0, .int .u64 0, .string (ByteArray.mk (Array.mk [])), .int .i64 0, .int .i64 0])),
  some (.mk (.struct [(0, 3), (1, 3), (2, 57), (6, 9), (7, 3), (8, 3)]) 9 80 ([.int .i64 0, .int .i64 0, .int .u64 0, .int .u64 0, .int .u64 0, .int .u64 0, .string (ByteArray.mk (Array.mk [])), .int .i64 0, .int .i64 0])),
  some (.mk .func 1 8 ([.nilFunc])),
  some (.mk (.struct [(0, 9), (1, 59)]) 10 104 ([.string (ByteArray.mk (Array.mk [])), .int .i64 0, .int .u64 0, .int .u64 0, .int .u64 0, .int .u64 0, .slice none 0 0, .int .i64 0, .int .i64 0, .bool false])),
  some (.mk (.struct [(0, 9), (1, 59)]) 10 104 ([.string (ByteArray.mk (Array.mk [])), .int .i64 0, .int .u64 0, .int .u64 0, .int .u64 0, .int .u64 0, .slice none 0 0, .int .i64 0, .int .i64 0, .bool false])),
  some (.mk (.ptr 371) 1 8 ([.pointer none])),
  some (.mk (.struct [(0, 9), (1, 3)]) 2 24 ([.string (ByteArray.mk (Array.mk [])), .int .i64 0])),
  some (.mk (.struct [(0, 9), (1, 3)]) 2 24 ([.string (ByteArray.mk (Array.mk [])), .int .i64 0])),
  none,
  some (.mk .func 1 8 ([.nilFunc])),
  some (.mk .func 1 8 ([.nilFunc])),
  some (.mk .func 1 8 ([.nilFunc])),
  some (.mk .func 1 8 ([.nilFunc])),
  some (.mk (.ptr 41) 1 8 ([.pointer none])),
  some (.mk (.ptr 380) 1 8 ([.pointer none])),
  some (.mk (.struct [(0, 111), (1, 96), (2, 24)]) 3 24 ([.pointer none, .nilFunc, .int .i64 0])),
  some (.mk (.struct [(0, 111), (1, 96), (2, 24)]) 3 24 ([.pointer none, .nilFunc, .int .i64 0])),
  some (.mk (.map 3 203) 1 8 ([.map none])),
  some (.mk (.struct [(0, 111), (1, 5), (2, 5), (3, 24), (4, 381), (5, 381)]) 6 40 ([.pointer none, .int .u8 0, .int .u8 0, .int .i64 0, .map none, .map none])),
  some (.mk (.struct [(0, 111), (1, 5), (2, 5), (3, 24), (4, 381), (5, 381)]) 6 40 ([.pointer none, .int .u8 0, .int .u8 0, .int .i64 0, .map none, .map none])),
  some (.mk .func 1 8 ([.nilFunc])),
  none,
  some (.mk .func 1 8 ([.nilFunc])),
  some (.mk .func 1 8 ([.nilFunc])),
  some (.mk (.map 391 5) 1 8 ([.map none])),
  some (.mk .func 1 8 ([.nilFunc])),
  some (.mk (.struct [(0, 5), (1, 4)]) 2 2 ([.int .u8 0, .bool false])),
  some (.mk (.struct [(0, 5), (1, 4)]) 2 2 ([.int .u8 0, .bool false])),
  some (.mk .func 1 8 ([.nilFunc])),
  some (.mk .func 1 8 ([.nilFunc])),
  some (.mk .func 1 8 ([.nilFunc])),
  some (.mk .func 1 8 ([.nilFunc])),
  some (.mk .func 1 8 ([.nilFunc])),
  some (.mk .func 1 8 ([.nilFunc])),
  some (.mk .func 1 8 ([.nilFunc])),
  some (.mk .func 1 8 ([.nilFunc])),
  some (.mk .func 1 8 ([.nilFunc])),
  some (.mk (.array 20 55) 20 160 (List.replicate 20 (.int .u64 0))),
  some (.mk (.array 65 5) 65 65 (List.replicate 65 (.int .u8 0))),
  some (.mk .func 1 8 ([.nilFunc])),
  none,
  some (.mk .func 1 8 ([.nilFunc])),
  none,
  some (.mk .func 1 8 ([.nilFunc])),
  some (.mk .func 1 8 ([.nilFunc])),
  some (.mk (.struct [(0, 111), (1, 131)]) 2 16 ([.pointer none, .map none])),
  some (.mk (.struct [(0, 111), (1, 131)]) 2 16 ([.pointer none, .map none])),
  some (.mk .func 1 8 ([.nilFunc])),
  some (.mk .func 1 8 ([.nilFunc])),
  some (.mk (.struct [(0, 5), (1, 5)]) 2 2 ([.int .u8 0, .int .u8 0])),
  some (.mk (.struct [(0, 5), (1, 5)]) 2 2 ([.int .u8 0, .int .u8 0])),
  some (.mk (.array 16 414) 32 32 (List.replicate 32 (.int .u8 0))),
  some (.mk .func 1 8 ([.nilFunc])),
  some (.mk .func 1 8 ([.nilFunc])),
  some (.mk .func 1 8 ([.nilFunc])),
  some (.mk .func 1 8 ([.nilFunc])),
  some (.mk .func 1 8 ([.nilFunc])),
  none,
  some (.mk .func 1 8 ([.nilFunc])),
  some (.mk .func 1 8 ([.nilFunc])),
  some (.mk .func 1 8 ([.nilFunc])),
  some (.mk .func 1 8 ([.nilFunc])),
  some (.mk .func 1 8 ([.nilFunc])),
  some (.mk .func 1 8 ([.nilFunc])),
  some (.mk .func 1 8 ([.nilFunc])),
  some (.mk .func 1 8 ([.nilFunc])),
  some (.mk .func 1 8 ([.nilFunc])),
  some (.mk .func 1 8 ([.nilFunc])),
  some (.mk .func 1 8 ([.nilFunc])),
  some (.mk .func 1 8 ([.nilFunc])),
  some (.mk .func 1 8 ([.nilFunc])),
  some (.mk .func 1 8 ([.nilFunc])),
  some (.mk .func 1 8 ([.nilFunc])),
  some (.mk (.struct [(0, 111), (1, 5), (2, 222)]) 3 24 ([.pointer none, .int .u8 0, .map none])),
  some (.mk (.struct [(0, 111), (1, 5), (2, 222)]) 3 24 ([.pointer none, .int .u8 0, .map none])),
  some (.mk .func 1 8 ([.nilFunc])),
  some (.mk .func 1 8 ([.nilFunc])),
  some (.mk (.array 64 5) 64 64 (List.replicate 64 (.int .u8 0))),
  some (.mk .func 1 8 ([.nilFunc])),
  some (.mk .func 1 8 ([.nilFunc])),
  some (.mk .func 1 8 ([.nilFunc])),
  some (.mk .func 1 8 ([.nilFunc])),
  some (.mk .func 1 8 ([.nilFunc])),
  some (.mk .func 1 8 ([.nilFunc])),
  none,
  some (.mk .func 1 8 ([.nilFunc])),
  some (.mk .func 1 8 ([.nilFunc])),
  some (.mk (.struct [(0, 3), (1, 425), (2, 425), (3, 398)]) 4 32 ([.int .i64 0, .nilFunc, .nilFunc, .nilFunc])),
  some (.mk (.struct [(0, 3), (1, 425), (2, 425), (3, 398)]) 4 32 ([.int .i64 0, .nilFunc, .nilFunc, .nilFunc])),
  some (.mk .func 1 8 ([.nilFunc])),
  some (.mk .func 1 8 ([.nilFunc])),
  some (.mk .func 1 8 ([.nilFunc])),
  some (.mk .func 1 8 ([.nilFunc])),
  some (.mk .func 1 8 ([.nilFunc])),
  none,
  some (.mk .func 1 8 ([.nilFunc])),
  some (.mk .func 1 8 ([.nilFunc])),
  some (.mk (.array 32 5) 32 32 (List.replicate 32 (.int .u8 0))),
  some (.mk .func 1 8 ([.nilFunc])),
  some (.mk .func 1 8 ([.nilFunc])),
  some (.mk .func 1 8 ([.nilFunc])),
  some (.mk .func 1 8 ([.nilFunc])),
  some (.mk .func 1 8 ([.nilFunc])),
  some (.mk .func 1 8 ([.nilFunc])),
  some (.mk .func 1 8 ([.nilFunc])),
  some (.mk .func 1 8 ([.nilFunc])),
  some (.mk (.int .i64) 1 8 ([.int .i64 0])),
  none,
  some (.mk .func 1 8 ([.nilFunc])),
  some (.mk .func 1 8 ([.nilFunc])),
  some (.mk .func 1 8 ([.nilFunc])),
  some (.mk .func 1 8 ([.nilFunc])),
  some (.mk .func 1 8 ([.nilFunc])),
  some (.mk .func 1 8 ([.nilFunc])),
  some (.mk .func 1 8 ([.nilFunc])),
  some (.mk .func 1 8 ([.nilFunc])),
  some (.mk (.int .u64) 1 8 ([.int .u64 0])),
  some (.mk .func 1 8 ([.nilFunc])),
  some (.mk .func 1 8 ([.nilFunc])),
  some (.mk .func 1 8 ([.nilFunc])),
  some (.mk (.ptr 3) 1 8 ([.pointer none])),
  some (.mk .func 1 8 ([.nilFunc])),
  some (.mk .func 1 8 ([.nilFunc])),
  some (.mk .func 1 8 ([.nilFunc])),
  some (.mk .func 1 8 ([.nilFunc])),
  some (.mk .func 1 8 ([.nilFunc])),
  some (.mk .func 1 8 ([.nilFunc])),
  some (.mk .func 1 8 ([.nilFunc])),
  some (.mk .func 1 8 ([.nilFunc])),
  some (.mk .func 1 8 ([.nilFunc])),
  some (.mk (.ptr 480) 1 8 ([.pointer none])),
  none,
  some (.mk .func 1 8 ([.nilFunc])),
  some (.mk .func 1 8 ([.nilFunc])),
  some (.mk .func 1 8 ([.nilFunc])),
  some (.mk (.int .i64) 1 8 ([.int .i64 0])),
  none,
  some (.mk .func 1 8 ([.nilFunc])),
  some (.mk (.ptr 510) 1 8 ([.pointer none])),
  some (.mk .func 1 8 ([.nilFunc])),
  some (.mk .func 1 8 ([.nilFunc])),
  some (.mk .func 1 8 ([.nilFunc])),
  none,
  some (.mk .func 1 8 ([.nilFunc])),
  some (.mk .func 1 8 ([.nilFunc])),
  some (.mk (.struct [(0, 9), (1, 9), (2, 142)]) 3 48 ([.string (ByteArray.mk (Array.mk [])), .string (ByteArray.mk (Array.mk [])), .nilIface])),
  some (.mk (.struct [(0, 9), (1, 9), (2, 142)]) 3 48 ([.string (ByteArray.mk (Array.mk [])), .string (ByteArray.mk (Array.mk [])), .nilIface])),
  some (.mk .func 1 8 ([.nilFunc])),
  some (.mk .func 1 8 ([.nilFunc])),
  some (.mk (.ptr 515) 1 8 ([.pointer none])),
  some (.mk (.struct [(0, 9)]) 1 16 ([.string (ByteArray.mk (Array.mk []))])),
  some (.mk (.struct [(0, 9)]) 1 16 ([.string (ByteArray.mk (Array.mk []))])),
  some (.mk (.struct [(0, 17), (1, 17), (2, 17), (3, 9)]) 4 40 ([.pointer none, .pointer none, .pointer none, .string (ByteArray.mk (Array.mk []))])),
  some (.mk (.struct [(0, 17), (1, 17), (2, 17), (3, 9)]) 4 40 ([.pointer none, .pointer none, .pointer none, .string (ByteArray.mk (Array.mk []))])),
  some (.mk (.array 0 16) 0 0 ([])),
  some (.mk (.struct [(0, 518)]) 0 0 ([])),
  some (.mk (.struct [(0, 518)]) 0 0 ([])),
  some (.mk (.int .u8) 1 1 ([.int .u8 0])),
  some (.mk (.int .u8) 1 1 ([.int .u8 0])),
  some (.mk .func 1 8 ([.nilFunc])),
  some (.mk (.int .i32) 1 4 ([.int .i32 0])),
  some (.mk (.int .i32) 1 4 ([.int .i32 0])),
  some (.mk (.struct [(0, 12), (1, 12), (2, 135), (3, 521), (4, 5), (5, 5), (6, 522), (7, 523), (8, 231), (9, 524), (10, 525)]) 11 48 ([.int .u64 0, .int .u64 0, .int .u32 0, .int .u8 0, .int .u8 0, .int .u8 0, .int .u8 0, .nilFunc, .pointer none, .int .i32 0, .int .i32 0])),
  some (.mk (.struct [(0, 12), (1, 12), (2, 135), (3, 521), (4, 5), (5, 5), (6, 522), (7, 523), (8, 231), (9, 524), (10, 525)]) 11 48 ([.int .u64 0, .int .u64 0, .int .u32 0, .int .u8 0, .int .u8 0, .int .u8 0, .int .u8 0, .nilFunc, .pointer none, .int .i32 0, .int .i32 0]))]
def tabG : List Bool := [false, false, true, true, true, true, true, true, true, true, true, true, true, true, true, true, true, true, true, true, true, true, true, true, true, true, true, true, true, true, true, true, true, true, true, true, true, true, true, true, true, true, true, true, true, true, true, true, true, true, true, true, true, true, true, true, true, true, true, true, true, true, true, true, true, true, true, true, true, true, true, true, true, true, true, true, true, true, true, true, true, true, true, true, true, true, true, true, true, true, true, true, true, true, true, true, true, true, true, true, true, true, true, true, true, true, true, true, true, true, true, true, true, true, true, true, true, true, true, true, true, true, true, true, true, true, true, true, true, true, true, true, true, true, true, true, true, true, true, true, true, true, true, true, true, true, true, true, true, true, true, true, true, true, true, true, true, true, true, true, true, true, true, true, true, true, true, true, true, true, true, true, true, true, true, true, true, true, true, true, true, true, true, true, true, true, true, true, true, true, true, true, true, true, true, true, true, true, true, true, true, false, false, true, true, true, true, true, true, true, true, true, true, true, true, true, false, true, true, true, true, true, true, true, true, true, false, true, true, true, true, true, true, true, true, true, true, true, true, true, true, true, true, true, true, true, true, true, true, true, true, true, true, true, true, true, true, true, true, true, true, true, true, true, true, true, true, true, true, true, true, true, true, true, true, true, true, true, true, true, false, true, true, true, true, true, true, true, true, true, true, true, true, true, true, true, true, true, true, true, true, true, true, true, true, true, true, true, true, true, true, true, true, true, true, true, true, true, true, true, true, true, true, true, true, true, true, true, true, true, true, true, true, true, true, true, true, true, true, true, true, true, true, true, true, true, true, true, true, true, true, true, true, true, true, true, true, true, true, true, true, true, true, true, true, true, true, true, true, true, true, true, true, true, true, true, true, true, true, true, true, true, true, true, true, true, true, true, true, true, true, true, true, true, true, true, true, true, true, true, true, true, true, true, true, true, true, true, true, true, true, true, true, true, true, true, true, true, true, true, true, false, false, false, false, false, false, false, false, false, false, false, false, false, false, false, false, false, false, true, true, true, true, true, false, false, false, false, false, false, false, false, false, false, false, false, false, true]
def tabE : List Nat := [13, 14, 18, 19, 516, 517, 519, 520, 526, 527]
def X : Tab := ⟨tabT, tabG, tabE⟩
def tE (n : Nat) : Option TI := match look tabT n with | some x => x | none => none
theorem t1 : tiOf Tryz.prog 1 = tE 1 := by kernel_rfl
theorem t2 : tiOf Tryz.prog 2 = tE 2 := by kernel_rfl
theorem t3 : tiOf Tryz.prog 3 = tE 3 := by kernel_rfl
theorem t4 : tiOf Tryz.prog 4 = tE 4 := by kernel_rfl
theorem t5 : tiOf Tryz.prog 5 = tE 5 := by kernel_rfl
theorem t6 : tiOf Tryz.prog 6 = tE 6 := by kernel_rfl
theorem t7 : tiOf Tryz.prog 7 = tE 7 := by kernel_rfl
theorem t8 : tiOf Tryz.prog 8 = tE 8 := by kernel_rfl
theorem t9 : tiOf Tryz.prog 9 = tE 9 := by kernel_rfl
theorem t10 : tiOf Tryz.prog 10 = tE 10 := by kernel_rfl
theorem t11 : tiOf Tryz.prog 11 = tE 11 := by kernel_rfl
theorem t12 : tiOf Tryz.prog 12 = tE 12 := by kernel_rfl
theorem t13 : tiOf Tryz.prog 13 = tE 13 := by kernel_rfl
theorem t14 : tiOf Tryz.prog 14 = tE 14 := by kernel_rfl
theorem t15 : tiOf Tryz.prog 15 = tE 15 := by kernel_rfl
theorem t16 : tiOf Tryz.prog 16 = tE 16 := by kernel_rfl
theorem t17 : tiOf Tryz.prog 17 = tE 17 := by kernel_rfl
theorem t18 : tiOf Tryz.prog 18 = tE 18 := by kernel_rfl
theorem t19 : tiOf Tryz.prog 19 = tE 19 := by kernel_rfl
theorem t20 : tiOf Tryz.prog 20 = tE 20 := by kernel_rfl
theorem t21 : tiOf Tryz.prog 21 = tE 21 := by kernel_rfl
theorem t22 : tiOf Tryz.prog 22 = tE 22 := by kernel_rfl
theorem t23 : tiOf Tryz.prog 23 = tE 23 := by kernel_rfl
theorem t24 : tiOf Tryz.prog 24 = tE 24 := by kernel_rfl
theorem t26 : tiOf Tryz.prog 26 = tE 26 := by kernel_rfl
theorem t27 : tiOf Tryz.prog 27 = tE 27 := by kernel_rfl
theorem t28 : tiOf Tryz.prog 28 = tE 28 := by kernel_rfl
theorem t29 : tiOf Tryz.prog 29 = tE 29 := by kernel_rfl
theorem t30 : tiOf Tryz.prog 30 = tE 30 := by kernel_rfl
theorem t31 : tiOf Tryz.prog 31 = tE 31 := by kernel_rfl
theorem t32 : tiOf Tryz.prog 32 = tE 32 := by kernel_rfl
theorem t33 : tiOf Tryz.prog 33 = tE 33 := by kernel_rfl
theorem t35 : tiOf Tryz.prog 35 = tE 35 := by kernel_rfl
theorem t36 : tiOf Tryz.prog 36 = tE 36 := by kernel_rfl
theorem t37 : tiOf Tryz.prog 37 = tE 37 := by kernel_rfl
theorem t38 : tiOf Tryz.prog 38 = tE 38 := by kernel_rfl
theorem t39 : tiOf Tryz.prog 39 = tE 39 := by kernel_rfl
theorem t40 : tiOf Tryz.prog 40 = tE 40 := by kernel_rfl
theorem t41 : tiOf Tryz.prog 41 = tE 41 := by kernel_rfl
theorem t42 : tiOf Tryz.prog 42 = tE 42 := by kernel_rfl
theorem t43 : tiOf Tryz.prog 43 = tE 43 := by kernel_rfl
theorem t44 : tiOf Tryz.prog 44 = tE 44 := by kernel_rfl
theorem t45 : tiOf Tryz.prog 45 = tE 45 := by kernel_rfl
theorem t46 : tiOf Tryz.prog 46 = tE 46 := by kernel_rfl
theorem t47 : tiOf Tryz.prog 47 = tE 47 := by kernel_rfl
theorem t48 : tiOf Tryz.prog 48 = tE 48 := by kernel_rfl
theorem t49 : tiOf Tryz.prog 49 = tE 49 := by kernel_rfl
theorem t50 : tiOf Tryz.prog 50 = tE 50 := by kernel_rfl
theorem t51 : tiOf Tryz.prog 51 = tE 51 := by kernel_rfl
theorem t52 : tiOf Tryz.prog 52 = tE 52 := by kernel_rfl
theorem t54 : tiOf Tryz.prog 54 = tE 54 := by kernel_rfl
theorem t55 : tiOf Tryz.prog 55 = tE 55 := by kernel_rfl
theorem t56 : tiOf Tryz.prog 56 = tE 56 := by kernel_rfl
theorem t57 : tiOf Tryz.prog 57 = tE 57 := by kernel_rfl
theorem t58 : tiOf Tryz.prog 58 = tE 58 := by kernel_rfl
theorem t59 : tiOf Tryz.prog 59 = tE 59 := by kernel_rfl
theorem t60 : tiOf Tryz.prog 60 = tE 60 := by kernel_rfl
theorem t61 : tiOf Tryz.prog 61 = tE 61 := by kernel_rfl
theorem t62 : tiOf Tryz.prog 62 = tE 62 := by kernel_rfl
theorem t64 : tiOf Tryz.prog 64 = tE 64 := by kernel_rfl
theorem t66 : tiOf Tryz.prog 66 = tE 66 := by kernel_rfl
theorem t68 : tiOf Tryz.prog 68 = tE 68 := by kernel_rfl
theorem t70 : tiOf Tryz.prog 70 = tE 70 := by kernel_rfl
theorem t71 : tiOf Tryz.prog 71 = tE 71 := by kernel_rfl
theorem t72 : tiOf Tryz.prog 72 = tE 72 := by kernel_rfl
theorem t74 : tiOf Tryz.prog 74 = tE 74 := by kernel_rfl
theorem t75 : tiOf Tryz.prog 75 = tE 75 := by kernel_rfl
theorem t76 : tiOf Tryz.prog 76 = tE 76 := by kernel_rfl
theorem t77 : tiOf Tryz.prog 77 = tE 77 := by kernel_rfl
theorem t78 : tiOf Tryz.prog 78 = tE 78 := by kernel_rfl
theorem t80 : tiOf Tryz.prog 80 = tE 80 := by kernel_rfl
theorem t81 : tiOf Tryz.prog 81 = tE 81 := by kernel_rfl
theorem t82 : tiOf Tryz.prog 82 = tE 82 := by kernel_rfl
theorem t83 : tiOf Tryz.prog 83 = tE 83 := by kernel_rfl
theorem t84 : tiOf Tryz.prog 84 = tE 84 := by kernel_rfl
theorem t85 : tiOf Tryz.prog 85 = tE 85 := by kernel_rfl
theorem t87 : tiOf Tryz.prog 87 = tE 87 := by kernel_rfl
theorem t88 : tiOf Tryz.prog 88 = tE 88 := by kernel_rfl
theorem t89 : tiOf Tryz.prog 89 = tE 89 := by kernel_rfl
theorem t90 : tiOf Tryz.prog 90 = tE 90 := by kernel_rfl
theorem t92 : tiOf Tryz.prog 92 = tE 92 := by kernel_rfl
theorem t93 : tiOf Tryz.prog 93 = tE 93 := by kernel_rfl
theorem t94 : tiOf Tryz.prog 94 = tE 94 := by kernel_rfl
theorem t95 : tiOf Tryz.prog 95 = tE 95 := by kernel_rfl
theorem t96 : tiOf Tryz.prog 96 = tE 96 := by kernel_rfl
theorem t97 : tiOf Tryz.prog 97 = tE 97 := by kernel_rfl
theorem t98 : tiOf Tryz.prog 98 = tE 98 := by kernel_rfl
theorem t99 : tiOf Tryz.prog 99 = tE 99 := by kernel_rfl
theorem t100 : tiOf Tryz.prog 100 = tE 100 := by kernel_rfl
theorem t101 : tiOf Tryz.prog 101 = tE 101 := by kernel_rfl
theorem t102 : tiOf Tryz.prog 102 = tE 102 := by kernel_rfl
theorem t103 : tiOf Tryz.prog 103 = tE 103 := by kernel_rfl
theorem t104 : tiOf Tryz.prog 104 = tE 104 := by kernel_rfl
theorem t105 : tiOf Tryz.prog 105 = tE 105 := by kernel_rfl
theorem t106 : tiOf Tryz.prog 106 = tE 106 := by kernel_rfl
theorem t108 : tiOf Tryz.prog 108 = tE 108 := by kernel_rfl
theorem t109 : tiOf Tryz.prog 109 = tE 109 := by kernel_rfl
theorem t110 : tiOf Tryz.prog 110 = tE 110 := by kernel_rfl
theorem t111 : tiOf Tryz.prog 111 = tE 111 := by kernel_rfl
theorem t112 : tiOf Tryz.prog 112 = tE 112 := by kernel_rfl
theorem t113 : tiOf Tryz.prog 113 = tE 113 := by kernel_rfl
theorem t114 : tiOf Tryz.prog 114 = tE 114 := by kernel_rfl
theorem t115 : tiOf Tryz.prog 115 = tE 115 := by kernel_rfl
theorem t116 : tiOf Tryz.prog 116 = tE 116 := by kernel_rfl
theorem t117 : tiOf Tryz.prog 117 = tE 117 := by kernel_rfl
theorem t118 : tiOf Tryz.prog 118 = tE 118 := by kernel_rfl
theorem t120 : tiOf Tryz.prog 120 = tE 120 := by kernel_rfl
theorem t121 : tiOf Tryz.prog 121 = tE 121 := by kernel_rfl
theorem t122 : tiOf Tryz.prog 122 = tE 122 := by kernel_rfl
theorem t123 : tiOf Tryz.prog 123 = tE 123 := by kernel_rfl
theorem t125 : tiOf Tryz.prog 125 = tE 125 := by kernel_rfl
theorem t126 : tiOf Tryz.prog 126 = tE 126 := by kernel_rfl
theorem t127 : tiOf Tryz.prog 127 = tE 127 := by kernel_rfl
theorem t128 : tiOf Tryz.prog 128 = tE 128 := by kernel_rfl
theorem t130 : tiOf Tryz.prog 130 = tE 130 := by kernel_rfl
theorem t131 : tiOf Tryz.prog 131 = tE 131 := by kernel_rfl
theorem t132 : tiOf Tryz.prog 132 = tE 132 := by kernel_rfl
theorem t133 : tiOf Tryz.prog 133 = tE 133 := by kernel_rfl
theorem t134 : tiOf Tryz.prog 134 = tE 134 := by kernel_rfl
theorem t135 : tiOf Tryz.prog 135 = tE 135 := by kernel_rfl
theorem t136 : tiOf Tryz.prog 136 = tE 136 := by kernel_rfl
theorem t137 : tiOf Tryz.prog 137 = tE 137 := by kernel_rfl
theorem t138 : tiOf Tryz.prog 138 = tE 138 := by kernel_rfl
theorem t139 : tiOf Tryz.prog 139 = tE 139 := by kernel_rfl
theorem t140 : tiOf Tryz.prog 140 = tE 140 := by kernel_rfl
theorem t141 : tiOf Tryz.prog 141 = tE 141 := by kernel_rfl
theorem t142 : tiOf Tryz.prog 142 = tE 142 := by kernel_rfl
theorem t144 : tiOf Tryz.prog 144 = tE 144 := by kernel_rfl
theorem t145 : tiOf Tryz.prog 145 = tE 145 := by kernel_rfl
theorem t146 : tiOf Tryz.prog 146 = tE 146 := by kernel_rfl
theorem t147 : tiOf Tryz.prog 147 = tE 147 := by kernel_rfl
theorem t148 : tiOf Tryz.prog 148 = tE 148 := by kernel_rfl
theorem t149 : tiOf Tryz.prog 149 = tE 149 := by kernel_rfl
theorem t151 : tiOf Tryz.prog 151 = tE 151 := by kernel_rfl
theorem t152 : tiOf Tryz.prog 152 = tE 152 := by kernel_rfl
theorem t153 : tiOf Tryz.prog 153 = tE 153 := by kernel_rfl
theorem t154 : tiOf Tryz.prog 154 = tE 154 := by kernel_rfl
theorem t155 : tiOf Tryz.prog 155 = tE 155 := by kernel_rfl
theorem t156 : tiOf Tryz.prog 156 = tE 156 := by kernel_rfl
theorem t157 : tiOf Tryz.prog 157 = tE 157 := by kernel_rfl
theorem t158 : tiOf Tryz.prog 158 = tE 158 := by kernel_rfl
theorem t159 : tiOf Tryz.prog 159 = tE 159 := by kernel_rfl
theorem t160 : tiOf Tryz.prog 160 = tE 160 := by kernel_rfl
theorem t161 : tiOf Tryz.prog 161 = tE 161 := by kernel_rfl
theorem t162 : tiOf Tryz.prog 162 = tE 162 := by kernel_rfl
theorem t163 : tiOf Tryz.prog 163 = tE 163 := by kernel_rfl
theorem t164 : tiOf Tryz.prog 164 = tE 164 := by kernel_rfl
theorem t165 : tiOf Tryz.prog 165 = tE 165 := by kernel_rfl
theorem t166 : tiOf Tryz.prog 166 = tE 166 := by kernel_rfl
theorem t167 : tiOf Tryz.prog 167 = tE 167 := by kernel_rfl
theorem t168 : tiOf Tryz.prog 168 = tE 168 := by kernel_rfl
theorem t169 : tiOf Tryz.prog 169 = tE 169 := by kernel_rfl
theorem t170 : tiOf Tryz.prog 170 = tE 170 := by kernel_rfl
theorem t171 : tiOf Tryz.prog 171 = tE 171 := by kernel_rfl
theorem t172 : tiOf Tryz.prog 172 = tE 172 := by kernel_rfl
theorem t174 : tiOf Tryz.prog 174 = tE 174 := by kernel_rfl
theorem t175 : tiOf Tryz.prog 175 = tE 175 := by kernel_rfl
theorem t176 : tiOf Tryz.prog 176 = tE 176 := by kernel_rfl
theorem t177 : tiOf Tryz.prog 177 = tE 177 := by kernel_rfl
theorem t178 : tiOf Tryz.prog 178 = tE 178 := by kernel_rfl
theorem t179 : tiOf Tryz.prog 179 = tE 179 := by kernel_rfl
theorem t180 : tiOf Tryz.prog 180 = tE 180 := by kernel_rfl
theorem t181 : tiOf Tryz.prog 181 = tE 181 := by kernel_rfl
theorem t182 : tiOf Tryz.prog 182 = tE 182 := by kernel_rfl
theorem t183 : tiOf Tryz.prog 183 = tE 183 := by kernel_rfl
theorem t185 : tiOf Tryz.prog 185 = tE 185 := by kernel_rfl
theorem t186 : tiOf Tryz.prog 186 = tE 186 := by kernel_rfl
theorem t187 : tiOf Tryz.prog 187 = tE 187 := by kernel_rfl
theorem t188 : tiOf Tryz.prog 188 = tE 188 := by kernel_rfl
theorem t189 : tiOf Tryz.prog 189 = tE 189 := by kernel_rfl
theorem t191 : tiOf Tryz.prog 191 = tE 191 := by kernel_rfl
theorem t192 : tiOf Tryz.prog 192 = tE 192 := by kernel_rfl
theorem t193 : tiOf Tryz.prog 193 = tE 193 := by kernel_rfl
theorem t195 : tiOf Tryz.prog 195 = tE 195 := by kernel_rfl
theorem t197 : tiOf Tryz.prog 197 = tE 197 := by kernel_rfl
theorem t198 : tiOf Tryz.prog 198 = tE 198 := by kernel_rfl
theorem t199 : tiOf Tryz.prog 199 = tE 199 := by kernel_rfl
theorem t200 : tiOf Tryz.prog 200 = tE 200 := by kernel_rfl
theorem t201 : tiOf Tryz.prog 201 = tE 201 := by kernel_rfl
theorem t202 : tiOf Tryz.prog 202 = tE 202 := by kernel_rfl
theorem t203 : tiOf Tryz.prog 203 = tE 203 := by kernel_rfl
theorem t205 : tiOf Tryz.prog 205 = tE 205 := by kernel_rfl
theorem t206 : tiOf Tryz.prog 206 = tE 206 := by kernel_rfl
theorem t207 : tiOf Tryz.prog 207 = tE 207 := by kernel_rfl
theorem t209 : tiOf Tryz.prog 209 = tE 209 := by kernel_rfl
theorem t210 : tiOf Tryz.prog 210 = tE 210 := by kernel_rfl
theorem t212 : tiOf Tryz.prog 212 = tE 212 := by kernel_rfl
theorem t213 : tiOf Tryz.prog 213 = tE 213 := by kernel_rfl
theorem t214 : tiOf Tryz.prog 214 = tE 214 := by kernel_rfl
theorem t215 : tiOf Tryz.prog 215 = tE 215 := by kernel_rfl
theorem t216 : tiOf Tryz.prog 216 = tE 216 := by kernel_rfl
theorem t217 : tiOf Tryz.prog 217 = tE 217 := by kernel_rfl
theorem t218 : tiOf Tryz.prog 218 = tE 218 := by kernel_rfl
theorem t219 : tiOf Tryz.prog 219 = tE 219 := by kernel_rfl
theorem t221 : tiOf Tryz.prog 221 = tE 221 := by kernel_rfl
theorem t222 : tiOf Tryz.prog 222 = tE 222 := by kernel_rfl
theorem t223 : tiOf Tryz.prog 223 = tE 223 := by kernel_rfl
theorem t224 : tiOf Tryz.prog 224 = tE 224 := by kernel_rfl
theorem t225 : tiOf Tryz.prog 225 = tE 225 := by kernel_rfl
theorem t226 : tiOf Tryz.prog 226 = tE 226 := by kernel_rfl
theorem t227 : tiOf Tryz.prog 227 = tE 227 := by kernel_rfl
theorem t228 : tiOf Tryz.prog 228 = tE 228 := by kernel_rfl
theorem t229 : tiOf Tryz.prog 229 = tE 229 := by kernel_rfl
theorem t230 : tiOf Tryz.prog 230 = tE 230 := by kernel_rfl
theorem t231 : tiOf Tryz.prog 231 = tE 231 := by kernel_rfl
theorem t232 : tiOf Tryz.prog 232 = tE 232 := by kernel_rfl
theorem t233 : tiOf Tryz.prog 233 = tE 233 := by kernel_rfl
theorem t234 : tiOf Tryz.prog 234 = tE 234 := by kernel_rfl
theorem t235 : tiOf Tryz.prog 235 = tE 235 := by kernel_rfl
theorem t236 : tiOf Tryz.prog 236 = tE 236 := by kernel_rfl
theorem t237 : tiOf Tryz.prog 237 = tE 237 := by kernel_rfl
theorem t238 : tiOf Tryz.prog 238 = tE 238 := by kernel_rfl
theorem t239 : tiOf Tryz.prog 239 = tE 239 := by kernel_rfl
theorem t240 : tiOf Tryz.prog 240 = tE 240 := by kernel_rfl
theorem t241 : tiOf Tryz.prog 241 = tE 241 := by kernel_rfl
theorem t242 : tiOf Tryz.prog 242 = tE 242 := by kernel_rfl
theorem t243 : tiOf Tryz.prog 243 = tE 243 := by kernel_rfl
theorem t244 : tiOf Tryz.prog 244 = tE 244 := by kernel_rfl
theorem t245 : tiOf Tryz.prog 245 = tE 245 := by kernel_rfl
theorem t246 : tiOf Tryz.prog 246 = tE 246 := by kernel_rfl
theorem t247 : tiOf Tryz.prog 247 = tE 247 := by kernel_rfl
theorem t248 : tiOf Tryz.prog 248 = tE 248 := by kernel_rfl
theorem t249 : tiOf Tryz.prog 249 = tE 249 := by kernel_rfl
theorem t250 : tiOf Tryz.prog 250 = tE 250 := by kernel_rfl
theorem t251 : tiOf Tryz.prog 251 = tE 251 := by kernel_rfl
theorem t252 : tiOf Tryz.prog 252 = tE 252 := by kernel_rfl
theorem t253 : tiOf Tryz.prog 253 = tE 253 := by kernel_rfl
theorem t254 : tiOf Tryz.prog 254 = tE 254 := by kernel_rfl
theorem t255 : tiOf Tryz.prog 255 = tE 255 := by kernel_rfl
theorem t257 : tiOf Tryz.prog 257 = tE 257 := by kernel_rfl
theorem t258 : tiOf Tryz.prog 258 = tE 258 := by kernel_rfl
theorem t259 : tiOf Tryz.prog 259 = tE 259 := by kernel_rfl
theorem t260 : tiOf Tryz.prog 260 = tE 260 := by kernel_rfl
theorem t261 : tiOf Tryz.prog 261 = tE 261 := by kernel_rfl
theorem t263 : tiOf Tryz.prog 263 = tE 263 := by kernel_rfl
theorem t264 : tiOf Tryz.prog 264 = tE 264 := by kernel_rfl
theorem t265 : tiOf Tryz.prog 265 = tE 265 := by kernel_rfl
theorem t267 : tiOf Tryz.prog 267 = tE 267 := by kernel_rfl
theorem t268 : tiOf Tryz.prog 268 = tE 268 := by kernel_rfl
theorem t269 : tiOf Tryz.prog 269 = tE 269 := by kernel_rfl
theorem t271 : tiOf Tryz.prog 271 = tE 271 := by kernel_rfl
theorem t272 : tiOf Tryz.prog 272 = tE 272 := by kernel_rfl
theorem t273 : tiOf Tryz.prog 273 = tE 273 := by kernel_rfl
theorem t275 : tiOf Tryz.prog 275 = tE 275 := by kernel_rfl
theorem t277 : tiOf Tryz.prog 277 = tE 277 := by kernel_rfl
theorem t279 : tiOf Tryz.prog 279 = tE 279 := by kernel_rfl
theorem t280 : tiOf Tryz.prog 280 = tE 280 := by kernel_rfl
theorem t281 : tiOf Tryz.prog 281 = tE 281 := by kernel_rfl
theorem t282 : tiOf Tryz.prog 282 = tE 282 := by kernel_rfl
theorem t283 : tiOf Tryz.prog 283 = tE 283 := by kernel_rfl
theorem t284 : tiOf Tryz.prog 284 = tE 284 := by kernel_rfl
theorem t285 : tiOf Tryz.prog 285 = tE 285 := by kernel_rfl
theorem t286 : tiOf Tryz.prog 286 = tE 286 := by kernel_rfl
theorem t287 : tiOf Tryz.prog 287 = tE 287 := by kernel_rfl
theorem t289 : tiOf Tryz.prog 289 = tE 289 := by kernel_rfl
theorem t290 : tiOf Tryz.prog 290 = tE 290 := by kernel_rfl
theorem t291 : tiOf Tryz.prog 291 = tE 291 := by kernel_rfl
theorem t292 : tiOf Tryz.prog 292 = tE 292 := by kernel_rfl
theorem t293 : tiOf Tryz.prog 293 = tE 293 := by kernel_rfl
theorem t294 : tiOf Tryz.prog 294 = tE 294 := by kernel_rfl
theorem t295 : tiOf Tryz.prog 295 = tE 295 := by kernel_rfl
theorem t296 : tiOf Tryz.prog 296 = tE 296 := by kernel_rfl
theorem t297 : tiOf Tryz.prog 297 = tE 297 := by kernel_rfl
theorem t298 : tiOf Tryz.prog 298 = tE 298 := by kernel_rfl
theorem t299 : tiOf Tryz.prog 299 = tE 299 := by kernel_rfl
theorem t300 : tiOf Tryz.prog 300 = tE 300 := by kernel_rfl
theorem t301 : tiOf Tryz.prog 301 = tE 301 := by kernel_rfl
theorem t302 : tiOf Tryz.prog 302 = tE 302 := by kernel_rfl
theorem t303 : tiOf Tryz.prog 303 = tE 303 := by kernel_rfl
theorem t304 : tiOf Tryz.prog 304 = tE 304 := by kernel_rfl
theorem t306 : tiOf Tryz.prog 306 = tE 306 := by kernel_rfl
theorem t307 : tiOf Tryz.prog 307 = tE 307 := by kernel_rfl
theorem t308 : tiOf Tryz.prog 308 = tE 308 := by kernel_rfl
theorem t309 : tiOf Tryz.prog 309 = tE 309 := by kernel_rfl
theorem t310 : tiOf Tryz.prog 310 = tE 310 := by kernel_rfl
theorem t311 : tiOf Tryz.prog 311 = tE 311 := by kernel_rfl
theorem t312 : tiOf Tryz.prog 312 = tE 312 := by kernel_rfl
theorem t313 : tiOf Tryz.prog 313 = tE 313 := by kernel_rfl
theorem t314 : tiOf Tryz.prog 314 = tE 314 := by kernel_rfl
theorem t315 : tiOf Tryz.prog 315 = tE 315 := by kernel_rfl
theorem t316 : tiOf Tryz.prog 316 = tE 316 := by kernel_rfl
theorem t317 : tiOf Tryz.prog 317 = tE 317 := by kernel_rfl
theorem t318 : tiOf Tryz.prog 318 = tE 318 := by kernel_rfl
theorem t319 : tiOf Tryz.prog 319 = tE 319 := by kernel_rfl
theorem t321 : tiOf Tryz.prog 321 = tE 321 := by kernel_rfl
theorem t322 : tiOf Tryz.prog 322 = tE 322 := by kernel_rfl
theorem t323 : tiOf Tryz.prog 323 = tE 323 := by kernel_rfl
theorem t324 : tiOf Tryz.prog 324 = tE 324 := by kernel_rfl
theorem t325 : tiOf Tryz.prog 325 = tE 325 := by kernel_rfl
theorem t326 : tiOf Tryz.prog 326 = tE 326 := by kernel_rfl
theorem t327 : tiOf Tryz.prog 327 = tE 327 := by kernel_rfl
theorem t328 : tiOf Tryz.prog 328 = tE 328 := by kernel_rfl
theorem t329 : tiOf Tryz.prog 329 = tE 329 := by kernel_rfl
theorem t330 : tiOf Tryz.prog 330 = tE 330 := by kernel_rfl
theorem t331 : tiOf Tryz.prog 331 = tE 331 := by kernel_rfl
theorem t333 : tiOf Tryz.prog 333 = tE 333 := by kernel_rfl
theorem t335 : tiOf Tryz.prog 335 = tE 335 := by kernel_rfl
theorem t336 : tiOf Tryz.prog 336 = tE 336 := by kernel_rfl
theorem t337 : tiOf Tryz.prog 337 = tE 337 := by kernel_rfl
theorem t338 : tiOf Tryz.prog 338 = tE 338 := by kernel_rfl
theorem t339 : tiOf Tryz.prog 339 = tE 339 := by kernel_rfl
theorem t340 : tiOf Tryz.prog 340 = tE 340 := by kernel_rfl
theorem t341 : tiOf Tryz.prog 341 = tE 341 := by kernel_rfl
theorem t342 : tiOf Tryz.prog 342 = tE 342 := by kernel_rfl
theorem t343 : tiOf Tryz.prog 343 = tE 343 := by kernel_rfl
theorem t344 : tiOf Tryz.prog 344 = tE 344 := by kernel_rfl
theorem t345 : tiOf Tryz.prog 345 = tE 345 := by kernel_rfl
theorem t346 : tiOf Tryz.prog 346 = tE 346 := by kernel_rfl
theorem t347 : tiOf Tryz.prog 347 = tE 347 := by kernel_rfl
theorem t348 : tiOf Tryz.prog 348 = tE 348 := by kernel_rfl
theorem t349 : tiOf Tryz.prog 349 = tE 349 := by kernel_rfl
theorem t350 : tiOf Tryz.prog 350 = tE 350 := by kernel_rfl
theorem t351 : tiOf Tryz.prog 351 = tE 351 := by kernel_rfl
theorem t352 : tiOf Tryz.prog 352 = tE 352 := by kernel_rfl
theorem t353 : tiOf Tryz.prog 353 = tE 353 := by kernel_rfl
theorem t355 : tiOf Tryz.prog 355 = tE 355 := by kernel_rfl
theorem t356 : tiOf Tryz.prog 356 = tE 356 := by kernel_rfl
theorem t357 : tiOf Tryz.prog 357 = tE 357 := by kernel_rfl
theorem t358 : tiOf Tryz.prog 358 = tE 358 := by kernel_rfl
theorem t359 : tiOf Tryz.prog 359 = tE 359 := by kernel_rfl
theorem t360 : tiOf Tryz.prog 360 = tE 360 := by kernel_rfl
theorem t361 : tiOf Tryz.prog 361 = tE 361 := by kernel_rfl
theorem t362 : tiOf Tryz.prog 362 = tE 362 := by kernel_rfl
theorem t363 : tiOf Tryz.prog 363 = tE 363 := by kernel_rfl
theorem t364 : tiOf Tryz.prog 364 = tE 364 := by kernel_rfl
theorem t365 : tiOf Tryz.prog 365 = tE 365 := by kernel_rfl
theorem t366 : tiOf Tryz.prog 366 = tE 366 := by kernel_rfl
theorem t367 : tiOf Tryz.prog 367 = tE 367 := by kernel_rfl
theorem t368 : tiOf Tryz.prog 368 = tE 368 := by kernel_rfl
theorem t369 : tiOf Tryz.prog 369 = tE 369 := by kernel_rfl
theorem t370 : tiOf Tryz.prog 370 = tE 370 := by kernel_rfl
theorem t371 : tiOf Tryz.prog 371 = tE 371 := by kernel_rfl
theorem t373 : tiOf Tryz.prog 373 = tE 373 := by kernel_rfl
theorem t374 : tiOf Tryz.prog 374 = tE 374 := by kernel_rfl
theorem t375 : tiOf Tryz.prog 375 = tE 375 := by kernel_rfl
theorem t376 : tiOf Tryz.prog 376 = tE 376 := by kernel_rfl
theorem t377 : tiOf Tryz.prog 377 = tE 377 := by kernel_rfl
theorem t378 : tiOf Tryz.prog 378 = tE 378 := by kernel_rfl
theorem t379 : tiOf Tryz.prog 379 = tE 379 := by kernel_rfl
theorem t380 : tiOf Tryz.prog 380 = tE 380 := by kernel_rfl
theorem t381 : tiOf Tryz.prog 381 = tE 381 := by kernel_rfl
theorem t382 : tiOf Tryz.prog 382 = tE 382 := by kernel_rfl
theorem t383 : tiOf Tryz.prog 383 = tE 383 := by kernel_rfl
theorem t384 : tiOf Tryz.prog 384 = tE 384 := by kernel_rfl
theorem t386 : tiOf Tryz.prog 386 = tE 386 := by kernel_rfl
theorem t387 : tiOf Tryz.prog 387 = tE 387 := by kernel_rfl
theorem t388 : tiOf Tryz.prog 388 = tE 388 := by kernel_rfl
theorem t389 : tiOf Tryz.prog 389 = tE 389 := by kernel_rfl
theorem t390 : tiOf Tryz.prog 390 = tE 390 := by kernel_rfl
theorem t391 : tiOf Tryz.prog 391 = tE 391 := by kernel_rfl
theorem t392 : tiOf Tryz.prog 392 = tE 392 := by kernel_rfl
theorem t393 : tiOf Tryz.prog 393 = tE 393 := by kernel_rfl
theorem t394 : tiOf Tryz.prog 394 = tE 394 := by kernel_rfl
theorem t395 : tiOf Tryz.prog 395 = tE 395 := by kernel_rfl
theorem t396 : tiOf Tryz.prog 396 = tE 396 := by kernel_rfl
theorem t397 : tiOf Tryz.prog 397 = tE 397 := by kernel_rfl
theorem t398 : tiOf Tryz.prog 398 = tE 398 := by kernel_rfl
theorem t399 : tiOf Tryz.prog 399 = tE 399 := by kernel_rfl
theorem t400 : tiOf Tryz.prog 400 = tE 400 := by kernel_rfl
theorem t401 : tiOf Tryz.prog 401 = tE 401 := by kernel_rfl
theorem t402 : tiOf Tryz.prog 402 = tE 402 := by kernel_rfl
theorem t403 : tiOf Tryz.prog 403 = tE 403 := by kernel_rfl
theorem t405 : tiOf Tryz.prog 405 = tE 405 := by kernel_rfl
theorem t407 : tiOf Tryz.prog 407 = tE 407 := by kernel_rfl
theorem t408 : tiOf Tryz.prog 408 = tE 408 := by kernel_rfl
theorem t409 : tiOf Tryz.prog 409 = tE 409 := by kernel_rfl
theorem t410 : tiOf Tryz.prog 410 = tE 410 := by kernel_rfl
theorem t411 : tiOf Tryz.prog 411 = tE 411 := by kernel_rfl
theorem t412 : tiOf Tryz.prog 412 = tE 412 := by kernel_rfl
theorem t413 : tiOf Tryz.prog 413 = tE 413 := by kernel_rfl
theorem t414 : tiOf Tryz.prog 414 = tE 414 := by kernel_rfl
theorem t415 : tiOf Tryz.prog 415 = tE 415 := by kernel_rfl
theorem t416 : tiOf Tryz.prog 416 = tE 416 := by kernel_rfl
theorem t417 : tiOf Tryz.prog 417 = tE 417 := by kernel_rfl
theorem t418 : tiOf Tryz.prog 418 = tE 418 := by kernel_rfl
theorem t419 : tiOf Tryz.prog 419 = tE 419 := by kernel_rfl
theorem t420 : tiOf Tryz.prog 420 = tE 420 := by kernel_rfl
theorem t422 : tiOf Tryz.prog 422 = tE 422 := by kernel_rfl
theorem t423 : tiOf Tryz.prog 423 = tE 423 := by kernel_rfl
theorem t424 : tiOf Tryz.prog 424 = tE 424 := by kernel_rfl
theorem t425 : tiOf Tryz.prog 425 = tE 425 := by kernel_rfl
theorem t426 : tiOf Tryz.prog 426 = tE 426 := by kernel_rfl
theorem t427 : tiOf Tryz.prog 427 = tE 427 := by kernel_rfl
theorem t428 : tiOf Tryz.prog 428 = tE 428 := by kernel_rfl
theorem t429 : tiOf Tryz.prog 429 = tE 429 := by kernel_rfl
theorem t430 : tiOf Tryz.prog 430 = tE 430 := by kernel_rfl
theorem t431 : tiOf Tryz.prog 431 = tE 431 := by kernel_rfl
theorem t432 : tiOf Tryz.prog 432 = tE 432 := by kernel_rfl
theorem t433 : tiOf Tryz.prog 433 = tE 433 := by kernel_rfl
theorem t434 : tiOf Tryz.prog 434 = tE 434 := by kernel_rfl
theorem t435 : tiOf Tryz.prog 435 = tE 435 := by kernel_rfl
theorem t436 : tiOf Tryz.prog 436 = tE 436 := by kernel_rfl
theorem t437 : tiOf Tryz.prog 437 = tE 437 := by kernel_rfl
theorem t438 : tiOf Tryz.prog 438 = tE 438 := by kernel_rfl
theorem t439 : tiOf Tryz.prog 439 = tE 439 := by kernel_rfl
theorem t440 : tiOf Tryz.prog 440 = tE 440 := by kernel_rfl
theorem t441 : tiOf Tryz.prog 441 = tE 441 := by kernel_rfl
theorem t442 : tiOf Tryz.prog 442 = tE 442 := by kernel_rfl
theorem t443 : tiOf Tryz.prog 443 = tE 443 := by kernel_rfl
theorem t444 : tiOf Tryz.prog 444 = tE 444 := by kernel_rfl
theorem t445 : tiOf Tryz.prog 445 = tE 445 := by kernel_rfl
theorem t446 : tiOf Tryz.prog 446 = tE 446 := by kernel_rfl
theorem t447 : tiOf Tryz.prog 447 = tE 447 := by kernel_rfl
theorem t449 : tiOf Tryz.prog 449 = tE 449 := by kernel_rfl
theorem t450 : tiOf Tryz.prog 450 = tE 450 := by kernel_rfl
theorem t451 : tiOf Tryz.prog 451 = tE 451 := by kernel_rfl
theorem t452 : tiOf Tryz.prog 452 = tE 452 := by kernel_rfl
theorem t453 : tiOf Tryz.prog 453 = tE 453 := by kernel_rfl
theorem t454 : tiOf Tryz.prog 454 = tE 454 := by kernel_rfl
theorem t455 : tiOf Tryz.prog 455 = tE 455 := by kernel_rfl
theorem t456 : tiOf Tryz.prog 456 = tE 456 := by kernel_rfl
theorem t457 : tiOf Tryz.prog 457 = tE 457 := by kernel_rfl
theorem t459 : tiOf Tryz.prog 459 = tE 459 := by kernel_rfl
theorem t460 : tiOf Tryz.prog 460 = tE 460 := by kernel_rfl
theorem t461 : tiOf Tryz.prog 461 = tE 461 := by kernel_rfl
theorem t462 : tiOf Tryz.prog 462 = tE 462 := by kernel_rfl
theorem t463 : tiOf Tryz.prog 463 = tE 463 := by kernel_rfl
theorem t464 : tiOf Tryz.prog 464 = tE 464 := by kernel_rfl
theorem t465 : tiOf Tryz.prog 465 = tE 465 := by kernel_rfl
theorem t466 : tiOf Tryz.prog 466 = tE 466 := by kernel_rfl
theorem t467 : tiOf Tryz.prog 467 = tE 467 := by kernel_rfl
theorem t468 : tiOf Tryz.prog 468 = tE 468 := by kernel_rfl
theorem t469 : tiOf Tryz.prog 469 = tE 469 := by kernel_rfl
theorem t470 : tiOf Tryz.prog 470 = tE 470 := by kernel_rfl
theorem t472 : tiOf Tryz.prog 472 = tE 472 := by kernel_rfl
theorem t473 : tiOf Tryz.prog 473 = tE 473 := by kernel_rfl
theorem t474 : tiOf Tryz.prog 474 = tE 474 := by kernel_rfl
theorem t475 : tiOf Tryz.prog 475 = tE 475 := by kernel_rfl
theorem t476 : tiOf Tryz.prog 476 = tE 476 := by kernel_rfl
theorem t477 : tiOf Tryz.prog 477 = tE 477 := by kernel_rfl
theorem t478 : tiOf Tryz.prog 478 = tE 478 := by kernel_rfl
theorem t479 : tiOf Tryz.prog 479 = tE 479 := by kernel_rfl
theorem t480 : tiOf Tryz.prog 480 = tE 480 := by kernel_rfl
theorem t481 : tiOf Tryz.prog 481 = tE 481 := by kernel_rfl
theorem t482 : tiOf Tryz.prog 482 = tE 482 := by kernel_rfl
theorem t483 : tiOf Tryz.prog 483 = tE 483 := by kernel_rfl
theorem t484 : tiOf Tryz.prog 484 = tE 484 := by kernel_rfl
theorem t485 : tiOf Tryz.prog 485 = tE 485 := by kernel_rfl
theorem t486 : tiOf Tryz.prog 486 = tE 486 := by kernel_rfl
theorem t487 : tiOf Tryz.prog 487 = tE 487 := by kernel_rfl
theorem t488 : tiOf Tryz.prog 488 = tE 488 := by kernel_rfl
theorem t489 : tiOf Tryz.prog 489 = tE 489 := by kernel_rfl
theorem t490 : tiOf Tryz.prog 490 = tE 490 := by kernel_rfl
theorem t491 : tiOf Tryz.prog 491 = tE 491 := by kernel_rfl
theorem t492 : tiOf Tryz.prog 492 = tE 492 := by kernel_rfl
theorem t493 : tiOf Tryz.prog 493 = tE 493 := by kernel_rfl
theorem t494 : tiOf Tryz.prog 494 = tE 494 := by kernel_rfl
theorem t496 : tiOf Tryz.prog 496 = tE 496 := by kernel_rfl
theorem t497 : tiOf Tryz.prog 497 = tE 497 := by kernel_rfl
theorem t498 : tiOf Tryz.prog 498 = tE 498 := by kernel_rfl
theorem t499 : tiOf Tryz.prog 499 = tE 499 := by kernel_rfl
theorem t501 : tiOf Tryz.prog 501 = tE 501 := by kernel_rfl
theorem t502 : tiOf Tryz.prog 502 = tE 502 := by kernel_rfl
theorem t503 : tiOf Tryz.prog 503 = tE 503 := by kernel_rfl
theorem t504 : tiOf Tryz.prog 504 = tE 504 := by kernel_rfl
theorem t505 : tiOf Tryz.prog 505 = tE 505 := by kernel_rfl
theorem t507 : tiOf Tryz.prog 507 = tE 507 := by kernel_rfl
theorem t508 : tiOf Tryz.prog 508 = tE 508 := by kernel_rfl
theorem t509 : tiOf Tryz.prog 509 = tE 509 := by kernel_rfl
theorem t510 : tiOf Tryz.prog 510 = tE 510 := by kernel_rfl
theorem t511 : tiOf Tryz.prog 511 = tE 511 := by kernel_rfl
theorem t512 : tiOf Tryz.prog 512 = tE 512 := by kernel_rfl
theorem t513 : tiOf Tryz.prog 513 = tE 513 := by kernel_rfl
theorem t514 : tiOf Tryz.prog 514 = tE 514 := by kernel_rfl
theorem t515 : tiOf Tryz.prog 515 = tE 515 := by kernel_rfl
theorem t516 : tiOf Tryz.prog 516 = tE 516 := by kernel_rfl
theorem t517 : tiOf Tryz.prog 517 = tE 517 := by kernel_rfl
theorem t518 : tiOf Tryz.prog 518 = tE 518 := by kernel_rfl
theorem t519 : tiOf Tryz.prog 519 = tE 519 := by kernel_rfl
theorem t520 : tiOf Tryz.prog 520 = tE 520 := by kernel_rfl
theorem t521 : tiOf Tryz.prog 521 = tE 521 := by kernel_rfl
theorem t522 : tiOf Tryz.prog 522 = tE 522 := by kernel_rfl
theorem t523 : tiOf Tryz.prog 523 = tE 523 := by kernel_rfl
theorem t524 : tiOf Tryz.prog 524 = tE 524 := by kernel_rfl
theorem t525 : tiOf Tryz.prog 525 = tE 525 := by kernel_rfl
theorem t526 : tiOf Tryz.prog 526 = tE 526 := by kernel_rfl
theorem t527 : tiOf Tryz.prog 527 = tE 527 := by kernel_rfl
set_option maxRecDepth 100000 in
theorem tab_all : tabAll Tryz.prog 0 tabT := by
  refine And.intro t1 ?_
  refine And.intro t2 ?_
  refine And.intro t3 ?_
  refine And.intro t4 ?_
  refine And.intro t5 ?_
  refine And.intro t6 ?_
  refine And.intro t7 ?_
  refine And.intro t8 ?_
  refine And.intro t9 ?_
  refine And.intro t10 ?_
  refine And.intro t11 ?_
  refine And.intro t12 ?_
  refine And.intro t13 ?_
  refine And.intro t14 ?_
  refine And.intro t15 ?_
  refine And.intro t16 ?_
  refine And.intro t17 ?_
  refine And.intro t18 ?_
  refine And.intro t19 ?_
  refine And.intro t20 ?_
  refine And.intro t21 ?_
  refine And.intro t22 ?_
  refine And.intro t23 ?_
  refine And.intro t24 ?_
  refine And.intro t26 ?_
  refine And.intro t27 ?_
  refine And.intro t28 ?_
  refine And.intro t29 ?_
  refine And.intro t30 ?_
  refine And.intro t31 ?_
  refine And.intro t32 ?_
  refine And.intro t33 ?_
  refine And.intro t35 ?_
  refine And.intro t36 ?_
  refine And.intro t37 ?_
  refine And.intro t38 ?_
  refine And.intro t39 ?_
  refine And.intro t40 ?_
  refine And.intro t41 ?_
  refine And.intro t42 ?_
  refine And.intro t43 ?_
  refine And.intro t44 ?_
  refine And.intro t45 ?_
  refine And.intro t46 ?_
  refine And.intro t47 ?_
  refine And.intro t48 ?_
  refine And.intro t49 ?_
  refine And.intro t50 ?_
  refine And.intro t51 ?_
  refine And.intro t52 ?_
  refine And.intro t54 ?_
  refine And.intro t55 ?_
  refine And.intro t56 ?_
  refine And.intro t57 ?_
  refine And.intro t58 ?_
  refine And.intro t59 ?_
  refine And.intro t60 ?_
  refine And.intro t61 ?_
  refine And.intro t62 ?_
  refine And.intro t64 ?_
  refine And.intro t66 ?_
  refine And.intro t68 ?_
  refine And.intro t70 ?_
  refine And.intro t71 ?_
  refine And.intro t72 ?_
  refine And.intro t74 ?_
  refine And.intro t75 ?_
  refine And.intro t76 ?_
  refine And.intro t77 ?_
  refine And.intro t78 ?_
  refine And.intro t80 ?_
  refine And.intro t81 ?_
  refine And.intro t82 ?_
  refine And.intro t83 ?_
  refine And.intro t84 ?_
  refine And.intro t85 ?_
  refine And.intro t87 ?_
  refine And.intro t88 ?_
  refine And.intro t89 ?_
  refine And.intro t90 ?_
  refine And.intro t92 ?_
  refine And.intro t93 ?_
  refine And.intro t94 ?_
  refine And.intro t95 ?_
  refine And.intro t96 ?_
  refine And.intro t97 ?_
  refine And.intro t98 ?_
  refine And.intro t99 ?_
  refine And.intro t100 ?_
  refine And.intro t101 ?_
  refine And.intro t102 ?_
  refine And.intro t103 ?_
  refine And.intro t104 ?_
  refine And.intro t105 ?_
  refine And.intro t106 ?_
  refine And.intro t108 ?_
  refine And.intro t109 ?_
  refine And.intro t110 ?_
  refine And.intro t111 ?_
  refine And.intro t112 ?_
  refine And.intro t113 ?_
  refine And.intro t114 ?_
  refine And.intro t115 ?_
  refine And.intro t116 ?_
  refine And.intro t117 ?_
  refine And.intro t118 ?_
  refine And.intro t120 ?_
  refine And.intro t121 ?_
  refine And.intro t122 ?_
  refine And.intro t123 ?_
  refine And.intro t125 ?_
  refine And.intro t126 ?_
  refine And.intro t127 ?_
  refine And.intro t128 ?_
  refine And.intro t130 ?_
  refine And.intro t131 ?_
  refine And.intro t132 ?_
  refine And.intro t133 ?_
  refine And.intro t134 ?_
  refine And.intro t135 ?_
  refine And.intro t136 ?_
  refine And.intro t137 ?_
  refine And.intro t138 ?_
  refine And.intro t139 ?_
  refine And.intro t140 ?_
  refine And.intro t141 ?_
  refine And.intro t142 ?_
  refine And.intro t144 ?_
  refine And.intro t145 ?_
  refine And.intro t146 ?_
  refine And.intro t147 ?_
  refine And.intro t148 ?_
  refine And.intro t149 ?_
  refine And.intro t151 ?_
  refine And.intro t152 ?_
  refine And.intro t153 ?_
  refine And.intro t154 ?_
  refine And.intro t155 ?_
  refine And.intro t156 ?_
  refine And.intro t157 ?_
  refine And.intro t158 ?_
  refine And.intro t159 ?_
  refine And.intro t160 ?_
  refine And.intro t161 ?_
  refine And.intro t162 ?_
  refine And.intro t163 ?_
  refine And.intro t164 ?_
  refine And.intro t165 ?_
  refine And.intro t166 ?_
  refine And.intro t167 ?_
  refine And.intro t168 ?_
  refine And.intro t169 ?_
  refine And.intro t170 ?_
  refine And.intro t171 ?_
  refine And.intro t172 ?_
  refine And.intro t174 ?_
  refine And.intro t175 ?_
  refine And.intro t176 ?_
  refine And.intro t177 ?_
  refine And.intro t178 ?_
  refine And.intro t179 ?_
  refine And.intro t180 ?_
  refine And.intro t181 ?_
  refine And.intro t182 ?_
  refine And.intro t183 ?_
  refine And.intro t185 ?_
  refine And.intro t186 ?_
  refine And.intro t187 ?_
  refine And.intro t188 ?_
  refine And.intro t189 ?_
  refine And.intro t191 ?_
  refine And.intro t192 ?_
  refine And.intro t193 ?_
  refine And.intro t195 ?_
  refine And.intro t197 ?_
  refine And.intro t198 ?_
  refine And.intro t199 ?_
  refine And.intro t200 ?_
  refine And.intro t201 ?_
  refine And.intro t202 ?_
  refine And.intro t203 ?_
  refine And.intro t205 ?_
  refine And.intro t206 ?_
  refine And.intro t207 ?_
  refine And.intro t209 ?_
  refine And.intro t210 ?_
  refine And.intro t212 ?_
  refine And.intro t213 ?_
  refine And.intro t214 ?_
  refine And.intro t215 ?_
  refine And.intro t216 ?_
  refine And.intro t217 ?_
  refine And.intro t218 ?_
  refine And.intro t219 ?_
  refine And.intro t221 ?_
  refine And.intro t222 ?_
  refine And.intro t223 ?_
  refine And.intro t224 ?_
  refine And.intro t225 ?_
  refine And.intro t226 ?_
  refine And.intro t227 ?_
  refine And.intro t228 ?_
  refine And.intro t229 ?_
  refine And.intro t230 ?_
  refine And.intro t231 ?_
  refine And.intro t232 ?_
  refine And.intro t233 ?_
  refine And.intro t234 ?_
  refine And.intro t235 ?_
  refine And.intro t236 ?_
  refine And.intro t237 ?_
  refine And.intro t238 ?_
  refine And.intro t239 ?_
  refine And.intro t240 ?_
  refine And.intro t241 ?_
  refine And.intro t242 ?_
  refine And.intro t243 ?_
  refine And.intro t244 ?_
  refine And.intro t245 ?_
  refine And.intro t246 ?_
  refine And.intro t247 ?_
  refine And.intro t248 ?_
  refine And.intro t249 ?_
  refine And.intro t250 ?_
  refine And.intro t251 ?_
  refine And.intro t252 ?_
  refine And.intro t253 ?_
  refine And.intro t254 ?_
  refine And.intro t255 ?_
  refine And.intro t257 ?_
  refine And.intro t258 ?_
  refine And.intro t259 ?_
  refine And.intro t260 ?_
  refine And.intro t261 ?_
  refine And.intro t263 ?_
  refine And.intro t264 ?_
  refine And.intro t265 ?_
  refine And.intro t267 ?_
  refine And.intro t268 ?_
  refine And.intro t269 ?_
  refine And.intro t271 ?_
  refine And.intro t272 ?_
  refine And.intro t273 ?_
  refine And.intro t275 ?_
  refine And.intro t277 ?_
  refine And.intro t279 ?_
  refine And.intro t280 ?_
  refine And.intro t281 ?_
  refine And.intro t282 ?_
  refine And.intro t283 ?_
  refine And.intro t284 ?_
  refine And.intro t285 ?_
  refine And.intro t286 ?_
  refine And.intro t287 ?_
  refine And.intro t289 ?_
  refine And.intro t290 ?_
  refine And.intro t291 ?_
  refine And.intro t292 ?_
  refine And.intro t293 ?_
  refine And.intro t294 ?_
  refine And.intro t295 ?_
  refine And.intro t296 ?_
  refine And.intro t297 ?_
  refine And.intro t298 ?_
  refine And.intro t299 ?_
  refine And.intro t300 ?_
  refine And.intro t301 ?_
  refine And.intro t302 ?_
  refine And.intro t303 ?_
  refine And.intro t304 ?_
  refine And.intro t306 ?_
  refine And.intro t307 ?_
  refine And.intro t308 ?_
  refine And.intro t309 ?_
  refine And.intro t310 ?_
  refine And.intro t311 ?_
  refine And.intro t312 ?_
  refine And.intro t313 ?_
  refine And.intro t314 ?_
  refine And.intro t315 ?_
  refine And.intro t316 ?_
  refine And.intro t317 ?_
  refine And.intro t318 ?_
  refine And.intro t319 ?_
  refine And.intro t321 ?_
  refine And.intro t322 ?_
  refine And.intro t323 ?_
  refine And.intro t324 ?_
  refine And.intro t325 ?_
  refine And.intro t326 ?_
  refine And.intro t327 ?_
  refine And.intro t328 ?_
  refine And.intro t329 ?_
  refine And.intro t330 ?_
  refine And.intro t331 ?_
  refine And.intro t333 ?_
  refine And.intro t335 ?_
  refine And.intro t336 ?_
  refine And.intro t337 ?_
  refine And.intro t338 ?_
  refine And.intro t339 ?_
  refine And.intro t340 ?_
  refine And.intro t341 ?_
  refine And.intro t342 ?_
  refine And.intro t343 ?_
  refine And.intro t344 ?_
  refine And.intro t345 ?_
  refine And.intro t346 ?_
  refine And.intro t347 ?_
  refine And.intro t348 ?_
  refine And.intro t349 ?_
  refine And.intro t350 ?_
  refine And.intro t351 ?_
  refine And.intro t352 ?_
  refine And.intro t353 ?_
  refine And.intro t355 ?_
  refine And.intro t356 ?_
  refine And.intro t357 ?_
  refine And.intro t358 ?_
  refine And.intro t359 ?_
  refine And.intro t360 ?_
  refine And.intro t361 ?_
  refine And.intro t362 ?_
  refine And.intro t363 ?_
  refine And.intro t364 ?_
  refine And.intro t365 ?_
  refine And.intro t366 ?_
  refine And.intro t367 ?_
  refine And.intro t368 ?_
  refine And.intro t369 ?_
  refine And.intro t370 ?_
  refine And.intro t371 ?_
  refine And.intro t373 ?_
  refine And.intro t374 ?_
  refine And.intro t375 ?_
  refine And.intro t376 ?_
  refine And.intro t377 ?_
  refine And.intro t378 ?_
  refine And.intro t379 ?_
  refine And.intro t380 ?_
  refine And.intro t381 ?_
  refine And.intro t382 ?_
  refine And.intro t383 ?_
  refine And.intro t384 ?_
  refine And.intro t386 ?_
  refine And.intro t387 ?_
  refine And.intro t388 ?_
  refine And.intro t389 ?_
  refine And.intro t390 ?_
  refine And.intro t391 ?_
  refine And.intro t392 ?_
  refine And.intro t393 ?_
  refine And.intro t394 ?_
  refine And.intro t395 ?_
  refine And.intro t396 ?_
  refine And.intro t397 ?_
  refine And.intro t398 ?_
  refine And.intro t399 ?_
  refine And.intro t400 ?_
  refine And.intro t401 ?_
  refine And.intro t402 ?_
  refine And.intro t403 ?_
  refine And.intro t405 ?_
  refine And.intro t407 ?_
  refine And.intro t408 ?_
  refine And.intro t409 ?_
  refine And.intro t410 ?_
  refine And.intro t411 ?_
  refine And.intro t412 ?_
  refine And.intro t413 ?_
  refine And.intro t414 ?_
  refine And.intro t415 ?_
  refine And.intro t416 ?_
  refine And.intro t417 ?_
  refine And.intro t418 ?_
  refine And.intro t419 ?_
  refine And.intro t420 ?_
  refine And.intro t422 ?_
  refine And.intro t423 ?_
  refine And.intro t424 ?_
  refine And.intro t425 ?_
  refine And.intro t426 ?_
  refine And.intro t427 ?_
  refine And.intro t428 ?_
  refine And.intro t429 ?_
  refine And.intro t430 ?_
  refine And.intro t431 ?_
  refine And.intro t432 ?_
  refine And.intro t433 ?_
  refine And.intro t434 ?_
  refine And.intro t435 ?_
  refine And.intro t436 ?_
  refine And.intro t437 ?_
  refine And.intro t438 ?_
  refine And.intro t439 ?_
  refine And.intro t440 ?_
  refine And.intro t441 ?_
  refine And.intro t442 ?_
  refine And.intro t443 ?_
  refine And.intro t444 ?_
  refine And.intro t445 ?_
  refine And.intro t446 ?_
  refine And.intro t447 ?_
  refine And.intro t449 ?_
  refine And.intro t450 ?_
  refine And.intro t451 ?_
  refine And.intro t452 ?_
  refine And.intro t453 ?_
  refine And.intro t454 ?_
  refine And.intro t455 ?_
  refine And.intro t456 ?_
  refine And.intro t457 ?_
  refine And.intro t459 ?_
  refine And.intro t460 ?_
  refine And.intro t461 ?_
  refine And.intro t462 ?_
  refine And.intro t463 ?_
  refine And.intro t464 ?_
  refine And.intro t465 ?_
  refine And.intro t466 ?_
  refine And.intro t467 ?_
  refine And.intro t468 ?_
  refine And.intro t469 ?_
  refine And.intro t470 ?_
  refine And.intro t472 ?_
  refine And.intro t473 ?_
  refine And.intro t474 ?_
  refine And.intro t475 ?_
  refine And.intro t476 ?_
  refine And.intro t477 ?_
  refine And.intro t478 ?_
  refine And.intro t479 ?_
  refine And.intro t480 ?_
  refine And.intro t481 ?_
  refine And.intro t482 ?_
  refine And.intro t483 ?_
  refine And.intro t484 ?_
  refine And.intro t485 ?_
  refine And.intro t486 ?_
  refine And.intro t487 ?_
  refine And.intro t488 ?_
  refine And.intro t489 ?_
  refine And.intro t490 ?_
  refine And.intro t491 ?_
  refine And.intro t492 ?_
  refine And.intro t493 ?_
  refine And.intro t494 ?_
  refine And.intro t496 ?_
  refine And.intro t497 ?_
  refine And.intro t498 ?_
  refine And.intro t499 ?_
  refine And.intro t501 ?_
  refine And.intro t502 ?_
  refine And.intro t503 ?_
  refine And.intro t504 ?_
  refine And.intro t505 ?_
  refine And.intro t507 ?_
  refine And.intro t508 ?_
  refine And.intro t509 ?_
  refine And.intro t510 ?_
  refine And.intro t511 ?_
  refine And.intro t512 ?_
  refine And.intro t513 ?_
  refine And.intro t514 ?_
  refine And.intro t515 ?_
  refine And.intro t516 ?_
  refine And.intro t517 ?_
  refine And.intro t518 ?_
  refine And.intro t519 ?_
  refine And.intro t520 ?_
  refine And.intro t521 ?_
  refine And.intro t522 ?_
  refine And.intro t523 ?_
  refine And.intro t524 ?_
  refine And.intro t525 ?_
  refine And.intro t526 ?_
  refine And.intro t527 ?_
  exact trivial
theorem tab_ok : TabOk Tryz.prog tabT := fun t ti h => by have := tabAll_ok tabT 0 tab_all t ti h; rwa [Nat.zero_add] at this
set_option maxRecDepth 100000 in
theorem fns_all : fnAll Tryz.prog 0 tabG := by
  refine And.intro ⟨Tryz.f2, Tryz.func2, rfl, by kernel_rfl⟩ ?_
  refine And.intro ⟨Tryz.f3, Tryz.func3, rfl, by kernel_rfl⟩ ?_
  refine And.intro ⟨Tryz.f4, Tryz.func4, rfl, by kernel_rfl⟩ ?_
  refine And.intro ⟨Tryz.f5, Tryz.func5, rfl, by kernel_rfl⟩ ?_
  refine And.intro ⟨Tryz.f6, Tryz.func6, rfl, by kernel_rfl⟩ ?_
  refine And.intro ⟨Tryz.f7, Tryz.func7, rfl, by kernel_rfl⟩ ?_
  refine And.intro ⟨Tryz.f8, Tryz.func8, rfl, by kernel_rfl⟩ ?_
  refine And.intro ⟨Tryz.f9, Tryz.func9, rfl, by kernel_rfl⟩ ?_
  refine And.intro ⟨Tryz.f10, Tryz.func10, rfl, by kernel_rfl⟩ ?_
  refine And.intro ⟨Tryz.f11, Tryz.func11, rfl, by kernel_rfl⟩ ?_
  refine And.intro ⟨Tryz.f12, Tryz.func12, rfl, by kernel_rfl⟩ ?_
  refine And.intro ⟨Tryz.f13, Tryz.func13, rfl, by kernel_rfl⟩ ?_
  refine And.intro ⟨Tryz.f14, Tryz.func14, rfl, by kernel_rfl⟩ ?_
  refine And.intro ⟨Tryz.f15, Tryz.func15, rfl, by kernel_rfl⟩ ?_
  refine And.intro ⟨Tryz.f16, Tryz.func16, rfl, by kernel_rfl⟩ ?_
  refine And.intro ⟨Tryz.f17, Tryz.func17, rfl, by kernel_rfl⟩ ?_
  refine And.intro ⟨Tryz.f18, Tryz.func18, rfl, by kernel_rfl⟩ ?_
  refine And.intro ⟨Tryz.f19, Tryz.func19, rfl, by kernel_rfl⟩ ?_
  refine And.intro ⟨Tryz.f20, Tryz.func20, rfl, by kernel_rfl⟩ ?_
  refine And.intro ⟨Tryz.f21, Tryz.func21, rfl, by kernel_rfl⟩ ?_
  refine And.intro ⟨Tryz.f22, Tryz.func22, rfl, by kernel_rfl⟩ ?_
  refine And.intro ⟨Tryz.f23, Tryz.func23, rfl, by kernel_rfl⟩ ?_
  refine And.intro ⟨Tryz.f24, Tryz.func24, rfl, by kernel_rfl⟩ ?_
  refine And.intro ⟨Tryz.f25, Tryz.func25, rfl, by kernel_rfl⟩ ?_
  refine And.intro ⟨Tryz.f26, Tryz.func26, rfl, by kernel_rfl⟩ ?_
  refine And.intro ⟨Tryz.f27, Tryz.func27, rfl, by kernel_rfl⟩ ?_
  refine And.intro ⟨Tryz.f28, Tryz.func28, rfl, by kernel_rfl⟩ ?_
  refine And.intro ⟨Tryz.f29, Tryz.func29, rfl, by kernel_rfl⟩ ?_
  refine And.intro ⟨Tryz.f30, Tryz.func30, rfl, by kernel_rfl⟩ ?_
  refine And.intro ⟨Tryz.f31, Tryz.func31, rfl, by kernel_rfl⟩ ?_
  refine And.intro ⟨Tryz.f32, Tryz.func32, rfl, by kernel_rfl⟩ ?_
  refine And.intro ⟨Tryz.f33, Tryz.func33, rfl, by kernel_rfl⟩ ?_
  refine And.intro ⟨Tryz.f34, Tryz.func34, rfl, by kernel_rfl⟩ ?_
  refine And.intro ⟨Tryz.f35, Tryz.func35, rfl, by kernel_rfl⟩ ?_
  refine And.intro ⟨Tryz.f36, Tryz.func36, rfl, by kernel_rfl⟩ ?_
  refine And.intro ⟨Tryz.f37, Tryz.func37, rfl, by kernel_rfl⟩ ?_
  refine And.intro ⟨Tryz.f38, Tryz.func38, rfl, by kernel_rfl⟩ ?_
  refine And.intro ⟨Tryz.f39, Tryz.func39, rfl, by kernel_rfl⟩ ?_
  refine And.intro ⟨Tryz.f40, Tryz.func40, rfl, by kernel_rfl⟩ ?_
  refine And.intro ⟨Tryz.f41, Tryz.func41, rfl, by kernel_rfl⟩ ?_
  refine And.intro ⟨Tryz.f42, Tryz.func42, rfl, by kernel_rfl⟩ ?_
  refine And.intro ⟨Tryz.f43, Tryz.func43, rfl, by kernel_rfl⟩ ?_
  refine And.intro ⟨Tryz.f44, Tryz.func44, rfl, by kernel_rfl⟩ ?_
  refine And.intro ⟨Tryz.f45, Tryz.func45, rfl, by kernel_rfl⟩ ?_
  refine And.intro ⟨Tryz.f46, Tryz.func46, rfl, by kernel_rfl⟩ ?_
  refine And.intro ⟨Tryz.f47, Tryz.func47, rfl, by kernel_rfl⟩ ?_
  refine And.intro ⟨Tryz.f48, Tryz.func48, rfl, by kernel_rfl⟩ ?_
  refine And.intro ⟨Tryz.f49, Tryz.func49, rfl, by kernel_rfl⟩ ?_
  refine And.intro ⟨Tryz.f50, Tryz.func50, rfl, by kernel_rfl⟩ ?_
  refine And.intro ⟨Tryz.f51, Tryz.func51, rfl, by kernel_rfl⟩ ?_
  refine And.intro ⟨Tryz.f52, Tryz.func52, rfl, by kernel_rfl⟩ ?_
  refine And.intro ⟨Tryz.f53, Tryz.func53, rfl, by kernel_rfl⟩ ?_
  refine And.intro ⟨Tryz.f54, Tryz.func54, rfl, by kernel_rfl⟩ ?_
  refine And.intro ⟨Tryz.f55, Tryz.func55, rfl, by kernel_rfl⟩ ?_
  refine And.intro ⟨Tryz.f56, Tryz.func56, rfl, by kernel_rfl⟩ ?_
  refine And.intro ⟨Tryz.f57, Tryz.func57, rfl, by kernel_rfl⟩ ?_
  refine And.intro ⟨Tryz.f58, Tryz.func58, rfl, by kernel_rfl⟩ ?_
  refine And.intro ⟨Tryz.f59, Tryz.func59, rfl, by kernel_rfl⟩ ?_
  refine And.intro ⟨Tryz.f60, Tryz.func60, rfl, by kernel_rfl⟩ ?_
  refine And.intro ⟨Tryz.f61, Tryz.func61, rfl, by kernel_rfl⟩ ?_
  refine And.intro ⟨Tryz.f62, Tryz.func62, rfl, by kernel_rfl⟩ ?_
  refine And.intro ⟨Tryz.f63, Tryz.func63, rfl, by kernel_rfl⟩ ?_
  refine And.intro ⟨Tryz.f64, Tryz.func64, rfl, by kernel_rfl⟩ ?_
  refine And.intro ⟨Tryz.f65, Tryz.func65, rfl, by kernel_rfl⟩ ?_
  refine And.intro ⟨Tryz.f66, Tryz.func66, rfl, by kernel_rfl⟩ ?_
  refine And.intro ⟨Tryz.f67, Tryz.func67, rfl, by kernel_rfl⟩ ?_
  refine And.intro ⟨Tryz.f68, Tryz.func68, rfl, by kernel_rfl⟩ ?_
  refine And.intro ⟨Tryz.f69, Tryz.func69, rfl, by kernel_rfl⟩ ?_
  refine And.intro ⟨Tryz.f70, Tryz.func70, rfl, by kernel_rfl⟩ ?_
  refine And.intro ⟨Tryz.f71, Tryz.func71, rfl, by kernel_rfl⟩ ?_
  refine And.intro ⟨Tryz.f72, Tryz.func72, rfl, by kernel_rfl⟩ ?_
  refine And.intro ⟨Tryz.f73, Tryz.func73, rfl, by kernel_rfl⟩ ?_
  refine And.intro ⟨Tryz.f74, Tryz.func74, rfl, by kernel_rfl⟩ ?_
  refine And.intro ⟨Tryz.f75, Tryz.func75, rfl, by kernel_rfl⟩ ?_
  refine And.intro ⟨Tryz.f76, Tryz.func76, rfl, by kernel_rfl⟩ ?_
  refine And.intro ⟨Tryz.f77, Tryz.func77, rfl, by kernel_rfl⟩ ?_
  refine And.intro ⟨Tryz.f78, Tryz.func78, rfl, by kernel_rfl⟩ ?_
  refine And.intro ⟨Tryz.f79, Tryz.func79, rfl, by kernel_rfl⟩ ?_
  refine And.intro ⟨Tryz.f80, Tryz.func80, rfl, by kernel_rfl⟩ ?_
  refine And.intro ⟨Tryz.f81, Tryz.func81, rfl, by kernel_rfl⟩ ?_
  refine And.intro ⟨Tryz.f82, Tryz.func82, rfl, by kernel_rfl⟩ ?_
  refine And.intro ⟨Tryz.f83, Tryz.func83, rfl, by kernel_rfl⟩ ?_
  refine And.intro ⟨Tryz.f84, Tryz.func84, rfl, by kernel_rfl⟩ ?_
  refine And.intro ⟨Tryz.f85, Tryz.func85, rfl, by kernel_rfl⟩ ?_
  refine And.intro ⟨Tryz.f86, Tryz.func86, rfl, by kernel_rfl⟩ ?_
  refine And.intro ⟨Tryz.f87, Tryz.func87, rfl, by kernel_rfl⟩ ?_
  refine And.intro ⟨Tryz.f88, Tryz.func88, rfl, by kernel_rfl⟩ ?_
  refine And.intro ⟨Tryz.f89, Tryz.func89, rfl, by kernel_rfl⟩ ?_
  refine And.intro ⟨Tryz.f90, Tryz.func90, rfl, by kernel_rfl⟩ ?_
  refine And.intro ⟨Tryz.f91, Tryz.func91, rfl, by kernel_rfl⟩ ?_
  refine And.intro ⟨Tryz.f92, Tryz.func92, rfl, by kernel_rfl⟩ ?_
  refine And.intro ⟨Tryz.f93, Tryz.func93, rfl, by kernel_rfl⟩ ?_
  refine And.intro ⟨Tryz.f94, Tryz.func94, rfl, by kernel_rfl⟩ ?_
  refine And.intro ⟨Tryz.f95, Tryz.func95, rfl, by kernel_rfl⟩ ?_
  refine And.intro ⟨Tryz.f96, Tryz.func96, rfl, by kernel_rfl⟩ ?_
  refine And.intro ⟨Tryz.f97, Tryz.func97, rfl, by kernel_rfl⟩ ?_
  refine And.intro ⟨Tryz.f98, Tryz.func98, rfl, by kernel_rfl⟩ ?_
  refine And.intro ⟨Tryz.f99, Tryz.func99, rfl, by kernel_rfl⟩ ?_
  refine And.intro ⟨Tryz.f100, Tryz.func100, rfl, by kernel_rfl⟩ ?_
  refine And.intro ⟨Tryz.f101, Tryz.func101, rfl, by kernel_rfl⟩ ?_
  refine And.intro ⟨Tryz.f102, Tryz.func102, rfl, by kernel_rfl⟩ ?_
  refine And.intro ⟨Tryz.f103, Tryz.func103, rfl, by kernel_rfl⟩ ?_
  refine And.intro ⟨Tryz.f104, Tryz.func104, rfl, by kernel_rfl⟩ ?_
  refine And.intro ⟨Tryz.f105, Tryz.func105, rfl, by kernel_rfl⟩ ?_
  refine And.intro ⟨Tryz.f106, Tryz.func106, rfl, by kernel_rfl⟩ ?_
  refine And.intro ⟨Tryz.f107, Tryz.func107, rfl, by kernel_rfl⟩ ?_
  refine And.intro ⟨Tryz.f108, Tryz.func108, rfl, by kernel_rfl⟩ ?_
  refine And.intro ⟨Tryz.f109, Tryz.func109, rfl, by kernel_rfl⟩ ?_
  refine And.intro ⟨Tryz.f110, Tryz.func110, rfl, by kernel_rfl⟩ ?_
  refine And.intro ⟨Tryz.f111, Tryz.func111, rfl, by kernel_rfl⟩ ?_
  refine And.intro ⟨Tryz.f112, Tryz.func112, rfl, by kernel_rfl⟩ ?_
  refine And.intro ⟨Tryz.f113, Tryz.func113, rfl, by kernel_rfl⟩ ?_
  refine And.intro ⟨Tryz.f114, Tryz.func114, rfl, by kernel_rfl⟩ ?_
  refine And.intro ⟨Tryz.f115, Tryz.func115, rfl, by kernel_rfl⟩ ?_
  refine And.intro ⟨Tryz.f116, Tryz.func116, rfl, by kernel_rfl⟩ ?_
  refine And.intro ⟨Tryz.f117, Tryz.func117, rfl, by kernel_rfl⟩ ?_
  refine And.intro ⟨Tryz.f118, Tryz.func118, rfl, by kernel_rfl⟩ ?_
  refine And.intro ⟨Tryz.f119, Tryz.func119, rfl, by kernel_rfl⟩ ?_
  refine And.intro ⟨Tryz.f120, Tryz.func120, rfl, by kernel_rfl⟩ ?_
  refine And.intro ⟨Tryz.f121, Tryz.func121, rfl, by kernel_rfl⟩ ?_
  refine And.intro ⟨Tryz.f122, Tryz.func122, rfl, by kernel_rfl⟩ ?_
  refine And.intro ⟨Tryz.f123, Tryz.func123, rfl, by kernel_rfl⟩ ?_
  refine And.intro ⟨Tryz.f124, Tryz.func124, rfl, by kernel_rfl⟩ ?_
  refine And.intro ⟨Tryz.f125, Tryz.func125, rfl, by kernel_rfl⟩ ?_
  refine And.intro ⟨Tryz.f126, Tryz.func126, rfl, by kernel_rfl⟩ ?_
  refine And.intro ⟨Tryz.f127, Tryz.func127, rfl, by kernel_rfl⟩ ?_
  refine And.intro ⟨Tryz.f128, Tryz.func128, rfl, by kernel_rfl⟩ ?_
  refine And.intro ⟨Tryz.f129, Tryz.func129, rfl, by kernel_rfl⟩ ?_
  refine And.intro ⟨Tryz.f130, Tryz.func130, rfl, by kernel_rfl⟩ ?_
  refine And.intro ⟨Tryz.f131, Tryz.func131, rfl, by kernel_rfl⟩ ?_
  refine And.intro ⟨Tryz.f132, Tryz.func132, rfl, by kernel_rfl⟩ ?_
  refine And.intro ⟨Tryz.f133, Tryz.func133, rfl, by kernel_rfl⟩ ?_
  refine And.intro ⟨Tryz.f134, Tryz.func134, rfl, by kernel_rfl⟩ ?_
  refine And.intro ⟨Tryz.f135, Tryz.func135, rfl, by kernel_rfl⟩ ?_
  refine And.intro ⟨Tryz.f136, Tryz.func136, rfl, by kernel_rfl⟩ ?_
  refine And.intro ⟨Tryz.f137, Tryz.func137, rfl, by kernel_rfl⟩ ?_
  refine And.intro ⟨Tryz.f138, Tryz.func138, rfl, by kernel_rfl⟩ ?_
  refine And.intro ⟨Tryz.f139, Tryz.func139, rfl, by kernel_rfl⟩ ?_
  refine And.intro ⟨Tryz.f140, Tryz.func140, rfl, by kernel_rfl⟩ ?_
  refine And.intro ⟨Tryz.f141, Tryz.func141, rfl, by kernel_rfl⟩ ?_
  refine And.intro ⟨Tryz.f142, Tryz.func142, rfl, by kernel_rfl⟩ ?_
  refine And.intro ⟨Tryz.f143, Tryz.func143, rfl, by kernel_rfl⟩ ?_
  refine And.intro ⟨Tryz.f144, Tryz.func144, rfl, by kernel_rfl⟩ ?_
  refine And.intro ⟨Tryz.f145, Tryz.func145, rfl, by kernel_rfl⟩ ?_
  refine And.intro ⟨Tryz.f146, Tryz.func146, rfl, by kernel_rfl⟩ ?_
  refine And.intro ⟨Tryz.f147, Tryz.func147, rfl, by kernel_rfl⟩ ?_
  refine And.intro ⟨Tryz.f148, Tryz.func148, rfl, by kernel_rfl⟩ ?_
  refine And.intro ⟨Tryz.f149, Tryz.func149, rfl, by kernel_rfl⟩ ?_
  refine And.intro ⟨Tryz.f150, Tryz.func150, rfl, by kernel_rfl⟩ ?_
  refine And.intro ⟨Tryz.f151, Tryz.func151, rfl, by kernel_rfl⟩ ?_
  refine And.intro ⟨Tryz.f152, Tryz.func152, rfl, by kernel_rfl⟩ ?_
  refine And.intro ⟨Tryz.f153, Tryz.func153, rfl, by kernel_rfl⟩ ?_
  refine And.intro ⟨Tryz.f154, Tryz.func154, rfl, by kernel_rfl⟩ ?_
  refine And.intro ⟨Tryz.f155, Tryz.func155, rfl, by kernel_rfl⟩ ?_
  refine And.intro ⟨Tryz.f156, Tryz.func156, rfl, by kernel_rfl⟩ ?_
  refine And.intro ⟨Tryz.f157, Tryz.func157, rfl, by kernel_rfl⟩ ?_
  refine And.intro ⟨Tryz.f158, Tryz.func158, rfl, by kernel_rfl⟩ ?_
  refine And.intro ⟨Tryz.f159, Tryz.func159, rfl, by kernel_rfl⟩ ?_
  refine And.intro ⟨Tryz.f160, Tryz.func160, rfl, by kernel_rfl⟩ ?_
  refine And.intro ⟨Tryz.f161, Tryz.func161, rfl, by kernel_rfl⟩ ?_
  refine And.intro ⟨Tryz.f162, Tryz.func162, rfl, by kernel_rfl⟩ ?_
  refine And.intro ⟨Tryz.f163, Tryz.func163, rfl, by kernel_rfl⟩ ?_
  refine And.intro ⟨Tryz.f164, Tryz.func164, rfl, by kernel_rfl⟩ ?_
  refine And.intro ⟨Tryz.f165, Tryz.func165, rfl, by kernel_rfl⟩ ?_
  refine And.intro ⟨Tryz.f166, Tryz.func166, rfl, by kernel_rfl⟩ ?_
  refine And.intro ⟨Tryz.f167, Tryz.func167, rfl, by kernel_rfl⟩ ?_
  refine And.intro ⟨Tryz.f168, Tryz.func168, rfl, by kernel_rfl⟩ ?_
  refine And.intro ⟨Tryz.f169, Tryz.func169, rfl, by kernel_rfl⟩ ?_
  refine And.intro ⟨Tryz.f170, Tryz.func170, rfl, by kernel_rfl⟩ ?_
  refine And.intro ⟨Tryz.f171, Tryz.func171, rfl, by kernel_rfl⟩ ?_
  refine And.intro ⟨Tryz.f172, Tryz.func172, rfl, by kernel_rfl⟩ ?_
  refine And.intro ⟨Tryz.f173, Tryz.func173, rfl, by kernel_rfl⟩ ?_
  refine And.intro ⟨Tryz.f174, Tryz.func174, rfl, by kernel_rfl⟩ ?_
  refine And.intro ⟨Tryz.f175, Tryz.func175, rfl, by kernel_rfl⟩ ?_
  refine And.intro ⟨Tryz.f176, Tryz.func176, rfl, by kernel_rfl⟩ ?_
  refine And.intro ⟨Tryz.f177, Tryz.func177, rfl, by kernel_rfl⟩ ?_
  refine And.intro ⟨Tryz.f178, Tryz.func178, rfl, by kernel_rfl⟩ ?_
  refine And.intro ⟨Tryz.f179, Tryz.func179, rfl, by kernel_rfl⟩ ?_
  refine And.intro ⟨Tryz.f180, Tryz.func180, rfl, by kernel_rfl⟩ ?_
  refine And.intro ⟨Tryz.f181, Tryz.func181, rfl, by kernel_rfl⟩ ?_
  refine And.intro ⟨Tryz.f182, Tryz.func182, rfl, by kernel_rfl⟩ ?_
  refine And.intro ⟨Tryz.f183, Tryz.func183, rfl, by kernel_rfl⟩ ?_
  refine And.intro ⟨Tryz.f184, Tryz.func184, rfl, by kernel_rfl⟩ ?_
  refine And.intro ⟨Tryz.f185, Tryz.func185, rfl, by kernel_rfl⟩ ?_
  refine And.intro ⟨Tryz.f186, Tryz.func186, rfl, by kernel_rfl⟩ ?_
  refine And.intro ⟨Tryz.f187, Tryz.func187, rfl, by kernel_rfl⟩ ?_
  refine And.intro ⟨Tryz.f188, Tryz.func188, rfl, by kernel_rfl⟩ ?_
  refine And.intro ⟨Tryz.f189, Tryz.func189, rfl, by kernel_rfl⟩ ?_
  refine And.intro ⟨Tryz.f190, Tryz.func190, rfl, by kernel_rfl⟩ ?_
  refine And.intro ⟨Tryz.f191, Tryz.func191, rfl, by kernel_rfl⟩ ?_
  refine And.intro ⟨Tryz.f192, Tryz.func192, rfl, by kernel_rfl⟩ ?_
  refine And.intro ⟨Tryz.f193, Tryz.func193, rfl, by kernel_rfl⟩ ?_
  refine And.intro ⟨Tryz.f194, Tryz.func194, rfl, by kernel_rfl⟩ ?_
  refine And.intro ⟨Tryz.f195, Tryz.func195, rfl, by kernel_rfl⟩ ?_
  refine And.intro ⟨Tryz.f196, Tryz.func196, rfl, by kernel_rfl⟩ ?_
  refine And.intro ⟨Tryz.f197, Tryz.func197, rfl, by kernel_rfl⟩ ?_
  refine And.intro ⟨Tryz.f198, Tryz.func198, rfl, by kernel_rfl⟩ ?_
  refine And.intro ⟨Tryz.f199, Tryz.func199, rfl, by kernel_rfl⟩ ?_
  refine And.intro ⟨Tryz.f200, Tryz.func200, rfl, by kernel_rfl⟩ ?_
  refine And.intro ⟨Tryz.f203, Tryz.func203, rfl, by kernel_rfl⟩ ?_
  refine And.intro ⟨Tryz.f204, Tryz.func204, rfl, by kernel_rfl⟩ ?_
  refine And.intro ⟨Tryz.f205, Tryz.func205, rfl, by kernel_rfl⟩ ?_
  refine And.intro ⟨Tryz.f206, Tryz.func206, rfl, by kernel_rfl⟩ ?_
  refine And.intro ⟨Tryz.f207, Tryz.func207, rfl, by kernel_rfl⟩ ?_
  refine And.intro ⟨Tryz.f208, Tryz.func208, rfl, by kernel_rfl⟩ ?_
  refine And.intro ⟨Tryz.f209, Tryz.func209, rfl, by kernel_rfl⟩ ?_
  refine And.intro ⟨Tryz.f210, Tryz.func210, rfl, by kernel_rfl⟩ ?_
  refine And.intro ⟨Tryz.f211, Tryz.func211, rfl, by kernel_rfl⟩ ?_
  refine And.intro ⟨Tryz.f212, Tryz.func212, rfl, by kernel_rfl⟩ ?_
  refine And.intro ⟨Tryz.f213, Tryz.func213, rfl, by kernel_rfl⟩ ?_
  refine And.intro ⟨Tryz.f214, Tryz.func214, rfl, by kernel_rfl⟩ ?_
  refine And.intro ⟨Tryz.f215, Tryz.func215, rfl, by kernel_rfl⟩ ?_
  refine And.intro ⟨Tryz.f217, Tryz.func217, rfl, by kernel_rfl⟩ ?_
  refine And.intro ⟨Tryz.f218, Tryz.func218, rfl, by kernel_rfl⟩ ?_
  refine And.intro ⟨Tryz.f219, Tryz.func219, rfl, by kernel_rfl⟩ ?_
  refine And.intro ⟨Tryz.f220, Tryz.func220, rfl, by kernel_rfl⟩ ?_
  refine And.intro ⟨Tryz.f221, Tryz.func221, rfl, by kernel_rfl⟩ ?_
  refine And.intro ⟨Tryz.f222, Tryz.func222, rfl, by kernel_rfl⟩ ?_
  refine And.intro ⟨Tryz.f223, Tryz.func223, rfl, by kernel_rfl⟩ ?_
  refine And.intro ⟨Tryz.f224, Tryz.func224, rfl, by kernel_rfl⟩ ?_
  refine And.intro ⟨Tryz.f225, Tryz.func225, rfl, by kernel_rfl⟩ ?_
  refine And.intro ⟨Tryz.f227, Tryz.func227, rfl, by kernel_rfl⟩ ?_
  refine And.intro ⟨Tryz.f228, Tryz.func228, rfl, by kernel_rfl⟩ ?_
  refine And.intro ⟨Tryz.f229, Tryz.func229, rfl, by kernel_rfl⟩ ?_
  refine And.intro ⟨Tryz.f230, Tryz.func230, rfl, by kernel_rfl⟩ ?_
  refine And.intro ⟨Tryz.f231, Tryz.func231, rfl, by kernel_rfl⟩ ?_
  refine And.intro ⟨Tryz.f232, Tryz.func232, rfl, by kernel_rfl⟩ ?_
  refine And.intro ⟨Tryz.f233, Tryz.func233, rfl, by kernel_rfl⟩ ?_
  refine And.intro ⟨Tryz.f234, Tryz.func234, rfl, by kernel_rfl⟩ ?_
  refine And.intro ⟨Tryz.f235, Tryz.func235, rfl, by kernel_rfl⟩ ?_
  refine And.intro ⟨Tryz.f236, Tryz.func236, rfl, by kernel_rfl⟩ ?_
  refine And.intro ⟨Tryz.f237, Tryz.func237, rfl, by kernel_rfl⟩ ?_
  refine And.intro ⟨Tryz.f238, Tryz.func238, rfl, by kernel_rfl⟩ ?_
  refine And.intro ⟨Tryz.f239, Tryz.func239, rfl, by kernel_rfl⟩ ?_
  refine And.intro ⟨Tryz.f240, Tryz.func240, rfl, by kernel_rfl⟩ ?_
  refine And.intro ⟨Tryz.f241, Tryz.func241, rfl, by kernel_rfl⟩ ?_
  refine And.intro ⟨Tryz.f242, Tryz.func242, rfl, by kernel_rfl⟩ ?_
  refine And.intro ⟨Tryz.f243, Tryz.func243, rfl, by kernel_rfl⟩ ?_
  refine And.intro ⟨Tryz.f244, Tryz.func244, rfl, by kernel_rfl⟩ ?_
  refine And.intro ⟨Tryz.f245, Tryz.func245, rfl, by kernel_rfl⟩ ?_
  refine And.intro ⟨Tryz.f246, Tryz.func246, rfl, by kernel_rfl⟩ ?_
  refine And.intro ⟨Tryz.f247, Tryz.func247, rfl, by kernel_rfl⟩ ?_
  refine And.intro ⟨Tryz.f248, Tryz.func248, rfl, by kernel_rfl⟩ ?_
  refine And.intro ⟨Tryz.f249, Tryz.func249, rfl, by kernel_rfl⟩ ?_
  refine And.intro ⟨Tryz.f250, Tryz.func250, rfl, by kernel_rfl⟩ ?_
  refine And.intro ⟨Tryz.f251, Tryz.func251, rfl, by kernel_rfl⟩ ?_
  refine And.intro ⟨Tryz.f252, Tryz.func252, rfl, by kernel_rfl⟩ ?_
  refine And.intro ⟨Tryz.f253, Tryz.func253, rfl, by kernel_rfl⟩ ?_
  refine And.intro ⟨Tryz.f254, Tryz.func254, rfl, by kernel_rfl⟩ ?_
  refine And.intro ⟨Tryz.f255, Tryz.func255, rfl, by kernel_rfl⟩ ?_
  refine And.intro ⟨Tryz.f256, Tryz.func256, rfl, by kernel_rfl⟩ ?_
  refine And.intro ⟨Tryz.f257, Tryz.func257, rfl, by kernel_rfl⟩ ?_
  refine And.intro ⟨Tryz.f258, Tryz.func258, rfl, by kernel_rfl⟩ ?_
  refine And.intro ⟨Tryz.f259, Tryz.func259, rfl, by kernel_rfl⟩ ?_
  refine And.intro ⟨Tryz.f260, Tryz.func260, rfl, by kernel_rfl⟩ ?_
  refine And.intro ⟨Tryz.f261, Tryz.func261, rfl, by kernel_rfl⟩ ?_
  refine And.intro ⟨Tryz.f262, Tryz.func262, rfl, by kernel_rfl⟩ ?_
  refine And.intro ⟨Tryz.f263, Tryz.func263, rfl, by kernel_rfl⟩ ?_
  refine And.intro ⟨Tryz.f264, Tryz.func264, rfl, by kernel_rfl⟩ ?_
  refine And.intro ⟨Tryz.f265, Tryz.func265, rfl, by kernel_rfl⟩ ?_
  refine And.intro ⟨Tryz.f266, Tryz.func266, rfl, by kernel_rfl⟩ ?_
  refine And.intro ⟨Tryz.f267, Tryz.func267, rfl, by kernel_rfl⟩ ?_
  refine And.intro ⟨Tryz.f268, Tryz.func268, rfl, by kernel_rfl⟩ ?_
  refine And.intro ⟨Tryz.f269, Tryz.func269, rfl, by kernel_rfl⟩ ?_
  refine And.intro ⟨Tryz.f270, Tryz.func270, rfl, by kernel_rfl⟩ ?_
  refine And.intro ⟨Tryz.f271, Tryz.func271, rfl, by kernel_rfl⟩ ?_
  refine And.intro ⟨Tryz.f272, Tryz.func272, rfl, by kernel_rfl⟩ ?_
  refine And.intro ⟨Tryz.f273, Tryz.func273, rfl, by kernel_rfl⟩ ?_
  refine And.intro ⟨Tryz.f274, Tryz.func274, rfl, by kernel_rfl⟩ ?_
  refine And.intro ⟨Tryz.f275, Tryz.func275, rfl, by kernel_rfl⟩ ?_
  refine And.intro ⟨Tryz.f276, Tryz.func276, rfl, by kernel_rfl⟩ ?_
  refine And.intro ⟨Tryz.f277, Tryz.func277, rfl, by kernel_rfl⟩ ?_
  refine And.intro ⟨Tryz.f278, Tryz.func278, rfl, by kernel_rfl⟩ ?_
  refine And.intro ⟨Tryz.f279, Tryz.func279, rfl, by kernel_rfl⟩ ?_
  refine And.intro ⟨Tryz.f281, Tryz.func281, rfl, by kernel_rfl⟩ ?_
  refine And.intro ⟨Tryz.f282, Tryz.func282, rfl, by kernel_rfl⟩ ?_
  refine And.intro ⟨Tryz.f283, Tryz.func283, rfl, by kernel_rfl⟩ ?_
  refine And.intro ⟨Tryz.f284, Tryz.func284, rfl, by kernel_rfl⟩ ?_
  refine And.intro ⟨Tryz.f285, Tryz.func285, rfl, by kernel_rfl⟩ ?_
  refine And.intro ⟨Tryz.f286, Tryz.func286, rfl, by kernel_rfl⟩ ?_
  refine And.intro ⟨Tryz.f287, Tryz.func287, rfl, by kernel_rfl⟩ ?_
  refine And.intro ⟨Tryz.f288, Tryz.func288, rfl, by kernel_rfl⟩ ?_
  refine And.intro ⟨Tryz.f289, Tryz.func289, rfl, by kernel_rfl⟩ ?_
  refine And.intro ⟨Tryz.f290, Tryz.func290, rfl, by kernel_rfl⟩ ?_
  refine And.intro ⟨Tryz.f291, Tryz.func291, rfl, by kernel_rfl⟩ ?_
  refine And.intro ⟨Tryz.f292, Tryz.func292, rfl, by kernel_rfl⟩ ?_
  refine And.intro ⟨Tryz.f293, Tryz.func293, rfl, by kernel_rfl⟩ ?_
  refine And.intro ⟨Tryz.f294, Tryz.func294, rfl, by kernel_rfl⟩ ?_
  refine And.intro ⟨Tryz.f295, Tryz.func295, rfl, by kernel_rfl⟩ ?_
  refine And.intro ⟨Tryz.f296, Tryz.func296, rfl, by kernel_rfl⟩ ?_
  refine And.intro ⟨Tryz.f297, Tryz.func297, rfl, by kernel_rfl⟩ ?_
  refine And.intro ⟨Tryz.f298, Tryz.func298, rfl, by kernel_rfl⟩ ?_
  refine And.intro ⟨Tryz.f299, Tryz.func299, rfl, by kernel_rfl⟩ ?_
  refine And.intro ⟨Tryz.f300, Tryz.func300, rfl, by kernel_rfl⟩ ?_
  refine And.intro ⟨Tryz.f301, Tryz.func301, rfl, by kernel_rfl⟩ ?_
  refine And.intro ⟨Tryz.f302, Tryz.func302, rfl, by kernel_rfl⟩ ?_
  refine And.intro ⟨Tryz.f303, Tryz.func303, rfl, by kernel_rfl⟩ ?_
  refine And.intro ⟨Tryz.f304, Tryz.func304, rfl, by kernel_rfl⟩ ?_
  refine And.intro ⟨Tryz.f305, Tryz.func305, rfl, by kernel_rfl⟩ ?_
  refine And.intro ⟨Tryz.f306, Tryz.func306, rfl, by kernel_rfl⟩ ?_
  refine And.intro ⟨Tryz.f307, Tryz.func307, rfl, by kernel_rfl⟩ ?_
  refine And.intro ⟨Tryz.f308, Tryz.func308, rfl, by kernel_rfl⟩ ?_
  refine And.intro ⟨Tryz.f309, Tryz.func309, rfl, by kernel_rfl⟩ ?_
  refine And.intro ⟨Tryz.f310, Tryz.func310, rfl, by kernel_rfl⟩ ?_
  refine And.intro ⟨Tryz.f311, Tryz.func311, rfl, by kernel_rfl⟩ ?_
  refine And.intro ⟨Tryz.f312, Tryz.func312, rfl, by kernel_rfl⟩ ?_
  refine And.intro ⟨Tryz.f313, Tryz.func313, rfl, by kernel_rfl⟩ ?_
  refine And.intro ⟨Tryz.f314, Tryz.func314, rfl, by kernel_rfl⟩ ?_
  refine And.intro ⟨Tryz.f315, Tryz.func315, rfl, by kernel_rfl⟩ ?_
  refine And.intro ⟨Tryz.f316, Tryz.func316, rfl, by kernel_rfl⟩ ?_
  refine And.intro ⟨Tryz.f317, Tryz.func317, rfl, by kernel_rfl⟩ ?_
  refine And.intro ⟨Tryz.f318, Tryz.func318, rfl, by kernel_rfl⟩ ?_
  refine And.intro ⟨Tryz.f319, Tryz.func319, rfl, by kernel_rfl⟩ ?_
  refine And.intro ⟨Tryz.f320, Tryz.func320, rfl, by kernel_rfl⟩ ?_
  refine And.intro ⟨Tryz.f321, Tryz.func321, rfl, by kernel_rfl⟩ ?_
  refine And.intro ⟨Tryz.f322, Tryz.func322, rfl, by kernel_rfl⟩ ?_
  refine And.intro ⟨Tryz.f323, Tryz.func323, rfl, by kernel_rfl⟩ ?_
  refine And.intro ⟨Tryz.f324, Tryz.func324, rfl, by kernel_rfl⟩ ?_
  refine And.intro ⟨Tryz.f325, Tryz.func325, rfl, by kernel_rfl⟩ ?_
  refine And.intro ⟨Tryz.f326, Tryz.func326, rfl, by kernel_rfl⟩ ?_
  refine And.intro ⟨Tryz.f327, Tryz.func327, rfl, by kernel_rfl⟩ ?_
  refine And.intro ⟨Tryz.f328, Tryz.func328, rfl, by kernel_rfl⟩ ?_
  refine And.intro ⟨Tryz.f329, Tryz.func329, rfl, by kernel_rfl⟩ ?_
  refine And.intro ⟨Tryz.f330, Tryz.func330, rfl, by kernel_rfl⟩ ?_
  refine And.intro ⟨Tryz.f331, Tryz.func331, rfl, by kernel_rfl⟩ ?_
  refine And.intro ⟨Tryz.f332, Tryz.func332, rfl, by kernel_rfl⟩ ?_
  refine And.intro ⟨Tryz.f333, Tryz.func333, rfl, by kernel_rfl⟩ ?_
  refine And.intro ⟨Tryz.f334, Tryz.func334, rfl, by kernel_rfl⟩ ?_
  refine And.intro ⟨Tryz.f335, Tryz.func335, rfl, by kernel_rfl⟩ ?_
  refine And.intro ⟨Tryz.f336, Tryz.func336, rfl, by kernel_rfl⟩ ?_
  refine And.intro ⟨Tryz.f337, Tryz.func337, rfl, by kernel_rfl⟩ ?_
  refine And.intro ⟨Tryz.f338, Tryz.func338, rfl, by kernel_rfl⟩ ?_
  refine And.intro ⟨Tryz.f339, Tryz.func339, rfl, by kernel_rfl⟩ ?_
  refine And.intro ⟨Tryz.f340, Tryz.func340, rfl, by kernel_rfl⟩ ?_
  refine And.intro ⟨Tryz.f341, Tryz.func341, rfl, by kernel_rfl⟩ ?_
  refine And.intro ⟨Tryz.f342, Tryz.func342, rfl, by kernel_rfl⟩ ?_
  refine And.intro ⟨Tryz.f343, Tryz.func343, rfl, by kernel_rfl⟩ ?_
  refine And.intro ⟨Tryz.f344, Tryz.func344, rfl, by kernel_rfl⟩ ?_
  refine And.intro ⟨Tryz.f345, Tryz.func345, rfl, by kernel_rfl⟩ ?_
  refine And.intro ⟨Tryz.f346, Tryz.func346, rfl, by kernel_rfl⟩ ?_
  refine And.intro ⟨Tryz.f347, Tryz.func347, rfl, by kernel_rfl⟩ ?_
  refine And.intro ⟨Tryz.f348, Tryz.func348, rfl, by kernel_rfl⟩ ?_
  refine And.intro ⟨Tryz.f349, Tryz.func349, rfl, by kernel_rfl⟩ ?_
  refine And.intro ⟨Tryz.f350, Tryz.func350, rfl, by kernel_rfl⟩ ?_
  refine And.intro ⟨Tryz.f351, Tryz.func351, rfl, by kernel_rfl⟩ ?_
  refine And.intro ⟨Tryz.f352, Tryz.func352, rfl, by kernel_rfl⟩ ?_
  refine And.intro ⟨Tryz.f353, Tryz.func353, rfl, by kernel_rfl⟩ ?_
  refine And.intro ⟨Tryz.f354, Tryz.func354, rfl, by kernel_rfl⟩ ?_
  refine And.intro ⟨Tryz.f355, Tryz.func355, rfl, by kernel_rfl⟩ ?_
  refine And.intro ⟨Tryz.f356, Tryz.func356, rfl, by kernel_rfl⟩ ?_
  refine And.intro ⟨Tryz.f357, Tryz.func357, rfl, by kernel_rfl⟩ ?_
  refine And.intro ⟨Tryz.f358, Tryz.func358, rfl, by kernel_rfl⟩ ?_
  refine And.intro ⟨Tryz.f359, Tryz.func359, rfl, by kernel_rfl⟩ ?_
  refine And.intro ⟨Tryz.f360, Tryz.func360, rfl, by kernel_rfl⟩ ?_
  refine And.intro ⟨Tryz.f361, Tryz.func361, rfl, by kernel_rfl⟩ ?_
  refine And.intro ⟨Tryz.f362, Tryz.func362, rfl, by kernel_rfl⟩ ?_
  refine And.intro ⟨Tryz.f363, Tryz.func363, rfl, by kernel_rfl⟩ ?_
  refine And.intro ⟨Tryz.f364, Tryz.func364, rfl, by kernel_rfl⟩ ?_
  refine And.intro ⟨Tryz.f365, Tryz.func365, rfl, by kernel_rfl⟩ ?_
  refine And.intro ⟨Tryz.f366, Tryz.func366, rfl, by kernel_rfl⟩ ?_
  refine And.intro ⟨Tryz.f367, Tryz.func367, rfl, by kernel_rfl⟩ ?_
  refine And.intro ⟨Tryz.f368, Tryz.func368, rfl, by kernel_rfl⟩ ?_
  refine And.intro ⟨Tryz.f369, Tryz.func369, rfl, by kernel_rfl⟩ ?_
  refine And.intro ⟨Tryz.f370, Tryz.func370, rfl, by kernel_rfl⟩ ?_
  refine And.intro ⟨Tryz.f371, Tryz.func371, rfl, by kernel_rfl⟩ ?_
  refine And.intro ⟨Tryz.f372, Tryz.func372, rfl, by kernel_rfl⟩ ?_
  refine And.intro ⟨Tryz.f373, Tryz.func373, rfl, by kernel_rfl⟩ ?_
  refine And.intro ⟨Tryz.f374, Tryz.func374, rfl, by kernel_rfl⟩ ?_
  refine And.intro ⟨Tryz.f375, Tryz.func375, rfl, by kernel_rfl⟩ ?_
  refine And.intro ⟨Tryz.f376, Tryz.func376, rfl, by kernel_rfl⟩ ?_
  refine And.intro ⟨Tryz.f377, Tryz.func377, rfl, by kernel_rfl⟩ ?_
  refine And.intro ⟨Tryz.f378, Tryz.func378, rfl, by kernel_rfl⟩ ?_
  refine And.intro ⟨Tryz.f379, Tryz.func379, rfl, by kernel_rfl⟩ ?_
  refine And.intro ⟨Tryz.f380, Tryz.func380, rfl, by kernel_rfl⟩ ?_
  refine And.intro ⟨Tryz.f381, Tryz.func381, rfl, by kernel_rfl⟩ ?_
  refine And.intro ⟨Tryz.f382, Tryz.func382, rfl, by kernel_rfl⟩ ?_
  refine And.intro ⟨Tryz.f383, Tryz.func383, rfl, by kernel_rfl⟩ ?_
  refine And.intro ⟨Tryz.f384, Tryz.func384, rfl, by kernel_rfl⟩ ?_
  refine And.intro ⟨Tryz.f385, Tryz.func385, rfl, by kernel_rfl⟩ ?_
  refine And.intro ⟨Tryz.f386, Tryz.func386, rfl, by kernel_rfl⟩ ?_
  refine And.intro ⟨Tryz.f387, Tryz.func387, rfl, by kernel_rfl⟩ ?_
  refine And.intro ⟨Tryz.f388, Tryz.func388, rfl, by kernel_rfl⟩ ?_
  refine And.intro ⟨Tryz.f389, Tryz.func389, rfl, by kernel_rfl⟩ ?_
  refine And.intro ⟨Tryz.f390, Tryz.func390, rfl, by kernel_rfl⟩ ?_
  refine And.intro ⟨Tryz.f391, Tryz.func391, rfl, by kernel_rfl⟩ ?_
  refine And.intro ⟨Tryz.f392, Tryz.func392, rfl, by kernel_rfl⟩ ?_
  refine And.intro ⟨Tryz.f393, Tryz.func393, rfl, by kernel_rfl⟩ ?_
  refine And.intro ⟨Tryz.f394, Tryz.func394, rfl, by kernel_rfl⟩ ?_
  refine And.intro ⟨Tryz.f395, Tryz.func395, rfl, by kernel_rfl⟩ ?_
  refine And.intro ⟨Tryz.f396, Tryz.func396, rfl, by kernel_rfl⟩ ?_
  refine And.intro ⟨Tryz.f397, Tryz.func397, rfl, by kernel_rfl⟩ ?_
  refine And.intro ⟨Tryz.f398, Tryz.func398, rfl, by kernel_rfl⟩ ?_
  refine And.intro ⟨Tryz.f399, Tryz.func399, rfl, by kernel_rfl⟩ ?_
  refine And.intro ⟨Tryz.f400, Tryz.func400, rfl, by kernel_rfl⟩ ?_
  refine And.intro ⟨Tryz.f401, Tryz.func401, rfl, by kernel_rfl⟩ ?_
  refine And.intro ⟨Tryz.f402, Tryz.func402, rfl, by kernel_rfl⟩ ?_
  refine And.intro ⟨Tryz.f403, Tryz.func403, rfl, by kernel_rfl⟩ ?_
  refine And.intro ⟨Tryz.f404, Tryz.func404, rfl, by kernel_rfl⟩ ?_
  refine And.intro ⟨Tryz.f405, Tryz.func405, rfl, by kernel_rfl⟩ ?_
  refine And.intro ⟨Tryz.f406, Tryz.func406, rfl, by kernel_rfl⟩ ?_
  refine And.intro ⟨Tryz.f407, Tryz.func407, rfl, by kernel_rfl⟩ ?_
  refine And.intro ⟨Tryz.f408, Tryz.func408, rfl, by kernel_rfl⟩ ?_
  refine And.intro ⟨Tryz.f409, Tryz.func409, rfl, by kernel_rfl⟩ ?_
  refine And.intro ⟨Tryz.f410, Tryz.func410, rfl, by kernel_rfl⟩ ?_
  refine And.intro ⟨Tryz.f411, Tryz.func411, rfl, by kernel_rfl⟩ ?_
  refine And.intro ⟨Tryz.f412, Tryz.func412, rfl, by kernel_rfl⟩ ?_
  refine And.intro ⟨Tryz.f413, Tryz.func413, rfl, by kernel_rfl⟩ ?_
  refine And.intro ⟨Tryz.f414, Tryz.func414, rfl, by kernel_rfl⟩ ?_
  refine And.intro ⟨Tryz.f415, Tryz.func415, rfl, by kernel_rfl⟩ ?_
  refine And.intro ⟨Tryz.f416, Tryz.func416, rfl, by kernel_rfl⟩ ?_
  refine And.intro ⟨Tryz.f417, Tryz.func417, rfl, by kernel_rfl⟩ ?_
  refine And.intro ⟨Tryz.f418, Tryz.func418, rfl, by kernel_rfl⟩ ?_
  refine And.intro ⟨Tryz.f419, Tryz.func419, rfl, by kernel_rfl⟩ ?_
  refine And.intro ⟨Tryz.f420, Tryz.func420, rfl, by kernel_rfl⟩ ?_
  refine And.intro ⟨Tryz.f439, Tryz.func439, rfl, by kernel_rfl⟩ ?_
  refine And.intro ⟨Tryz.f440, Tryz.func440, rfl, by kernel_rfl⟩ ?_
  refine And.intro ⟨Tryz.f441, Tryz.func441, rfl, by kernel_rfl⟩ ?_
  refine And.intro ⟨Tryz.f442, Tryz.func442, rfl, by kernel_rfl⟩ ?_
  refine And.intro ⟨Tryz.f443, Tryz.func443, rfl, by kernel_rfl⟩ ?_
  refine And.intro ⟨Tryz.f457, Tryz.func457, rfl, by kernel_rfl⟩ ?_
  exact trivial
theorem fns_ok : FnsOk Tryz.prog tabG := fun f h => by have := fnAll_ok tabG 0 fns_all f h; rwa [Nat.zero_add] at this
theorem exE {p : Prop} {i : Nat} (h : inE tabE i = true) : inE tabE i = false → p := fun h2 => by rw [h] at h2; cases h2
theorem ex13 {p : Prop} : inE tabE 13 = false → p := exE (by kernel_rfl)
theorem ex14 {p : Prop} : inE tabE 14 = false → p := exE (by kernel_rfl)
theorem ex18 {p : Prop} : inE tabE 18 = false → p := exE (by kernel_rfl)
theorem ex19 {p : Prop} : inE tabE 19 = false → p := exE (by kernel_rfl)
theorem ex516 {p : Prop} : inE tabE 516 = false → p := exE (by kernel_rfl)
theorem ex517 {p : Prop} : inE tabE 517 = false → p := exE (by kernel_rfl)
theorem ex519 {p : Prop} : inE tabE 519 = false → p := exE (by kernel_rfl)
theorem ex520 {p : Prop} : inE tabE 520 = false → p := exE (by kernel_rfl)
theorem ex526 {p : Prop} : inE tabE 526 = false → p := exE (by kernel_rfl)
theorem ex527 {p : Prop} : inE tabE 527 = false → p := exE (by kernel_rfl)
theorem held_all : heldAll Tryz.prog tabE 0 tabT := by
  iterate 6 refine And.intro (fun _ => trivial) ?_
  refine And.intro (fun _ => ⟨Tryz.stoodInHeld7, by kernel_rfl⟩) ?_
  refine And.intro (fun _ => ⟨Tryz.stoodInHeld8, by kernel_rfl⟩) ?_
  iterate 4 refine And.intro (fun _ => trivial) ?_
  refine And.intro ex13 ?_
  refine And.intro ex14 ?_
  iterate 3 refine And.intro (fun _ => trivial) ?_
  refine And.intro ex18 ?_
  refine And.intro ex19 ?_
  iterate 10 refine And.intro (fun _ => trivial) ?_
  refine And.intro (fun _ => ⟨Tryz.stoodInHeld31, by kernel_rfl⟩) ?_
  refine And.intro (fun _ => ⟨Tryz.stoodInHeld32, by kernel_rfl⟩) ?_
  iterate 6 refine And.intro (fun _ => trivial) ?_
  refine And.intro (fun _ => ⟨Tryz.stoodInHeld40, by kernel_rfl⟩) ?_
  refine And.intro (fun _ => ⟨Tryz.stoodInHeld41, by kernel_rfl⟩) ?_
  refine And.intro (fun _ => trivial) ?_
  refine And.intro (fun _ => ⟨Tryz.stoodInHeld43, by kernel_rfl⟩) ?_
  refine And.intro (fun _ => ⟨Tryz.stoodInHeld44, by kernel_rfl⟩) ?_
  refine And.intro (fun _ => trivial) ?_
  refine And.intro (fun _ => trivial) ?_
  refine And.intro (fun _ => ⟨Tryz.stoodInHeld47, by kernel_rfl⟩) ?_
  refine And.intro (fun _ => ⟨Tryz.stoodInHeld48, by kernel_rfl⟩) ?_
  refine And.intro (fun _ => ⟨Tryz.stoodInHeld49, by kernel_rfl⟩) ?_
  refine And.intro (fun _ => ⟨Tryz.stoodInHeld50, by kernel_rfl⟩) ?_
  iterate 6 refine And.intro (fun _ => trivial) ?_
  refine And.intro (fun _ => ⟨Tryz.stoodInHeld58, by kernel_rfl⟩) ?_
  refine And.intro (fun _ => ⟨Tryz.stoodInHeld59, by kernel_rfl⟩) ?_
  refine And.intro (fun _ => ⟨Tryz.stoodInHeld60, by kernel_rfl⟩) ?_
  refine And.intro (fun _ => ⟨Tryz.stoodInHeld61, by kernel_rfl⟩) ?_
  iterate 8 refine And.intro (fun _ => trivial) ?_
  refine And.intro (fun _ => ⟨Tryz.stoodInHeld75, by kernel_rfl⟩) ?_
  refine And.intro (fun _ => ⟨Tryz.stoodInHeld76, by kernel_rfl⟩) ?_
  iterate 3 refine And.intro (fun _ => trivial) ?_
  refine And.intro (fun _ => ⟨Tryz.stoodInHeld81, by kernel_rfl⟩) ?_
  refine And.intro (fun _ => ⟨Tryz.stoodInHeld82, by kernel_rfl⟩) ?_
  iterate 5 refine And.intro (fun _ => trivial) ?_
  refine And.intro (fun _ => ⟨Tryz.stoodInHeld89, by kernel_rfl⟩) ?_
  refine And.intro (fun _ => ⟨Tryz.stoodInHeld90, by kernel_rfl⟩) ?_
  refine And.intro (fun _ => trivial) ?_
  refine And.intro (fun _ => ⟨Tryz.stoodInHeld93, by kernel_rfl⟩) ?_
  refine And.intro (fun _ => ⟨Tryz.stoodInHeld94, by kernel_rfl⟩) ?_
  iterate 5 refine And.intro (fun _ => trivial) ?_
  refine And.intro (fun _ => ⟨Tryz.stoodInHeld100, by kernel_rfl⟩) ?_
  refine And.intro (fun _ => ⟨Tryz.stoodInHeld101, by kernel_rfl⟩) ?_
  iterate 11 refine And.intro (fun _ => trivial) ?_
  refine And.intro (fun _ => ⟨Tryz.stoodInHeld114, by kernel_rfl⟩) ?_
  refine And.intro (fun _ => ⟨Tryz.stoodInHeld115, by kernel_rfl⟩) ?_
  refine And.intro (fun _ => trivial) ?_
  refine And.intro (fun _ => ⟨Tryz.stoodInHeld117, by kernel_rfl⟩) ?_
  refine And.intro (fun _ => ⟨Tryz.stoodInHeld118, by kernel_rfl⟩) ?_
  refine And.intro (fun _ => trivial) ?_
  refine And.intro (fun _ => trivial) ?_
  refine And.intro (fun _ => ⟨Tryz.stoodInHeld122, by kernel_rfl⟩) ?_
  refine And.intro (fun _ => ⟨Tryz.stoodInHeld123, by kernel_rfl⟩) ?_
  iterate 12 refine And.intro (fun _ => trivial) ?_
  refine And.intro (fun _ => ⟨Tryz.stoodInHeld138, by kernel_rfl⟩) ?_
  refine And.intro (fun _ => ⟨Tryz.stoodInHeld139, by kernel_rfl⟩) ?_
  iterate 28 refine And.intro (fun _ => trivial) ?_
  refine And.intro (fun _ => ⟨Tryz.stoodInHeld170, by kernel_rfl⟩) ?_
  refine And.intro (fun _ => ⟨Tryz.stoodInHeld171, by kernel_rfl⟩) ?_
  iterate 3 refine And.intro (fun _ => trivial) ?_
  refine And.intro (fun _ => ⟨Tryz.stoodInHeld176, by kernel_rfl⟩) ?_
  refine And.intro (fun _ => ⟨Tryz.stoodInHeld177, by kernel_rfl⟩) ?_
  iterate 12 refine And.intro (fun _ => trivial) ?_
  refine And.intro (fun _ => ⟨Tryz.stoodInHeld192, by kernel_rfl⟩) ?_
  refine And.intro (fun _ => ⟨Tryz.stoodInHeld193, by kernel_rfl⟩) ?_
  iterate 26 refine And.intro (fun _ => trivial) ?_
  refine And.intro (fun _ => ⟨Tryz.stoodInHeld226, by kernel_rfl⟩) ?_
  refine And.intro (fun _ => ⟨Tryz.stoodInHeld227, by kernel_rfl⟩) ?_
  refine And.intro (fun _ => trivial) ?_
  refine And.intro (fun _ => ⟨Tryz.stoodInHeld229, by kernel_rfl⟩) ?_
  refine And.intro (fun _ => ⟨Tryz.stoodInHeld230, by kernel_rfl⟩) ?_
  iterate 3 refine And.intro (fun _ => trivial) ?_
  refine And.intro (fun _ => ⟨Tryz.stoodInHeld234, by kernel_rfl⟩) ?_
  refine And.intro (fun _ => ⟨Tryz.stoodInHeld235, by kernel_rfl⟩) ?_
  iterate 8 refine And.intro (fun _ => trivial) ?_
  refine And.intro (fun _ => ⟨Tryz.stoodInHeld244, by kernel_rfl⟩) ?_
  refine And.intro (fun _ => ⟨Tryz.stoodInHeld245, by kernel_rfl⟩) ?_
  iterate 13 refine And.intro (fun _ => trivial) ?_
  refine And.intro (fun _ => ⟨Tryz.stoodInHeld260, by kernel_rfl⟩) ?_
  refine And.intro (fun _ => ⟨Tryz.stoodInHeld261, by kernel_rfl⟩) ?_
  iterate 7 refine And.intro (fun _ => trivial) ?_
  refine And.intro (fun _ => ⟨Tryz.stoodInHeld272, by kernel_rfl⟩) ?_
  refine And.intro (fun _ => ⟨Tryz.stoodInHeld273, by kernel_rfl⟩) ?_
  iterate 6 refine And.intro (fun _ => trivial) ?_
  refine And.intro (fun _ => ⟨Tryz.stoodInHeld283, by kernel_rfl⟩) ?_
  refine And.intro (fun _ => ⟨Tryz.stoodInHeld284, by kernel_rfl⟩) ?_
  iterate 5 refine And.intro (fun _ => trivial) ?_
  refine And.intro (fun _ => ⟨Tryz.stoodInHeld291, by kernel_rfl⟩) ?_
  refine And.intro (fun _ => ⟨Tryz.stoodInHeld292, by kernel_rfl⟩) ?_
  iterate 7 refine And.intro (fun _ => trivial) ?_
  refine And.intro (fun _ => ⟨Tryz.stoodInHeld300, by kernel_rfl⟩) ?_
  refine And.intro (fun _ => ⟨Tryz.stoodInHeld301, by kernel_rfl⟩) ?_
  refine And.intro (fun _ => trivial) ?_
  refine And.intro (fun _ => ⟨Tryz.stoodInHeld303, by kernel_rfl⟩) ?_
  refine And.intro (fun _ => ⟨Tryz.stoodInHeld304, by kernel_rfl⟩) ?_
  iterate 37 refine And.intro (fun _ => trivial) ?_
  refine And.intro (fun _ => ⟨Tryz.stoodInHeld346, by kernel_rfl⟩) ?_
  refine And.intro (fun _ => ⟨Tryz.stoodInHeld347, by kernel_rfl⟩) ?_
  iterate 13 refine And.intro (fun _ => trivial) ?_
  refine And.intro (fun _ => ⟨Tryz.stoodInHeld362, by kernel_rfl⟩) ?_
  refine And.intro (fun _ => ⟨Tryz.stoodInHeld363, by kernel_rfl⟩) ?_
  refine And.intro (fun _ => ⟨Tryz.stoodInHeld364, by kernel_rfl⟩) ?_
  refine And.intro (fun _ => ⟨Tryz.stoodInHeld365, by kernel_rfl⟩) ?_
  refine And.intro (fun _ => trivial) ?_
  refine And.intro (fun _ => ⟨Tryz.stoodInHeld367, by kernel_rfl⟩) ?_
  refine And.intro (fun _ => ⟨Tryz.stoodInHeld368, by kernel_rfl⟩) ?_
  refine And.intro (fun _ => trivial) ?_
  refine And.intro (fun _ => ⟨Tryz.stoodInHeld370, by kernel_rfl⟩) ?_
  refine And.intro (fun _ => ⟨Tryz.stoodInHeld371, by kernel_rfl⟩) ?_
  iterate 6 refine And.intro (fun _ => trivial) ?_
  refine And.intro (fun _ => ⟨Tryz.stoodInHeld379, by kernel_rfl⟩) ?_
  refine And.intro (fun _ => ⟨Tryz.stoodInHeld380, by kernel_rfl⟩) ?_
  refine And.intro (fun _ => trivial) ?_
  refine And.intro (fun _ => ⟨Tryz.stoodInHeld382, by kernel_rfl⟩) ?_
  refine And.intro (fun _ => ⟨Tryz.stoodInHeld383, by kernel_rfl⟩) ?_
  iterate 5 refine And.intro (fun _ => trivial) ?_
  refine And.intro (fun _ => ⟨Tryz.stoodInHeld390, by kernel_rfl⟩) ?_
  refine And.intro (fun _ => ⟨Tryz.stoodInHeld391, by kernel_rfl⟩) ?_
  iterate 15 refine And.intro (fun _ => trivial) ?_
  refine And.intro (fun _ => ⟨Tryz.stoodInHeld409, by kernel_rfl⟩) ?_
  refine And.intro (fun _ => ⟨Tryz.stoodInHeld410, by kernel_rfl⟩) ?_
  refine And.intro (fun _ => trivial) ?_
  refine And.intro (fun _ => trivial) ?_
  refine And.intro (fun _ => ⟨Tryz.stoodInHeld413, by kernel_rfl⟩) ?_
  refine And.intro (fun _ => ⟨Tryz.stoodInHeld414, by kernel_rfl⟩) ?_
  iterate 21 refine And.intro (fun _ => trivial) ?_
  refine And.intro (fun _ => ⟨Tryz.stoodInHeld437, by kernel_rfl⟩) ?_
  refine And.intro (fun _ => ⟨Tryz.stoodInHeld438, by kernel_rfl⟩) ?_
  iterate 11 refine And.intro (fun _ => trivial) ?_
  refine And.intro (fun _ => ⟨Tryz.stoodInHeld451, by kernel_rfl⟩) ?_
  refine And.intro (fun _ => ⟨Tryz.stoodInHeld452, by kernel_rfl⟩) ?_
  iterate 51 refine And.intro (fun _ => trivial) ?_
  refine And.intro (fun _ => ⟨Tryz.stoodInHeld509, by kernel_rfl⟩) ?_
  refine And.intro (fun _ => ⟨Tryz.stoodInHeld510, by kernel_rfl⟩) ?_
  iterate 3 refine And.intro (fun _ => trivial) ?_
  refine And.intro (fun _ => ⟨Tryz.stoodInHeld514, by kernel_rfl⟩) ?_
  refine And.intro (fun _ => ⟨Tryz.stoodInHeld515, by kernel_rfl⟩) ?_
  refine And.intro ex516 ?_
  refine And.intro ex517 ?_
  refine And.intro (fun _ => trivial) ?_
  refine And.intro ex519 ?_
  refine And.intro ex520 ?_
  iterate 5 refine And.intro (fun _ => trivial) ?_
  refine And.intro ex526 ?_
  refine And.intro ex527 ?_
  exact trivial
theorem hX : TabsOk Tryz.prog X := ⟨tab_ok, fns_ok, fun t ti h he => (by have := heldAll_ok tabT 0 held_all t ti h (by rwa [Nat.zero_add]); rwa [Nat.zero_add] at this), by kernel_rfl⟩
end Go.Ev
namespace Go.Proofs.YtloofgoblodeiaaGreatDoor.tlr
open Go Go.Ev Go.Proofs Go.ChangeShapes Go.WideShapes Go.ChangeAt Go.RowKit
theorem goes_none {P : Program} (h : P.funcs.any Func.goes = false) (f : FuncId) : P.goes f = false := by
  unfold Program.goes
  rw [h, Bool.and_false, Bool.or_false]
  rw [Bool.eq_false_iff]
  intro hc
  obtain ⟨g, hg, h2⟩ := List.any_eq_true.1 hc
  cases hx : P.funcs[g]? with
  | none => rw [hx] at h2; cases h2
  | some fn =>
    rw [hx] at h2
    rw [Bool.eq_false_iff] at h
    exact h (Array.any_eq_true'.2 ⟨fn, Array.mem_of_getElem? hx, h2⟩)
theorem any_none : Tryz.prog.funcs.any Func.goes = false := by kernel_rfl
theorem goesBy_none {P : Program} (h : P.funcs.any Func.goes = false) (c : OpenClaim) (hs : c.start = .entering) : false = c.goesBy P := by
  have h1 : ∀ o : Option FuncId, o.any P.goes = false := fun o => by
    cases o with
    | none => rfl
    | some f => exact goes_none h f
  unfold OpenClaim.goesBy Program.goesAt Program.goesFrom
  rw [h1, hs]
  rfl
theorem goes_ok : false = Rows.toolRefusesRow.goesBy Tryz.pinned.checked.prog := goesBy_none any_none _ rfl
theorem c1 : Rows.toolRefusesRow.wfByText (OpenSpec.ofChange Rows.toolRefusesSpec) = true := by kernel_rfl
theorem c2 : Tryz.pinned.checked.prog.mainIs = some (true, "a281a6a150dc86e7d29c5d6dbdf8dec87aece366512c57af439540cef88fb4b6".toList) := by kernel_rfl
theorem c3 : true = Tryz.pinned.checked.prog.looks [] := by kernel_rfl
theorem c4 : ([9].all fun u => !Tryz.prog.wantsStandIn u) = true := by kernel_rfl
theorem card_of (said : Rows.ToolRefusesSaid) : Rows.ToolRefusesCardSaid :=
  Claim7.holds_tied_plain_at .later [] [.data, .data, .data, .data, .sentinel, .sentinel, .pinned] true (true, "a281a6a150dc86e7d29c5d6dbdf8dec87aece366512c57af439540cef88fb4b6") true
    said (fun _ h => by cases h) c1 (fun _ h => by cases h) toolRefuses_row_tie rfl ⟨rfl, rfl⟩ c2 rfl
    (fun f fn hf hfn => by
      obtain rfl : f = 3 := Option.some.inj ((show Tryz.prog.funcNamed "bolter/bolterlaw25.ToolRefuses" = some 3 by kernel_rfl).symm.trans hf) |>.symm
      obtain rfl : fn = Tryz.f3 := (Option.some.inj (Tryz.func3.symm.trans hfn)).symm
      exact ⟨c3, fun j t ht => by
        rw [Tryz.params3] at ht
        have hm : t ∈ [9] := by simpa using Array.mem_of_getElem? ht
        exact (show Tryz.prog.wantsStandIn t = false by simpa using List.all_eq_true.1 c4 t hm)⟩)
    goes_ok
end Go.Proofs.YtloofgoblodeiaaGreatDoor.tlr
namespace Go.Proofs.YtloofgoblodeiaaGreatDoor.tlr
open Go Go.Proofs
theorem k10 : (Rows.toolRefusesRow.inPlace == Tryz.prog.inPlace 3) = true := by kernel_rfl
end Go.Proofs.YtloofgoblodeiaaGreatDoor.tlr
namespace Go.Proofs.YtloofgoblodeiaaGreatDoor.tlr
open Go Go.Proofs
theorem k11 : (Tryz.prog.unfollowed 3) = true := by kernel_rfl
end Go.Proofs.YtloofgoblodeiaaGreatDoor.tlr
namespace Go.Proofs.YtloofgoblodeiaaGreatDoor.tlr
open Go Go.Proofs
theorem k13 : (Rows.toolRefusesRow.named == Tryz.prog.varsNamed 3) = true := by kernel_rfl
end Go.Proofs.YtloofgoblodeiaaGreatDoor.tlr
namespace Go.Proofs.YtloofgoblodeiaaGreatDoor.tlr
open Go Go.Proofs
theorem k12 : (Rows.toolRefusesRow.recurses == Tryz.prog.recurses 3) = true := by
  unfold Program.recurses
  rw [k11, Bool.true_or]
  rfl
theorem k11' : (Rows.toolRefusesRow.unfollowed == Tryz.prog.unfollowed 3) = true := by rw [k11]; rfl
set_option maxRecDepth 100000 in
theorem closed : joinedFacts Tryz.prog 3 Tryz.f3 Rows.toolRefusesSpec Rows.toolRefusesRow = true := by
  unfold joinedFacts
  rw [k10, k11', k12, k13]
  simp only [Bool.and_eq_true]
  repeat' apply And.intro
  all_goals first | exact True.intro | kernel_rfl
end Go.Proofs.YtloofgoblodeiaaGreatDoor.tlr
