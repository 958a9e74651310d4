import Derived.Test.YtdconcindpfmcaaProg
import Derived.Test.YtdconcindpfmcaaQNetPlays0
import Derived.Test.YtdconcindpfmcaaQNetPlays4
import Derived.Test.YtdconcindpfmcaaQNetPlays5
section
/- What the machine knows of the types, and that it is so. -/
namespace Go.Proofs.Ytdconcindpfmcaa
open V
def T : List TD := [
  .non, .fn, .int .i64, .int .i64, .bool, .int .u8, .int .u8, .agg 4 [(0, 1, false), (1, 1, false), (2, 1, false), (3, 1, false)],
  .agg 4 [(0, 1, false), (1, 1, false), (2, 1, false), (3, 1, false)], .str, .str, .str, .int .u64, .agg 2 [(0, 1, false), (1, 1, false)], .agg 2 [(0, 1, false), (1, 1, false)], .ptr,
  .ptr, .ptr, .agg 1 [(0, 1, false)], .agg 1 [(0, 1, false)], .ifc, .int .i32, .fn, .fn,
  .fn, .fn, .fn, .sl 31 1, .fn, .ptr, .fn, .sl 5 1,
  .int .i64, .non, .fn, .agg 4 [(0, 1, false), (1, 1, false), (2, 1, false), (3, 1, false)], .agg 4 [(0, 1, false), (1, 1, false), (2, 1, false), (3, 1, false)], .non, .fn, .fn,
  .fn, .fn, .fn, .int .u64, .ptr, .fn, .agg 3 [(0, 1, false), (1, 1, false), (2, 1, false)], .agg 3 [(0, 1, false), (1, 1, false), (2, 1, false)],
  .fn, .fn, .fn, .int .u64, .fn, .sl 36 4, .fn, .fn,
  .sl 61 6, .fn, .sl 3 1, .sl 43 1, .agg 6 [(0, 1, false), (1, 1, false), (2, 1, false), (3, 1, false), (4, 1, false), (5, 1, false)], .agg 6 [(0, 1, false), (1, 1, false), (2, 1, false), (3, 1, false), (4, 1, false), (5, 1, false)], .fn, .fn,
  .sl 2 1, .ptr, .fn, .fn, .non, .fn, .non, .fn,
  .fn, .sl 84 3, .ptr, .sl 88 2, .agg 1 [(0, 1, false)], .agg 1 [(0, 1, false)], .sl 124 1, .sl 124 1,
  .map, .agg 2 [(0, 1, false), (1, 1, false)], .agg 2 [(0, 1, false), (1, 1, false)], .agg 3 [(0, 1, false), (1, 1, false), (2, 1, false)], .agg 3 [(0, 1, false), (1, 1, false), (2, 1, false)], .fn, .fn, .agg 2 [(0, 1, false), (1, 1, false)],
  .agg 2 [(0, 1, false), (1, 1, false)], .fn, .fn, .sl 101 5, .fn, .ptr, .sl 133 4, .agg 2 [(0, 1, false), (1, 1, false)],
  .agg 2 [(0, 1, false), (1, 1, false)], .agg 2 [(0, 1, false), (1, 1, false)], .agg 2 [(0, 1, false), (1, 1, false)], .fn, .agg 5 [(0, 1, false), (1, 1, false), (2, 1, false), (3, 1, false), (4, 1, false)], .agg 5 [(0, 1, false), (1, 1, false), (2, 1, false), (3, 1, false), (4, 1, false)], .fn, .fn,
  .fn, .fn, .fn, .fn, .fn, .fn, .fn, .fn,
  .map, .agg 1 [(0, 1, false)], .agg 1 [(0, 1, false)], .fn, .agg 3 [(0, 1, false), (1, 1, false), (2, 1, false)], .agg 3 [(0, 1, false), (1, 1, false), (2, 1, false)], .ptr, .map,
  .agg 2 [(0, 1, false), (1, 1, false)], .agg 2 [(0, 1, false), (1, 1, false)], .non, .fn, .ptr, .non, .agg 3 [(0, 1, false), (1, 1, false), (2, 1, false)], .agg 3 [(0, 1, false), (1, 1, false), (2, 1, false)],
  .fn, .ptr, .fn, .fn, .fn, .agg 4 [(0, 1, false), (1, 1, false), (2, 1, false), (3, 1, false)], .non, .fn,
  .fn, .fn, .fn, .fn, .fn, .non, .fn, .fn,
  .ifc, .ifc, .fn, .fn, .fn, .fn, .fn, .fn,
  .fn, .fn, .fn, .fn, .fn, .fn, .int .i64, .non,
  .fn, .fn, .fn, .fn, .non, .fn, .fn, .int .u32,
  .fn, .int .u64, .fn, .fn, .fn, .ptr, .fn, .ptr,
  .non, .fn, .fn, .agg 4 [(0, 1, false), (1, 1, false), (2, 1, false), (3, 1, false)], .agg 4 [(0, 1, false), (1, 1, false), (2, 1, false), (3, 1, false)], .arr 0 16 1, .non, .non,
  .int .u8, .int .u8, .fn, .ptr, .int .i32, .int .i32, .agg 11 [(0, 1, false), (1, 1, false), (2, 1, false), (3, 1, false), (4, 1, false), (5, 1, false), (6, 1, false), (7, 1, false), (8, 1, false), (9, 1, false), (10, 1, false)], .agg 11 [(0, 1, false), (1, 1, false), (2, 1, false), (3, 1, false), (4, 1, false), (5, 1, false), (6, 1, false), (7, 1, false), (8, 1, false), (9, 1, false), (10, 1, false)],
  .non]
set_option maxRecDepth 100000 in
theorem hT : TOk Try.prog T := TOk.of (by kernel_rfl)
end Go.Proofs.Ytdconcindpfmcaa
end

section
/- The zero values of a seat's types, and that they are so. -/
namespace Go.Proofs.Ytdconcindpfmcaa
open V A
def Z : List (List Value) := [
  [], [.nilFunc], [.int .i64 0], [.int .i64 0], [.bool false], [.int .u8 0], [.int .u8 0], [.int .i64 0, .int .i64 0, .bool false, .int .u8 0],
  [.int .i64 0, .int .i64 0, .bool false, .int .u8 0], [.string ByteArray.empty], [.string ByteArray.empty], [.string ByteArray.empty], [.int .u64 0], [.string ByteArray.empty, .int .u64 0], [.string ByteArray.empty, .int .u64 0], [.pointer none],
  [.pointer none], [.pointer none], [.pointer none], [.pointer none], [.nilIface], [.int .i32 0], [.nilFunc], [.nilFunc],
  [.nilFunc], [.nilFunc], [.nilFunc], [.slice none 0 0], [.nilFunc], [.pointer none], [.nilFunc], [.slice none 0 0],
  [.int .i64 0], [], [.nilFunc], [.int .i64 0, .int .i64 0, .int .i64 0, .slice none 0 0], [.int .i64 0, .int .i64 0, .int .i64 0, .slice none 0 0], [], [.nilFunc], [.nilFunc],
  [.nilFunc], [.nilFunc], [.nilFunc], [.int .u64 0], [.pointer none], [.nilFunc], [.int .i64 0, .int .i64 0, .slice none 0 0], [.int .i64 0, .int .i64 0, .slice none 0 0],
  [.nilFunc], [.nilFunc], [.nilFunc], [.int .u64 0], [.nilFunc], [.slice none 0 0], [.nilFunc], [.nilFunc],
  [.slice none 0 0], [.nilFunc], [.slice none 0 0], [.slice none 0 0], [.int .i64 0, .int .i64 0, .int .i64 0, .int .u64 0, .int .u64 0, .slice none 0 0], [.int .i64 0, .int .i64 0, .int .i64 0, .int .u64 0, .int .u64 0, .slice none 0 0], [.nilFunc], [.nilFunc],
  [.slice none 0 0], [.pointer none], [.nilFunc], [.nilFunc], [], [.nilFunc], [], [.nilFunc],
  [.nilFunc], [.slice none 0 0], [.pointer none], [.slice none 0 0], [.slice none 0 0], [.slice none 0 0], [.slice none 0 0], [.slice none 0 0],
  [.map none], [.slice none 0 0, .map none], [.slice none 0 0, .map none], [.int .i64 0, .int .u64 0, .int .i64 0], [.int .i64 0, .int .u64 0, .int .i64 0], [.nilFunc], [.nilFunc], [.int .u64 0, .int .i64 0],
  [.int .u64 0, .int .i64 0], [.nilFunc], [.nilFunc], [.slice none 0 0], [.nilFunc], [.pointer none], [.slice none 0 0], [.slice none 0 0, .int .i64 0],
  [.slice none 0 0, .int .i64 0], [.slice none 0 0, .int .i64 0], [.slice none 0 0, .int .i64 0], [.nilFunc], [.int .i64 0, .int .i64 0, .int .i64 0, .int .u8 0, .slice none 0 0], [.int .i64 0, .int .i64 0, .int .i64 0, .int .u8 0, .slice none 0 0], [.nilFunc], [.nilFunc],
  [.nilFunc], [.nilFunc], [.nilFunc], [.nilFunc], [.nilFunc], [.nilFunc], [.nilFunc], [.nilFunc],
  [.map none], [.map none], [.map none], [.nilFunc], [.bool false, .int .i64 0, .slice none 0 0], [.bool false, .int .i64 0, .slice none 0 0], [.pointer none], [.map none],
  [.int .u64 0, .map none], [.int .u64 0, .map none], [], [.nilFunc], [.pointer none], [], [.int .u64 0, .int .i64 0, .int .i64 0], [.int .u64 0, .int .i64 0, .int .i64 0],
  [.nilFunc], [.pointer none], [.nilFunc], [.nilFunc], [.nilFunc], [.int .i64 0, .int .i64 0, .int .i64 0, .slice none 0 0], [], [.nilFunc],
  [.nilFunc], [.nilFunc], [.nilFunc], [.nilFunc], [.nilFunc], [], [.nilFunc], [.nilFunc],
  [.nilIface], [.nilIface], [.nilFunc], [.nilFunc], [.nilFunc], [.nilFunc], [.nilFunc], [.nilFunc],
  [.nilFunc], [.nilFunc], [.nilFunc], [.nilFunc], [.nilFunc], [.nilFunc], [.int .i64 0], [],
  [.nilFunc], [.nilFunc], [.nilFunc], [.nilFunc], [], [.nilFunc], [.nilFunc], [.int .u32 0],
  [.nilFunc], [.int .u64 0], [.nilFunc], [.nilFunc], [.nilFunc], [.pointer none], [.nilFunc], [.pointer none],
  [], [.nilFunc], [.nilFunc], [.pointer none, .pointer none, .pointer none, .string ByteArray.empty], [.pointer none, .pointer none, .pointer none, .string ByteArray.empty], [], [], [],
  [.int .u8 0], [.int .u8 0], [.nilFunc], [.pointer none], [.int .i32 0], [.int .i32 0], [.int .u64 0, .int .u64 0, .int .u32 0, .int .u8 0, .int .u8 0, .int .u8 0, .int .u8 0, .nilFunc, .pointer none, .int .i32 0, .int .i32 0], [.int .u64 0, .int .u64 0, .int .u32 0, .int .u8 0, .int .u8 0, .int .u8 0, .int .u8 0, .nilFunc, .pointer none, .int .i32 0, .int .i32 0],
  [.pointer none]]
set_option maxRecDepth 100000 in
theorem hZ : ZOk Try.prog Z := ZOk.of (by kernel_rfl)
end Go.Proofs.Ytdconcindpfmcaa
end
