/- The zero values of a seat's types, and that they are so. -/
import Derived.Test.YtdconcindpfmcaaT
import Derived.Test.YtdconcindpfmcaaJ
namespace Go.Proofs.Ytdconcindpfmcaa
open V A
def Z : List (List Value) := [
  [], [.nilFunc], [.int .i64 0], [.int .i64 0], [.bool false], [.int .u8 0], [.int .u8 0], [.int .i64 0, .int .i64 0, .bool false, .int .u8 0],
  [.int .i64 0, .int .i64 0, .bool false, .int .u8 0], [.string ByteArray.empty], [.string ByteArray.empty], [.string ByteArray.empty], [.int .u64 0], [.string ByteArray.empty, .int .u64 0], [.string ByteArray.empty, .int .u64 0], [.pointer none],
  [.pointer none], [.pointer none], [.pointer none], [.pointer none], [.nilIface], [.int .i32 0], [.nilFunc], [.nilFunc],
  [.nilFunc], [.nilFunc], [.nilFunc], [.slice none 0 0], [.nilFunc], [.pointer none], [.nilFunc], [.slice none 0 0],
  [.int .i64 0], [], [.nilFunc], [.int .i64 0, .int .i64 0, .int .i64 0, .slice none 0 0], [.int .i64 0, .int .i64 0, .int .i64 0, .slice none 0 0], [], [.nilFunc], [.nilFunc],
  [.nilFunc], [.nilFunc], [.nilFunc], [.int .u64 0], [.pointer none], [.nilFunc], [.int .i64 0, .int .i64 0, .slice none 0 0], [.int .i64 0, .int .i64 0, .slice none 0 0],
  [.nilFunc], [.nilFunc], [.nilFunc], [.int .u64 0], [.nilFunc], [.slice none 0 0], [.nilFunc], [.nilFunc],
  [.slice none 0 0], [.nilFunc], [.slice none 0 0], [.slice none 0 0], [.int .i64 0, .int .i64 0, .int .i64 0, .int .u64 0, .int .u64 0, .slice none 0 0], [.int .i64 0, .int .i64 0, .int .i64 0, .int .u64 0, .int .u64 0, .slice none 0 0], [.nilFunc], [.nilFunc],
  [.slice none 0 0], [.pointer none], [.nilFunc], [.nilFunc], [], [.nilFunc], [], [.nilFunc],
  [.nilFunc], [.slice none 0 0], [.pointer none], [.slice none 0 0], [.slice none 0 0], [.slice none 0 0], [.slice none 0 0], [.slice none 0 0],
  [.map none], [.slice none 0 0, .map none], [.slice none 0 0, .map none], [.int .i64 0, .int .u64 0, .int .i64 0], [.int .i64 0, .int .u64 0, .int .i64 0], [.nilFunc], [.nilFunc], [.int .u64 0, .int .i64 0],
  [.int .u64 0, .int .i64 0], [.nilFunc], [.nilFunc], [.slice none 0 0], [.nilFunc], [.pointer none], [.slice none 0 0], [.slice none 0 0, .int .i64 0],
  [.slice none 0 0, .int .i64 0], [.slice none 0 0, .int .i64 0], [.slice none 0 0, .int .i64 0], [.nilFunc], [.int .i64 0, .int .i64 0, .int .i64 0, .int .u8 0, .slice none 0 0], [.int .i64 0, .int .i64 0, .int .i64 0, .int .u8 0, .slice none 0 0], [.nilFunc], [.nilFunc],
  [.nilFunc], [.nilFunc], [.nilFunc], [.nilFunc], [.nilFunc], [.nilFunc], [.nilFunc], [.nilFunc],
  [.map none], [.map none], [.map none], [.nilFunc], [.bool false, .int .i64 0, .slice none 0 0], [.bool false, .int .i64 0, .slice none 0 0], [.pointer none], [.map none],
  [.int .u64 0, .map none], [.int .u64 0, .map none], [], [.nilFunc], [.pointer none], [], [.int .u64 0, .int .i64 0, .int .i64 0], [.int .u64 0, .int .i64 0, .int .i64 0],
  [.nilFunc], [.pointer none], [.nilFunc], [.nilFunc], [.nilFunc], [.int .i64 0, .int .i64 0, .int .i64 0, .slice none 0 0], [], [.nilFunc],
  [.nilFunc], [.nilFunc], [.nilFunc], [.nilFunc], [.nilFunc], [], [.nilFunc], [.nilFunc],
  [.nilIface], [.nilIface], [.nilFunc], [.nilFunc], [.nilFunc], [.nilFunc], [.nilFunc], [.nilFunc],
  [.nilFunc], [.nilFunc], [.nilFunc], [.nilFunc], [.nilFunc], [.nilFunc], [.int .i64 0], [],
  [.nilFunc], [.nilFunc], [.nilFunc], [.nilFunc], [], [.nilFunc], [.nilFunc], [.int .u32 0],
  [.nilFunc], [.int .u64 0], [.nilFunc], [.nilFunc], [.nilFunc], [.pointer none], [.nilFunc], [.pointer none],
  [], [.nilFunc], [.nilFunc], [.pointer none, .pointer none, .pointer none, .string ByteArray.empty], [.pointer none, .pointer none, .pointer none, .string ByteArray.empty], [], [], [],
  [.int .u8 0], [.int .u8 0], [.nilFunc], [.pointer none], [.int .i32 0], [.int .i32 0], [.int .u64 0, .int .u64 0, .int .u32 0, .int .u8 0, .int .u8 0, .int .u8 0, .int .u8 0, .nilFunc, .pointer none, .int .i32 0, .int .i32 0], [.int .u64 0, .int .u64 0, .int .u32 0, .int .u8 0, .int .u8 0, .int .u8 0, .int .u8 0, .nilFunc, .pointer none, .int .i32 0, .int .i32 0],
  [.pointer none]]
set_option maxRecDepth 100000 in
theorem hZ : ZOk Try.prog Z := ZOk.of (by kernel_rfl)
end Go.Proofs.Ytdconcindpfmcaa
