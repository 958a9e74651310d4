/- The zero values of a seat's types, and that they are so. -/
import Derived.Test.YtepjnmocepkfjaaT
import Derived.Test.YtepjnmocepkfjaaJ
namespace Go.Proofs.Ytepjnmocepkfjaa
open V A
def Z : List (List Value) := [
  [], [.nilFunc], [.int .i64 0], [.int .i64 0], [.bool false], [.int .u8 0], [.int .u8 0], [.int .i64 0, .int .i64 0, .bool false, .int .u8 0],
  [.int .i64 0, .int .i64 0, .bool false, .int .u8 0], [.string ByteArray.empty], [.string ByteArray.empty], [.string ByteArray.empty], [.int .u64 0], [.string ByteArray.empty, .int .u64 0], [.string ByteArray.empty, .int .u64 0], [.pointer none],
  [.pointer none], [.pointer none], [.pointer none], [.pointer none], [.nilIface], [.int .i32 0], [.nilFunc], [.pointer none],
  [.nilFunc], [.int .u64 0], [.slice none 0 0], [.int .i64 0, .int .i64 0, .int .u64 0, .int .i64 0, .int .i64 0, .slice none 0 0], [.int .i64 0, .int .i64 0, .int .u64 0, .int .i64 0, .int .i64 0, .slice none 0 0], [.int .i64 0, .int .i64 0, .int .u64 0, .int .i64 0, .int .u64 0, .int .i64 0, .int .i64 0, .int .i64 0, .slice none 0 0], [.int .i64 0, .int .i64 0, .int .u64 0, .int .i64 0, .int .u64 0, .int .i64 0, .int .i64 0, .int .i64 0, .slice none 0 0], [.int .i64 0],
  [], [.nilFunc], [], [.nilFunc], [.nilFunc], [.nilFunc], [.int .u16 0], [.slice none 0 0],
  [.slice none 0 0], [], [.nilFunc], [.nilFunc], [.slice none 0 0], [.nilFunc], [.nilFunc], [.slice none 0 0],
  [.nilFunc], [.int .i64 0, .int .i64 0, .int .u64 0, .int .i64 0, .int .i64 0, .slice none 0 0, .int .i64 0, .int .i64 0, .int .u64 0, .int .i64 0, .int .u64 0, .int .i64 0, .int .i64 0, .int .i64 0, .slice none 0 0], [.int .i64 0, .int .i64 0, .int .u64 0, .int .i64 0, .int .i64 0, .slice none 0 0, .int .i64 0, .int .i64 0, .int .u64 0, .int .i64 0, .int .u64 0, .int .i64 0, .int .i64 0, .int .i64 0, .slice none 0 0], [.nilFunc], [], [.nilFunc], [.pointer none], [.slice none 0 0],
  [.int .i64 0, .int .u64 0, .slice none 0 0], [.int .i64 0, .int .u64 0, .slice none 0 0], [.nilFunc], [.nilFunc], [], [.nilFunc], [.nilFunc], [.nilFunc],
  [.map none], [.pointer none], [.nilFunc], [.int .i64 0, .int .u64 0, .map none, .pointer none], [.int .i64 0, .int .u64 0, .map none, .pointer none], [.pointer none], [.nilFunc], [.int .u64 0, .int .i64 0, .slice none 0 0, .int .i64 0, .int .i64 0, .int .i64 0],
  [.int .u64 0, .int .i64 0, .slice none 0 0, .int .i64 0, .int .i64 0, .int .i64 0], [.nilFunc], [.nilFunc], [.nilFunc], [.nilFunc], [], [.nilFunc], [.nilFunc],
  [.slice none 0 0], [.nilFunc], [.nilFunc], [.nilFunc], [.nilFunc], [.nilFunc], [.slice none 0 0], [.nilFunc],
  [.nilFunc], [.nilFunc], [.nilFunc], [.nilFunc], [.int .u64 0, .int .i64 0, .slice none 0 0, .int .i64 0, .int .i64 0, .int .i64 0], [.int .u64 0, .int .i64 0, .slice none 0 0, .int .i64 0, .int .i64 0, .int .i64 0], [.slice none 0 0], [.slice none 0 0],
  [.map none], [.slice none 0 0, .map none], [.slice none 0 0, .map none], [.pointer none], [], [.int .u64 0, .int .i64 0, .int .i64 0], [.int .u64 0, .int .i64 0, .int .i64 0], [.nilFunc],
  [.pointer none], [.nilFunc], [.nilFunc], [.nilFunc], [.nilFunc], [.nilFunc], [.int .u64 0], [.nilFunc],
  [.nilFunc], [.nilFunc], [.nilFunc], [.nilFunc], [.nilFunc], [.nilIface], [.nilIface], [.nilFunc],
  [.nilFunc], [.nilFunc], [.nilFunc], [.nilFunc], [.nilFunc], [.int .i64 0], [], [.nilFunc],
  [.nilFunc], [.nilFunc], [.nilFunc], [], [.nilFunc], [.nilFunc], [.int .u32 0], [.nilFunc],
  [.nilFunc], [.int .u64 0], [.nilFunc], [.nilFunc], [.pointer none], [.nilFunc], [.pointer none], [],
  [.nilFunc], [.nilFunc], [.pointer none, .pointer none, .pointer none, .string ByteArray.empty], [.pointer none, .pointer none, .pointer none, .string ByteArray.empty], [], [], [], [.int .u8 0],
  [.int .u8 0], [.nilFunc], [.pointer none], [.int .i32 0], [.int .i32 0], [.int .u64 0, .int .u64 0, .int .u32 0, .int .u8 0, .int .u8 0, .int .u8 0, .int .u8 0, .nilFunc, .pointer none, .int .i32 0, .int .i32 0], [.int .u64 0, .int .u64 0, .int .u32 0, .int .u8 0, .int .u8 0, .int .u8 0, .int .u8 0, .nilFunc, .pointer none, .int .i32 0, .int .i32 0], [.pointer none]]
set_option maxRecDepth 100000 in
theorem hZ : ZOk Try.prog Z := ZOk.of (by kernel_rfl)
end Go.Proofs.Ytepjnmocepkfjaa
