/- What the machine knows of the types, and that it is so. -/
import Derived.Test.YtepjnmocepkfjaaProg
import Derived.Test.YtepjnmocepkfjaaV
namespace Go.Proofs.Ytepjnmocepkfjaa
open V
def T : List TD := [
  .non, .fn, .int .i64, .int .i64, .bool, .int .u8, .int .u8, .agg 4 [(0, 1, false), (1, 1, false), (2, 1, false), (3, 1, false)],
  .agg 4 [(0, 1, false), (1, 1, false), (2, 1, false), (3, 1, false)], .str, .str, .str, .int .u64, .agg 2 [(0, 1, false), (1, 1, false)], .agg 2 [(0, 1, false), (1, 1, false)], .ptr,
  .ptr, .ptr, .agg 1 [(0, 1, false)], .agg 1 [(0, 1, false)], .ifc, .int .i32, .fn, .ptr,
  .fn, .int .u64, .sl 5 1, .agg 6 [(0, 1, false), (1, 1, false), (2, 1, false), (3, 1, false), (4, 1, false), (5, 1, false)], .agg 6 [(0, 1, false), (1, 1, false), (2, 1, false), (3, 1, false), (4, 1, false), (5, 1, false)], .agg 9 [(0, 1, false), (1, 1, false), (2, 1, false), (3, 1, false), (4, 1, false), (5, 1, false), (6, 1, false), (7, 1, false), (8, 1, false)], .agg 9 [(0, 1, false), (1, 1, false), (2, 1, false), (3, 1, false), (4, 1, false), (5, 1, false), (6, 1, false), (7, 1, false), (8, 1, false)], .int .i64,
  .non, .fn, .non, .fn, .fn, .fn, .int .u16, .sl 28 6,
  .sl 30 9, .non, .fn, .fn, .sl 25 1, .fn, .fn, .sl 50 15,
  .fn, .agg 15 [(0, 1, false), (1, 1, false), (2, 1, false), (3, 1, false), (4, 1, false), (5, 1, false), (6, 9, true)], .agg 15 [(0, 1, false), (1, 1, false), (2, 1, false), (3, 1, false), (4, 1, false), (5, 1, false), (6, 9, true)], .fn, .non, .fn, .ptr, .sl 93 6,
  .agg 3 [(0, 1, false), (1, 1, false), (2, 1, false)], .agg 3 [(0, 1, false), (1, 1, false), (2, 1, false)], .fn, .fn, .non, .fn, .fn, .fn,
  .map, .ptr, .fn, .agg 4 [(0, 1, false), (1, 1, false), (2, 1, false), (3, 1, false)], .agg 4 [(0, 1, false), (1, 1, false), (2, 1, false), (3, 1, false)], .ptr, .fn, .agg 6 [(0, 1, false), (1, 1, false), (2, 1, false), (3, 1, false), (4, 1, false), (5, 1, false)],
  .agg 6 [(0, 1, false), (1, 1, false), (2, 1, false), (3, 1, false), (4, 1, false), (5, 1, false)], .fn, .fn, .fn, .fn, .non, .fn, .fn,
  .sl 69 1, .fn, .fn, .fn, .fn, .fn, .sl 3 1, .fn,
  .fn, .fn, .fn, .fn, .agg 6 [(0, 1, false), (1, 1, false), (2, 1, false), (3, 1, false), (4, 1, false), (5, 1, false)], .agg 6 [(0, 1, false), (1, 1, false), (2, 1, false), (3, 1, false), (4, 1, false), (5, 1, false)], .sl 99 1, .sl 99 1,
  .map, .agg 2 [(0, 1, false), (1, 1, false)], .agg 2 [(0, 1, false), (1, 1, false)], .ptr, .non, .agg 3 [(0, 1, false), (1, 1, false), (2, 1, false)], .agg 3 [(0, 1, false), (1, 1, false), (2, 1, false)], .fn,
  .ptr, .fn, .fn, .fn, .fn, .fn, .int .u64, .fn,
  .fn, .fn, .fn, .fn, .fn, .ifc, .ifc, .fn,
  .fn, .fn, .fn, .fn, .fn, .int .i64, .non, .fn,
  .fn, .fn, .fn, .non, .fn, .fn, .int .u32, .fn,
  .fn, .int .u64, .fn, .fn, .ptr, .fn, .ptr, .non,
  .fn, .fn, .agg 4 [(0, 1, false), (1, 1, false), (2, 1, false), (3, 1, false)], .agg 4 [(0, 1, false), (1, 1, false), (2, 1, false), (3, 1, false)], .arr 0 16 1, .non, .non, .int .u8,
  .int .u8, .fn, .ptr, .int .i32, .int .i32, .agg 11 [(0, 1, false), (1, 1, false), (2, 1, false), (3, 1, false), (4, 1, false), (5, 1, false), (6, 1, false), (7, 1, false), (8, 1, false), (9, 1, false), (10, 1, false)], .agg 11 [(0, 1, false), (1, 1, false), (2, 1, false), (3, 1, false), (4, 1, false), (5, 1, false), (6, 1, false), (7, 1, false), (8, 1, false), (9, 1, false), (10, 1, false)], .non]
set_option maxRecDepth 100000 in
theorem hT : TOk Try.prog T := TOk.of (by kernel_rfl)
end Go.Proofs.Ytepjnmocepkfjaa
